/-
  What a walk comes to: plain; the graph behind meets.
-/
import Derived.Test.YtioacgjggogflabK
namespace Go.Proofs.Ytioacgjggogflab
open Go.ChangeShapes Go.WideShapes Go.ChangeAt Go.RowKit Go.Deep Go.Joins Go.Instr
/-- Where the ways of lists lead. -/
def tosL (l : List EsD) : List Int := l.flatMap fun e => e.l.map TrD.to
def lsOf (y : LoD) : List EsD := ⟨y.ov, y.out⟩ :: y.esc
def nextF (x : PrD) (i : Int) : List Int := tosL (lsOf (x.locs.getD i.toNat default))
/-- The numbers and the order that a walk comes to. -/
def st0 (x : PrD) : St := (List.replicate x.locs.length (-1), [])
def stW (x : PrD) (more : List Int) : St := mt x.final (goA (nextF x) (x.locs.length + 1) (x.start :: more) (0, st0 x)).2
def renE (N : List Int) (e : EsD) : EsD := { e with l := e.l.map (ren N) }
def renL (N : List Int) (y : LoD) : LoD := { y with out := y.out.map (ren N), esc := y.esc.map (renE N) }
/-- The proctype that a walk comes to. -/
def wS (x : PrD) (more : List Int) : PrD :=
  { x with start := (stW x more).1.getD x.start.toNat default, final := (stW x more).1.getD x.final.toNat default, locs := (stW x more).2.map fun i => renL (stW x more).1 (x.locs.getD i.toNat default) }
def zeroV : Value := .agg #[.string ByteArray.empty, .int .i64 0, .slice none 0 0, .slice none 0 0, .slice none 0 0, .int .i64 0, .int .i64 0, .int .i64 0, .int .i64 0, .int .i64 0]
theorem foldM_app (a b : List Int) (s : St) : foldM (a ++ b) s = foldM b (foldM a s) := by simp [foldM]
theorem tosL_snoc (l : List EsD) (j : Nat) (h : j < l.length) : tosL (l.take (j + 1)) = tosL (l.take j) ++ (l.getD j default).l.map TrD.to := by
  unfold tosL
  rw [List.take_succ_eq_append_getElem h, List.flatMap_append, List.getD_eq_getElem?_getD, List.getElem?_eq_getElem h]
  simp
theorem scan_stop (next : Int → List Int) (f d : Nat) (s : St) (h : ¬ d < s.2.length) : scan next f d s = (d, s) := by
  cases f with
  | zero => rfl
  | succ f => rw [scan, if_neg h]
theorem scan_go (next : Int → List Int) (f d : Nat) (s : St) (h : d < s.2.length) : scan next (f + 1) d s = scan next f (d + 1) (foldM (next (s.2.getD d default)) s) := by rw [scan, if_pos h]
def WalkP (x : PrD) (more : List Int) (w : World) (e : Ending) (w' : World) : Prop :=
  ∃ q nv, e = .returned (.tuple #[q.val, nv, .int .i64 0]) ∧ q.rd w' ∧ PrA q (wS x more) ∧ Sl w' 1 iEnc nv (stW x more).1 ∧ Below w.heap.size w w'
theorem Gr.keep {w w' : World} {base gb : Nat} {nv ov : Value} {s : St} (h : Gr w base gb nv ov s) (hb : Below w.heap.size w w') : Gr w' base gb nv ov s :=
  ⟨(hb.block gb (lt_of_block h.g)).trans h.g, h.n.keep hb, h.o.keep hb, h.d⟩
/-- How the graph stands behind some meets. -/
structure MR (n : Nat) (w4 wr : World) (B gb : Nat) (nv ov' ov : Value) (s : St) : Prop where
  gr : Gr wr B gb nv ov s
  st : StI n s
  out : OutsP (fun k => k = gb ∨ nv.ownBlock = some k ∨ ov'.ownBlock = some k) w4 wr
  ob : ∀ k, ov.ownBlock = some k → ov'.ownBlock = some k ∨ w4.heap.size ≤ k
  low : ∀ k, (k = gb ∨ nv.ownBlock = some k ∨ ov'.ownBlock = some k) → B ≤ k ∧ k < w4.heap.size
theorem MR.start {n : Nat} {w : World} {B gb : Nat} {nv ov : Value} {s : St} (h : Gr w B gb nv ov s) (hs : StI n s) (hg : B ≤ gb) : MR n w w B gb nv ov ov s :=
  ⟨h, hs, OutsP.refl _ _, fun k h => .inl h, fun k hk => by
    rcases hk with rfl | hk | hk
    · exact ⟨hg, lt_of_block h.g⟩
    · exact h.n.lt k hk
    · exact h.o.lt k hk⟩
theorem MR.below {n : Nat} {w4 wr : World} {B gb : Nat} {nv ov' ov : Value} {s : St} (h : MR n w4 wr B gb nv ov' ov s) (hb : B ≤ w4.heap.size) : Below B w4 wr :=
  h.out.below hb (fun k hk => (h.low k hk).1)
theorem MR.meet {n : Nat} {w4 wr w' : World} {B gb : Nat} {nv ov' ov : Value} {s : St} {p : Int} {e : Ending} (h : MR n w4 wr B gb nv ov' ov s) (hp : inF n p = true) (hm : MeetP wr B gb nv ov (mt p s) e w') : e = .returned (.tuple #[]) ∧ ∃ ov2, MR n w4 w' B gb nv ov' ov2 (mt p s) := by
  obtain ⟨he, ov2, hg, ho, hb⟩ := hm
  refine ⟨he, ov2, hg, h.st.mt hp, h.out.trans ho (fun k hk => ?_), fun k hk => ?_, h.low⟩
  · rcases hk with hk | hk | hk
    · exact .inl (.inl hk)
    · exact .inl (.inr (.inl hk))
    · rcases h.ob k hk with h1 | h1
      · exact .inl (.inr (.inr h1))
      · exact .inr h1
  · rcases hb k hk with h1 | h1
    · exact h.ob k h1
    · exact .inr (Nat.le_trans h.out.size h1)
theorem drop_getD (l : List Int) (k : Nat) (h : k < l.length) : l.drop k = l.getD k default :: l.drop (k + 1) := by
  rw [List.getD_eq_getElem?_getD, List.getElem?_eq_getElem h]
  exact List.drop_eq_getElem_cons h
theorem ow_ne3 {α β : Type} {w : World} {b1 b2 E1 E2 s1 s2 : Nat} {e1 : α → Nat → Value} {e2 : β → Nat → Value} {v1 v2 : Value} {l1 : List α} {l2 : List β} (h1 : Ow w b1 E1 s1 e1 v1 l1) (h2 : Ow w b2 E2 s2 e2 v2 l2) (hE : E1 ≠ E2) (h : v1.ownBlock = v2.ownBlock) (hn : v1.ownBlock ≠ none) : False := by
  rcases h1.2 with ⟨rfl, _⟩ | ⟨g, cap, cur, rfl, _, hh, _⟩
  · exact hn rfl
  · rcases h2.2 with ⟨rfl, _⟩ | ⟨g2, cap2, cur2, rfl, _, hh2, _⟩
    · simp [Value.ownBlock] at h
    · obtain rfl : g = g2 := by simpa [Value.ownBlock] using h
      rw [hh] at hh2
      simp at hh2
      exact hE hh2.2
theorem ow_ne2 {α β : Type} {w : World} {b1 b2 s1 s2 : Nat} {e1 : α → Nat → Value} {e2 : β → Nat → Value} {v1 v2 : Value} {l1 : List α} {l2 : List β} (h1 : Ow w b1 40 s1 e1 v1 l1) (h2 : Ow w b2 33 s2 e2 v2 l2) (h : v1.ownBlock = v2.ownBlock) (hn : v1.ownBlock ≠ none) : False := by
  rcases h1.2 with ⟨rfl, _⟩ | ⟨g, cap, cur, rfl, _, hh, _⟩
  · exact hn rfl
  · rcases h2.2 with ⟨rfl, _⟩ | ⟨g2, cap2, cur2, rfl, _, hh2, _⟩
    · simp [Value.ownBlock] at h
    · obtain rfl : g = g2 := by simpa [Value.ownBlock] using h
      rw [hh] at hh2
      simp at hh2
/-- A place whose ways lie in memory of the walk's own. -/
structure LoW (w : World) (B : Nat) (wr : World) (t : LoD) : Prop where
  ov : Ow wr B 40 9 TrD.enc t.ov t.out
  out : ∀ u ∈ t.out, u.ok w
  ev : Ow wr B 33 1 EsD.enc t.ev t.esc
  esc : ∀ e ∈ t.esc, Ow wr B 40 9 TrD.enc e.v e.l ∧ ∀ u ∈ e.l, u.ok w
theorem Ow.outs {α : Type} {S : Nat → Prop} {w w' : World} {base E sz : Nat} {enc : α → Nat → Value} {v : Value} {l : List α} (h : Ow w base E sz enc v l) (ho : OutsP S w w') (hS : ∀ k, base ≤ k → k < w.heap.size → ¬ S k) : Ow w' base E sz enc v l :=
  own_outs h ho (fun g hg => hS g (h.lt g hg).1 (h.lt g hg).2)
theorem Ow.base {α : Type} {w : World} {base base' E sz : Nat} {enc : α → Nat → Value} {v : Value} {l : List α} (h : Ow w base E sz enc v l) (hb : base' ≤ base) : Ow w base' E sz enc v l := own_base h hb
theorem LoW.outs {S : Nat → Prop} {w wr wr' : World} {B : Nat} {t : LoD} (h : LoW w B wr t) (ho : OutsP S wr wr') (hS : ∀ k, B ≤ k → k < wr.heap.size → ¬ S k) : LoW w B wr' t :=
  ⟨h.ov.outs ho hS, h.out, h.ev.outs ho hS, fun e he => ⟨(h.esc e he).1.outs ho hS, (h.esc e he).2⟩⟩
theorem LoW.rd {w wr : World} {B : Nat} {t : LoD} (h : LoW w B wr t) (hb : Below w.heap.size w wr) : t.rd wr :=
  ⟨sl_of_ow h.ov, fun u hu => (h.out u hu).keep hb, sl_of_ow h.ev, fun e he => ⟨sl_of_ow (h.esc e he).1, fun u hu => ((h.esc e he).2 u hu).keep hb⟩⟩
theorem ren_ok {w : World} {N : List Int} {t : TrD} (h : t.ok w) (ht : inF N.length t.to = true) (hN : ∀ x ∈ N, okI x) : (ren N t).ok w := by
  obtain ⟨h0, h1⟩ := inF_iff.1 ht
  exact { kind := h.kind, a := h.a, b := h.b, n := h.n, to := hN _ (mem_getD (by omega)), line := h.line, text := h.text, av := h.av, args := h.args, an := h.an, az := h.az, mv := h.mv, mat := h.mat, mz := h.mz }
def ZARR : Array Value := #[.string ByteArray.empty, .int .i64 0, .slice none 0 0, .slice none 0 0, .slice none 0 0, .int .i64 0, .int .i64 0, .int .i64 0, .int .i64 0, .int .i64 0]
end Go.Proofs.Ytioacgjggogflab
