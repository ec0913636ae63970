/-
  AutoWalk: both answers in one form; ways written over.
-/
import Derived.Test.YtioacgjggogflabQC
namespace Go.Proofs.Ytioacgjggogflab
open Go.ChangeShapes Go.WideShapes Go.ChangeAt Go.RowKit Go.Deep Go.Joins Go.Instr
def zeroD : PrD := ⟨ByteArray.empty, 0, .slice none 0 0, .slice none 0 0, .slice none 0 0, 0, 0, 0, 0, 0, [], [], []⟩
/-- What both come to. -/
def SpecW (x : PrD) (more : List Int) (q : PrD) (er : Int) (L : List Int) : Prop :=
  (fitB x more = true → PrA q (wS x more) ∧ L = (stW x more).1 ∧ er = 0) ∧ (fitB x more = false → q = zeroD ∧ L = [] ∧ er = 16)
theorem LoA.symm {x y : LoD} (h : LoA x y) : LoA y x := ⟨h.1.symm, h.2.1.symm, h.2.2.1.symm, h.2.2.2.1.symm, h.2.2.2.2.1.symm, h.2.2.2.2.2.1.symm, h.2.2.2.2.2.2.symm⟩
theorem LoA.trans {x y z : LoD} (h : LoA x y) (k : LoA y z) : LoA x z := ⟨h.1.trans k.1, h.2.1.trans k.2.1, h.2.2.1.trans k.2.2.1, h.2.2.2.1.trans k.2.2.2.1, h.2.2.2.2.1.trans k.2.2.2.2.1, h.2.2.2.2.2.1.trans k.2.2.2.2.2.1, h.2.2.2.2.2.2.trans k.2.2.2.2.2.2⟩
theorem LoA.refl (x : LoD) : LoA x x := ⟨rfl, rfl, rfl, rfl, rfl, rfl, rfl⟩
theorem PrA.both {x y z : PrD} (h : PrA x z) (k : PrA y z) : PrA x y :=
  ⟨h.name.trans k.name.symm, h.params.trans k.params.symm, h.start.trans k.start.symm, h.final.trans k.final.symm, h.active.trans k.active.symm, h.prio.trans k.prio.symm, h.provided.trans k.provided.symm, h.frame.trans k.frame.symm, h.init.trans k.init.symm, h.len.trans k.len.symm, fun i hi => (h.locs i hi).trans (k.locs i (by rw [k.len, ← h.len]; exact hi)).symm⟩
theorem PrA.refl (x : PrD) : PrA x x := ⟨rfl, rfl, rfl, rfl, rfl, rfl, rfl, rfl, rfl, rfl, fun _ _ => LoA.refl _⟩
theorem SpecW.alike {x : PrD} {more : List Int} {q1 q2 : PrD} {e1 e2 : Int} {L1 L2 : List Int} (h1 : SpecW x more q1 e1 L1) (h2 : SpecW x more q2 e2 L2) : PrA q1 q2 ∧ L1 = L2 ∧ e1 = e2 := by
  cases h : fitB x more with
  | true =>
    obtain ⟨a, b, c⟩ := h1.1 h
    obtain ⟨a', b', c'⟩ := h2.1 h
    exact ⟨a.both a', by rw [b, b'], by rw [c, c']⟩
  | false =>
    obtain ⟨a, b, c⟩ := h1.2 h
    obtain ⟨a', b', c'⟩ := h2.2 h
    exact ⟨by rw [a, a']; exact PrA.refl _, by rw [b, b'], by rw [c, c']⟩
theorem zero_rd (w : World) : zeroD.rd w :=
  ⟨sl_of_ow (ow_nil w 0 62 2 TyD.enc), sl_of_ow (ow_nil w 0 3 1 iEnc), sl_of_ow (ow_nil w 0 36 7 LoD.enc), fun t ht => by simp [zeroD] at ht⟩
/-- auto.Walk's answer. -/
def AR (x : PrD) (more : List Int) (w : World) (e : Ending) (w' : World) : Prop :=
  ∃ q nv er L, e = .returned (.tuple #[q.val, nv, .int .i64 er]) ∧ SpecW x more q er L ∧ Ow w' w.heap.size 3 1 iEnc nv L ∧ q.rd w' ∧ Ow w' w.heap.size 36 7 LoD.enc q.lv q.locs ∧ (∀ t ∈ q.locs, LoW w w.heap.size w' t) ∧ Below w.heap.size w w'
/-- The reference's. -/
def RR (x : PrD) (more : List Int) (w : World) (e : Ending) (w' : World) : Prop :=
  ∃ q nv er L, e = .returned (.tuple #[q.val, nv, .int .i64 er]) ∧ SpecW x more q er L ∧ Ow w' w.heap.size 3 1 iEnc nv L ∧ q.rd w' ∧ Below w.heap.size w w'
theorem AR.of {x : PrD} {more : List Int} {w w' : World} {e : Ending} (h : (fitB x more = true → WalkA x more w e w') ∧ (fitB x more = false → e = .returned (.tuple #[zeroV, .slice none 0 0, .int .i64 16]) ∧ Below w.heap.size w w')) : AR x more w e w' := by
  cases hf : fitB x more with
  | true =>
    obtain ⟨q, nv, h1, h2, h3, h4, h5, h6, h7⟩ := h.1 hf
    exact ⟨q, nv, 0, _, h1, ⟨fun _ => ⟨h2, rfl, rfl⟩, fun h => (by rw [hf] at h; exact absurd h (by decide))⟩, h3, h4, h5, h6, h7⟩
  | false =>
    obtain ⟨h1, h2⟩ := h.2 hf
    exact ⟨zeroD, .slice none 0 0, 16, [], h1, ⟨fun h => (by rw [hf] at h; exact absurd h (by decide)), fun _ => ⟨rfl, rfl, rfl⟩⟩, ow_nil _ _ _ _ _, zero_rd w', ow_nil _ _ _ _ _, fun t ht => by simp [zeroD] at ht, h2⟩
/-- A row of ways of which one 'To' is written over is still one. -/
theorem ow_set {w : World} {B b p : Nat} {v : Value} {l : List TrD} (h : Ow w B 40 9 TrD.enc v l) (j : Nat) (u : Int) (hp : p = j * 9 + 7) : ∃ l' : List TrD, l'.length = l.length ∧ Ow (w.setCell ⟨b, p, none⟩ (.int .i64 u)) B 40 9 TrD.enc v l' := by
  subst hp
  by_cases hv : v.ownBlock = some b
  · rcases ownsRow_forms h with ⟨e1, e2⟩ | ⟨g, cap, e1⟩
    · rw [e1] at hv
      simp [Value.ownBlock] at hv
    · rw [e1] at hv
      have hg : g = b := by simpa [Value.ownBlock] using hv
      subst hg
      subst e1
      have hst := (World.ownsRow.stored h (j * 9 + 7) (.int .i64 u)).1
      by_cases hj : j < l.length
      · refine ⟨l.set j { l.getD j default with to := u }, by simp, ?_⟩
        unfold Ow
        rw [fle_tr_set _ _ _ hj, List.length_set]
        exact hst
      · refine ⟨l, rfl, ?_⟩
        unfold Ow
        have e : (fle 9 TrD.enc l).set (j * 9 + 7) (.int .i64 u) = fle 9 TrD.enc l := by
          rw [List.set_eq_of_length_le]
          rw [fle_len]
          omega
        rw [e] at hst
        exact hst
  · exact ⟨l, rfl, ownsRow_setCell_other h (a := ⟨b, j * 9 + 7, none⟩) hv _⟩
theorem LoD.ok.keep {w w' : World} {y : LoD} (h : y.ok w) (hb : Below w.heap.size w w') : y.ok w' :=
  ⟨h.ov.keep hb, fun t ht => (h.out t ht).keep hb, h.on, h.oz, h.ev.keep hb, fun e he => ⟨(h.esc e he).1.keep hb, fun t ht => ((h.esc e he).2.1 t ht).keep hb, (h.esc e he).2.2⟩, h.en, h.ez⟩
theorem PrD.ok.keep {w w' : World} {x : PrD} (h : x.ok w) (hb : Below w.heap.size w w') : x.ok w' :=
  ⟨h.params, h.start, h.final, h.active, h.prio, h.provided, h.fv.keep hb, h.fz, h.iv.keep hb, h.init, h.iz, h.lv.keep hb, fun t ht => (h.locs t ht).keep hb, h.lz⟩
theorem PrD.ok.rd {w : World} {x : PrD} (h : x.ok w) : x.rd w := ⟨h.fv, h.iv, h.lv, fun t ht => lo_rd (h.locs t ht)⟩
theorem LoD.ok.sm {w : World} {y : LoD} (h : y.ok w) : y.sm := ⟨h.on, h.en, h.oz, h.ez, fun t ht => ⟨(h.esc t ht).2.2.1, (h.esc t ht).2.2.2⟩⟩
end Go.Proofs.Ytioacgjggogflab
