/- Part of the proof of SyntaxLooseCardSaid (MA MD). -/
import Derived.Test.YthkebhjaaikopaaGreatDoorM01
import Derived.Laws.CopyRow
import Derived.OwnWalk
set_option maxHeartbeats 8000000
namespace Go.Proofs.YthkebhjaaikopaaGreatDoor
open Go.ChangeShapes Go.WideShapes Go.ChangeAt Go.RowKit Go.Deep Go.Joins Go.Instr
def fB (w : World) (E : aN) (v : Value) (T : List mz) : Prop := Sl w 6 E.encN v T ∧ ∀ i, i < T.length → Sl w 1 bC (T.getD i default).kv (T.getD i default).nd.kids
theorem fB.keep {w w' : World} {E : aN} {v : Value} {T : List mz} (hb : Below w.heap.size w w') (h : fB w E v T) : fB w' E v T := ⟨h.1.keep hb, fun i hi => (h.2 i hi).keep hb⟩
theorem gD {w : World} {E : aN} {b : Nat} {v : Value} {T : List mz} (h : Ow w b 39 6 E.encN v T) (hk : ∀ t ∈ T, Ow w b 3 1 bC t.kv t.nd.kids) : fB w E v T :=
 ⟨ek h, fun i hi => by
  rw [List.getD_eq_getElem?_getD, List.getElem?_eq_getElem hi]; exact ek (hk _ (List.getElem_mem hi))⟩
theorem lS {w : World} {E : aN} {b off : Nat} {x : mz} (h : ∀ j, j < 6 → w.cell? ⟨b, off + j, none⟩ = some (E.encN x j)) :
  w.cell? ⟨b, off, none⟩ = some (.int .i64 x.nd.kind) ∧ w.cell? ⟨b, off + 1, none⟩ = some (.int .i64 (E.tk x.nd.pos).at1) ∧ w.cell? ⟨b, off + 2, none⟩ = some (.int .i64 (E.tk x.nd.pos).line) ∧ w.cell? ⟨b, off + 3, none⟩ = some (.string x.nd.text) ∧ w.cell? ⟨b, off + 4, none⟩ = some (.int .i64 x.nd.n) ∧ w.cell? ⟨b, off + 5, none⟩ = some x.kv :=
 ⟨h 0 (by omega), h 1 (by omega), h 2 (by omega), h 3 (by omega), h 4 (by omega), h 5 (by omega)⟩
set_option maxRecDepth 100000 in
theorem ix (E1 E2 : aN) (T1 T2 : List mz) (v1 v2 : Value) (w : World) (h1 : fB w E1 v1 T1) (h2 : fB w E2 v2 T2) (he : T1.map mz.nd = T2.map mz.nd) :
  Calls Tryz.prog 10 #[v1, v2, .bool true] w fun e w' => e = .returned (.bool true) ∧ Below w.heap.size w w' := by
 have hl : T1.length = T2.length := by have := congrArg List.length he; simpa using this
 have hn : ∀ k, k < T1.length → (T1.getD k default).nd = (T2.getD k default).nd := fun k hk => by
  have h3 := congrArg (fun l => l[k]?) he; simp only [List.getElem?_map] at h3; rw [List.getD_eq_getElem?_getD, List.getD_eq_getElem?_getD]; rw [List.getElem?_eq_getElem hk, List.getElem?_eq_getElem (by omega)] at h3 ⊢; simpa using h3
 have HK1 := qd h1.2; have HK2 := qd h2.2; obtain ⟨aa, ca, rfl, ma, HA⟩ := aV h1.1; obtain ⟨ab, cb, rfl, mb, HB⟩ := aV h2.1; have HN := qd hn; clear h1 h2 he hn; rw [← hl] at HB HK2 ⊢; clear mb hl; go_enter Tryz.func10, Tryz.ntmps10; go_wp2
 go_loopw [7] (fun i wr => ∃ k : Nat, k ≤ T1.length ∧ i = .int .i64 k ∧ Below w.heap.size w wr) (fun i _ => T1.length - (intOf i).toNat)
 case atStart => exact ⟨0, Nat.zero_le _, rfl, by go_grown⟩
 case round =>
  obtain ⟨k, hk, rfl, hB⟩ := hrel
  by_cases hlt : k < T1.length
  · obtain ⟨ba, oa, rfl, hba, hca⟩ := HA.out (by omega); obtain ⟨bb, ob, rfl, hbb, hcb⟩ := HB.out (by omega); have c := lS (w := wr) (b := ba) (off := oa + k * 6) fun j hj => (hB.cell (p := ⟨ba, oa + k * 6 + j, none⟩) hba).trans (hca k hlt j hj)
    have d := lS (w := wr) (b := bb) (off := ob + k * 6) fun j hj => (hB.cell (p := ⟨bb, ob + k * 6 + j, none⟩) hbb).trans (hcb k hlt j hj)
    clear hca hcb; have e1 := HN.out k hlt; have k1 := (HK1.out k hlt).keep hB; have k2 := (HK2.out k hlt).keep hB; generalize T1.getD k default = x at *; generalize T2.getD k default = y at *; obtain ⟨⟨x0, x1, x2, x3, x4⟩, kx⟩ := x; obtain ⟨⟨y0, y1, y2, y3, y4⟩, ky⟩ := y; injection e1 with e1 _ e3 e4 e5; subst e1; subst e3; subst e4; subst e5; simp only at c d k1 k2; obtain ⟨a1, c1, rfl, m1, H1⟩ := aV k1; obtain ⟨a2, c2, rfl, -, H2⟩ := aV k2; obtain ⟨d0, d1, d2, d3, d4, d5⟩ := d; obtain ⟨b0, b1, b2, b3, b4, b5⟩ := c; generalize (E1.tk x1).at1 = p1 at *; generalize (E1.tk x1).line = p2 at *; generalize (E2.tk y1).at1 = q1 at *; generalize (E2.tk y1).line = q2 at *; clear k1 k2; generalize hn : x4.length = n at *; have H1' := fun h => H1.out h
    have HX1 := qd H1'; have H2' := fun h => H2.out h
    have HX2 := qd H2'; clear H1 H2 H1' H2' hn; have hsz := hB.size; have hba' : ba < wr.heap.size := by omega
    have hbb' : bb < wr.heap.size := by omega
    go_wp2_with fail
    go_loopw [10] (fun i wq => ∃ j : Nat, j ≤ n ∧ i = .int .i64 j ∧ Below wr.heap.size wr wq ∧ wq.cell? ⟨wr.heap.size, 5, none⟩ = some (.slice a1 n c1) ∧ wq.cell? ⟨wr.heap.size + 1, 5, none⟩ = some (.slice a2 n c2)) (fun i _ => n - (intOf i).toNat)
    case atStart => exact ⟨0, Nat.zero_le _, rfl, by go_grown, by go_simp, by go_simp⟩
    case round =>
     rename_i wq; obtain ⟨j, hj, rfl, hBq, f1, f2⟩ := hrel
     by_cases hjn : j < n
     · obtain ⟨g1, o1, rfl, hg1, hc1⟩ := HX1.out (by omega); obtain ⟨g2, o2, rfl, hg2, hc2⟩ := HX2.out (by omega); have s1 := (hBq.cell (p := ⟨g1, o1 + j * 1 + 0, none⟩) hg1).trans (hc1 j hjn 0 (by omega)); have s2 := (hBq.cell (p := ⟨g2, o2 + j * 1 + 0, none⟩) hg2).trans (hc2 j hjn 0 (by omega)); clear hc1 hc2; simp only [Nat.mul_one, Nat.add_zero, bC] at s1 s2; generalize x4.getD j default = z at *; go_wp2_with fail; go_region; go_wp2; go_roundw
       case rel => exact ⟨j + 1, by omega, by go_num, by go_grown, f1, f2⟩
       case measure => simp [intOf]; omega
     · go_wp2; go_roundw
       case rel => exact ⟨k + 1, by omega, by go_num, hB.trans (hBq.mono hsz)⟩
       case measure => simp [intOf]; omega
  · go_wp2; go_ret; exact ⟨rfl, by go_grown⟩
theorem jl {P : Program} (w : World) (dT sT ty elem : TypeId) (g n sz dCap sCap : Nat) (a : Addr) (cur : Array Value) (t : TypeId) (cs : List Value) (hu : P.underlying dT = some (.slice elem)) (hs : (P.info? elem).map (·.size) = some sz)
  (hg : w.heap[g]? = some (.cells cur t (0, 0))) (hn : cs.length = n * sz) (hsrc : ∀ j v, cs[j]? = some v → w.cell? (a.add j) = some v) (hfit : cs.length = cur.size) (h1 : ∀ v ∈ cs, v.oneCell' = true) :
  (Builtin.copy_ #[dT, sT] ty #[.slice (some ⟨g, 0, none⟩) n dCap, .slice (some a) n sCap]).run P w = .ok (goInt n) (w.setRow g cs.toArray) := by
 have hl := run_loadCells_list (P := P) w a cs hsrc; have hst := run_storeCells_at P g 0 t cs 0 cur w hg (by omega) h1; have hd : cur.toList.drop cs.length = [] := by rw [List.drop_eq_nil_iff]; simp; omega
 cases hq : P.info? elem with
 | none => simp [hq] at hs
 | some i =>
  have hi : i.size = sz := by simpa [hq] using hs
  simp only [Nat.zero_add, Nat.add_zero, List.take_zero, List.nil_append, hd, List.append_nil] at hst; rw [hn] at hl; simp [Builtin.copy_, run_underlying hu, Builtin.lenOf, Builtin.firstCells, Go.sizeOf, typeInfo, hq, hi, hl, hst]
theorem j6 {P : Program} {w : World} {ops : Array Oper} {rest : List Oper} {o : Oper} {a : Act} {Q : Exit → Act → World → Prop} (hgd : o.guard = none) (d s : Operand) (dT sT elem : TypeId)
  (ho : o.op = .call { callee := .builtin .copy, args := #[d, s], argTypes := #[dT, sT] }) (hu : P.underlying dT = some (.slice elem)) (g n sz dCap sCap : Nat) (hs : (P.info? elem).map (·.size) = some sz) (ad : Addr)
  (hd : a.eval d = .slice (some ⟨g, 0, none⟩) n dCap) (hss : a.eval s = .slice (some ad) n sCap) (cur : Array Value) (t : TypeId) (cs : List Value) (hg : w.heap[g]? = some (.cells cur t (0, 0))) (hn : cs.length = n * sz) (hsrc : ∀ j v, cs[j]? = some v → w.cell? (ad.add j) = some v) (hfit : cs.length = cur.size) (h1 : ∀ v ∈ cs, v.oneCell' = true)
  (h : wpList P ops Q rest (a.put o.dst (goInt n)) (w.setRow g cs.toArray)) : wpList P ops Q (o :: rest) a w := by
 refine wpList_plain hgd fun K hK => ?_
 have hrun := jl (P := P) w dT sT o.type elem g n sz dCap sCap ad cur t cs hu hs hg hn hsrc hfit h1; unfold Oper.wp; simp [execOp, ho, resolve, invoke, builtin, hd, hss, hrun, Result.andThen]; exact hK _ _ h
def jr (w : World) (g : Nat) (l : List ay) : Prop := w.heap[g]? = some (.cells (eF 5 ay.enc l).toArray 31 (0, 0))
theorem jr.sl {w : World} {g : Nat} {l : List ay} (h : jr w g l) (hm : l.length ≤ maxLen) : Sl w 5 ay.enc (.slice (some ⟨g, 0, none⟩) l.length l.length) l :=
 ⟨_, _, rfl, Nat.le_refl _, hm, fun _ => ⟨g, 0, rfl, af h, fun i hi j hj => by
  rw [cell_of_row _ _ _ _ _ _ h]; simpa using ee 5 ay.enc l i j hi hj⟩⟩
theorem sv (l : List ay) (k j : Nat) (y : ay) (hk : k < l.length) (hj : j < 5) (h : ∀ i, i < 5 → i ≠ j → y.enc i = (l.getD k default).enc i) : eF 5 ay.enc (l.set k y) = (eF 5 ay.enc l).set (k * 5 + j) (y.enc j) := by
 apply List.ext_getElem?; intro i
 by_cases hi : i < l.length * 5
 · have e : i = i / 5 * 5 + i % 5 := by omega
   have h5 : i % 5 < 5 := by omega
   have hq : i / 5 < l.length := by omega
   have e1 := ee 5 ay.enc (l.set k y) (i / 5) (i % 5) (by simpa using hq) h5; have e2 := ee 5 ay.enc l (i / 5) (i % 5) hq h5; rw [← e] at e1 e2; rw [e1, List.getElem?_set]
   by_cases hki : k = i / 5
   · subst hki; have e3 : (l.set (i / 5) y).getD (i / 5) default = y := by simp [List.getD_eq_getElem?_getD, hq]
     rw [e3]
     by_cases hji : i % 5 = j
     · rw [if_pos (by omega), if_pos (by rw [cN]; omega), hji]
     · rw [if_neg (by omega), e2, h _ h5 hji]
   · have e3 : (l.set k y).getD (i / 5) default = l.getD (i / 5) default := by simp [List.getD_eq_getElem?_getD, List.getElem?_set_ne hki]
     rw [e3, if_neg (by omega), e2]
 · rw [List.getElem?_eq_none (by rw [cN]; simp; omega), List.getElem?_eq_none (by rw [List.length_set, cN]; omega)]
theorem jr.set {w : World} {g : Nat} {l : List ay} (h : jr w g l) (k j : Nat) (y : ay) (hk : k < l.length) (hj : j < 5) (hy : ∀ i, i < 5 → i ≠ j → y.enc i = (l.getD k default).enc i) : jr (w.setCell ⟨g, k * 5 + j, none⟩ (y.enc j)) g (l.set k y) := by
 unfold jr; rw [setCell_eq_setRow w g _ _ _ _ _ h, setRow_heap w g _ _ _ _ h, sv l k j y hk hj hy]; simp
theorem uh : ∃ i, Tryz.prog.info? 31 = some i ∧ i.zero = some (.agg #[.int .i64 0, .int .i64 0, .int .i64 0, .string ByteArray.empty, .int .i64 0]) ∧ i.size = 5 ∧ i.bytes = 48 := by
 have h : (Tryz.prog.info? 31).map (fun i => (i.zero, i.size, i.bytes)) = some (some (.agg #[.int .i64 0, .int .i64 0, .int .i64 0, .string ByteArray.empty, .int .i64 0]), 5, 48) := by kernel_rfl
 cases hh : Tryz.prog.info? 31 with
 | none => rw [hh] at h; simp at h
 | some i =>
  rw [hh] at h; simp only [Option.map_some, Option.some.injEq, Prod.mk.injEq] at h; exact ⟨i, rfl, h⟩
theorem qq {w : World} {b g n : Nat} {xs : List Value} (h : w.ownsRow b 31 5 (.slice (some ⟨g, 0, none⟩) n n) n xs) : ∃ cur : Array Value, w.heap[g]? = some (.cells cur 31 (0, 0)) ∧ cur.size = n * 5 := by
 rcases h.2 with ⟨h1, _⟩ | ⟨g', cap, cur, h1, _, h2, _, _, h3, _⟩
 · cases h1
 · injection h1 with h1 _ h4; injection h1 with h1; injection h1 with h1; subst h1; subst h4; exact ⟨cur, h2, h3⟩
theorem jr.ok {w : World} {g : Nat} {l : List ay} (h : jr w g l) {k j : Nat} (hk : k < l.length) (hj : j < 5) : w.cell? ⟨g, k * 5 + j, none⟩ = some ((l.getD k default).enc j) ∧ w.frozen? ⟨g, k * 5 + j, none⟩ = false := by
 refine ⟨?_, by simp [World.frozen?, show w.heap[g]? = _ from h]⟩; rw [cell_of_row _ _ _ _ _ _ h]; simpa using ee 5 ay.enc l k j hk hj
theorem pp (w : World) (b : Nat) (cs : Array Value) : am (fun k => k = b) w (w.setRow b cs) :=
 ⟨rfl, rfl, rfl, by simp, fun k _ h => setRow_other w b k cs h⟩
end Go.Proofs.YthkebhjaaikopaaGreatDoor
