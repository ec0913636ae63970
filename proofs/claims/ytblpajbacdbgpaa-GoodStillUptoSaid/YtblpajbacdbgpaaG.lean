/-
  Reading the arguments of GoodTypes, and its walk. Conditions: the arguments read as data.
-/
import Derived.Test.YtblpajbacdbgpaaF
import Derived.Deep.Slices
import Derived.Deep.Fields
import Derived.ChangeSame
import Derived.Lib.SmallJoins
namespace Go.Proofs.Ytblpajbacdbgpaa
open Go.ChangeShapes Go.WideShapes Go.ChangeAt Go.RowKit Go.Deep Go.Joins
theorem exists_list {α : Type} [Inhabited α] (n : Nat) (Q : Nat → α → Prop) (h : ∀ i, i < n → ∃ x, Q i x) : ∃ l : List α, l.length = n ∧ ∀ i, i < n → Q i (l.getD i default) := by
  induction n with
  | zero => exact ⟨[], rfl, fun i hi => absurd hi (by omega)⟩
  | succ n ih =>
    obtain ⟨l, hl, hq⟩ := ih (fun i hi => h i (by omega))
    obtain ⟨x, hx⟩ := h n (by omega)
    refine ⟨l ++ [x], by simp [hl], fun i hi => ?_⟩
    by_cases e : i < n
    · have := hq i e
      simpa [List.getD_eq_getElem?_getD, List.getElem?_append, hl, e] using this
    · have : i = n := by omega
      subst this
      simpa [List.getD_eq_getElem?_getD, List.getElem?_append, hl] using hx
section
variable {H : Type} {enc : TypeId × Value → H} {P : Program} {w : World} {spare : Nat → Bool} {held : Bool}
/-- A slice of structs that reads, as 'Sl'. -/
theorem sl_of_trod {α : Type} [Inhabited α] {t e : TypeId} {fuel : Nat} {v : Value} {x : DataW H × List MemPlace} (sz : Nat) (ce : α → Nat → Value) (Q : α → Prop)
    (ht : P.underlying t = some (.slice e)) (hC : P.cellsOf e = sz) (hsz : 0 < sz)
    (he : ∀ n cs' y, DataW.trod enc P w 0 spare held n e cs' = some y → ∃ a : α, (∀ j, j < sz → cs'[j]? = some (ce a j)) ∧ Q a)
    (h : DataW.trod enc P w 0 spare held fuel t [v] = some x) : ∃ l : List α, Sl w sz ce v l ∧ ∀ a ∈ l, Q a := by
  rcases open_slice ht h with ⟨h0, _⟩ | ⟨a, len, cap, m, n, D, Pl, hcs, hb, hl, hm, hmm, hx, hi⟩
  · exact ⟨[], ⟨none, 0, by simpa using h0, Nat.le_refl _, by decide, fun h => absurd h (by simp)⟩, fun a ha => by simp at ha⟩
  · have hlm : len ≤ m := by rw [hmm]; split <;> omega
    have hall : ∀ i, i < len → ∃ y : α, (∀ j, j < sz → w.cell? (a.add (i * sz + j)) = some (ce y j)) ∧ Q y := fun i hil => by
      obtain ⟨cs', hc, ht'⟩ := hi i (by omega)
      obtain ⟨y, hy, hq⟩ := he n cs' _ ht'
      rw [hC] at hc
      obtain ⟨_, _, hcell⟩ := World.cells?_some hc
      exact ⟨y, fun j hj => by rw [← Go.Deep.add_add, hcell j hj, hy j hj], hq⟩
    obtain ⟨l, hlen, hq⟩ := exists_list len _ hall
    refine ⟨l, ⟨some a, cap, by rw [hlen]; simpa using hcs, by omega, hm, fun hp => ?_⟩, fun y hy => ?_⟩
    · have h0 := (hq 0 (by omega)).1 0 hsz
      obtain ⟨b, off, spot⟩ := a
      have hspot : spot = none := by
        cases spot with
        | none => rfl
        | some s => simp [World.cell?, Addr.add] at h0; split at h0 <;> simp at h0
      subst hspot
      have hlt := World.block_lt_of_cell? w _ h0
      refine ⟨b, off, rfl, by simpa [Addr.add] using hlt, fun i hi j hj => ?_⟩
      have := (hq i (by omega)).1 j hj
      have e : (⟨b, off, none⟩ : Addr).add (i * sz + j) = ⟨b, off + i * sz + j, none⟩ := by
        unfold Addr.add; split <;> simp <;> omega
      rw [e] at this
      exact this
    · obtain ⟨i, hi, rfl⟩ := List.getElem_of_mem hy
      have := (hq i (by omega)).2
      simpa [List.getD_eq_getElem?_getD, hi] using this
/-- A struct of one-cell fields that reads: field by field. -/
theorem struct_cells {e : TypeId} {fs : Array Field} {n : Nat} {cs : List Value} {x : DataW H × List MemPlace} (he : P.underlying e = some (.struct fs)) (hone : oneCellFields P fs = true) (hC : P.cellsOf e = fs.size)
    (h : DataW.trod enc P w 0 spare held n e cs = some x) :
    cs.length = fs.size ∧ ∃ n', ∀ (j : Nat) (f : Field), fs[j]? = some f → ∃ v y, cs[j]? = some v ∧ DataW.trod enc P w 0 spare held n' f.type [v] = some y := by
  obtain ⟨ys, n', _, _, hlen, hyl, hf⟩ := DataW.trod_struct he h
  rw [hC] at hlen
  refine ⟨hlen, n', fun j f hj => ?_⟩
  obtain ⟨ho, hk⟩ := hone_of hone j f hj
  have hjl : j < fs.size := (Array.getElem?_eq_some_iff.1 hj).1
  have hv : cs[j]? = some (cs[j]'(by omega)) := List.getElem?_eq_getElem (by omega)
  have h1 := hf j f hj
  rw [ho, hk] at h1
  have hone' : (cs.drop j).take 1 = [cs[j]'(by omega)] := by
    rw [List.drop_eq_getElem_cons (by omega)]
    rfl
  rw [hone'] at h1
  exact ⟨_, _, hv, h1.trans (List.getElem?_eq_getElem (by omega))⟩
end
theorem ok_of_wf {n : Int} (h : (Lit.int .i64 n).wf = true) : okI n := by
  simp [Lit.wf, IntKind.min, IntKind.max, IntKind.signed, IntKind.bits] at h
  unfold okI
  omega
section
variable {H : Type} {enc : TypeId × Value → H} {w : World} {spare : Nat → Bool} {held : Bool}
theorem int_cell {n : Nat} {v : Value} {y : DataW H × List MemPlace} (h : DataW.trod enc Try.prog w 0 spare held n 3 [v] = some y) : ∃ i, v = .int .i64 i ∧ okI i := by
  obtain ⟨i, h1, _, h2⟩ := DataW.trod_int Try.underlying3 h
  exact ⟨i, by simpa using h1, ok_of_wf h2⟩
theorem dims_of {n : Nat} {v : Value} {x : DataW H × List MemPlace} (h : DataW.trod enc Try.prog w 0 spare held n 24 [v] = some x) : ∃ l : List Dim, Sl w 3 Dim.enc v l ∧ ∀ d ∈ l, d.ok := by
  refine sl_of_trod 3 Dim.enc Dim.ok Try.underlying24 (by kernel_rfl) (by omega) (fun n cs' y hy => ?_) h
  obtain ⟨hlen, n', hf⟩ := struct_cells Try.underlying49 (by kernel_rfl) (by kernel_rfl) hy
  obtain ⟨a, y0, ha, h0⟩ := hf 0 _ rfl
  obtain ⟨b, y1, hb, h1⟩ := hf 1 _ rfl
  obtain ⟨c, y2, hc, h2⟩ := hf 2 _ rfl
  obtain ⟨i0, rfl, o0⟩ := int_cell h0
  obtain ⟨i1, rfl, o1⟩ := int_cell h1
  obtain ⟨i2, rfl, o2⟩ := int_cell h2
  refine ⟨⟨i0, i1, i2⟩, fun j hj => ?_, o0, o1, o2⟩
  have : j = 0 ∨ j = 1 ∨ j = 2 := by omega
  rcases this with rfl | rfl | rfl
  · exact ha
  · exact hb
  · exact hc
theorem var_of {r : Reach} {b0 : Nat} {v : Value} {d : DataW H} {p : List MemPlace} (hv : Value.okWide Try.prog w r b0 26 v) (h : DataW.Trod enc Try.prog w 0 spare held 26 v d p) :
    ∃ (s0 s1 s2 s3 : Int) (dv : Value) (ds : List Dim), v = .agg #[.int .i64 s0, .int .i64 s1, .int .i64 s2, .int .i64 s3, dv] ∧ okI s0 ∧ okI s1 ∧ okI s2 ∧ okI s3 ∧ Sl w 3 Dim.enc dv ds ∧ ∀ d ∈ ds, d.ok := by
  obtain ⟨cs, rfl, hsz⟩ := okWide_struct Try.underlying26 hv
  obtain ⟨fuel, hf⟩ := h
  obtain ⟨hlen, n', hg⟩ := struct_cells Try.underlying26 (by kernel_rfl) (by kernel_rfl) hf
  obtain ⟨v0, y0, ha0, h0⟩ := hg 0 _ rfl
  obtain ⟨v1, y1, ha1, h1⟩ := hg 1 _ rfl
  obtain ⟨v2, y2, ha2, h2⟩ := hg 2 _ rfl
  obtain ⟨v3, y3, ha3, h3⟩ := hg 3 _ rfl
  obtain ⟨v4, y4, ha4, h4⟩ := hg 4 _ rfl
  obtain ⟨i0, rfl, o0⟩ := int_cell h0
  obtain ⟨i1, rfl, o1⟩ := int_cell h1
  obtain ⟨i2, rfl, o2⟩ := int_cell h2
  obtain ⟨i3, rfl, o3⟩ := int_cell h3
  obtain ⟨ds, hd, hok⟩ := dims_of h4
  refine ⟨i0, i1, i2, i3, v4, ds, ?_, o0, o1, o2, o3, hd, hok⟩
  obtain ⟨l⟩ := cs
  simp only [Value.cells] at hlen ha0 ha1 ha2 ha3 ha4
  match l, hlen with
  | [c0, c1, c2, c3, c4], _ =>
    simp at ha0 ha1 ha2 ha3 ha4
    rw [ha0, ha1, ha2, ha3, ha4]
theorem type_of {r : Reach} {b0 : Nat} {v : Value} {d : DataW H} {p : List MemPlace} (hv : Value.okWide Try.prog w r b0 23 v) (h : DataW.Trod enc Try.prog w 0 spare held 23 v d p) :
    ∃ (b : Int) (s : Bool), v = .agg #[.int .i64 b, .bool s] := by
  obtain ⟨cs, rfl, hsz⟩ := okWide_struct Try.underlying23 hv
  obtain ⟨fuel, hf⟩ := h
  obtain ⟨hlen, n', hg⟩ := struct_cells Try.underlying23 (by kernel_rfl) (by kernel_rfl) hf
  obtain ⟨v0, y0, ha0, h0⟩ := hg 0 _ rfl
  obtain ⟨v1, y1, ha1, h1⟩ := hg 1 _ rfl
  obtain ⟨i0, rfl, o0⟩ := int_cell h0
  obtain ⟨s, hs, _⟩ := DataW.trod_bool Try.underlying4 h1
  obtain rfl : v1 = .bool s := by simpa using hs
  refine ⟨i0, s, ?_⟩
  obtain ⟨l⟩ := cs
  simp only [Value.cells] at hlen ha0 ha1
  match l, hlen with
  | [c0, c1], _ =>
    simp at ha0 ha1
    rw [ha0, ha1]
end
end Go.Proofs.Ytblpajbacdbgpaa
namespace Go.Proofs.Ytblpajbacdbgpaa.goodTypes
open Go.ChangeShapes Go.WideShapes Go.ChangeAt Go.RowKit
set_option maxHeartbeats 1000000 in
theorem law_walk (b : Int) (s : Bool) (v : Int) (s0 s1 s2 s3 : Int) (dv : Value) (ds : List Dim) (w : World) (hd : Sl w 3 Dim.enc dv ds) (hok : ∀ d ∈ ds, d.ok) :
    Calls Try.prog 3 #[.agg #[.int .i64 b, .bool s], .int .i64 v, .agg #[.int .i64 s0, .int .i64 s1, .int .i64 s2, .int .i64 s3, dv]] w fun e w' => e = .returned (.bool true) ∧ Below w.heap.size w w' := by
  have HD := Lib.hid hd; clear hd
  have HO := Lib.hid hok; clear hok
  go_enter Try.func3, Try.ntmps3
  go_wp2_with fail
  generalize hW0 : (w.alloc (.cells #[.int .i64 b, .bool s] 23)).alloc (.cells #[.int .i64 s0, .int .i64 s1, .int .i64 s2, .int .i64 s3, dv] 26) = W0
  have z0 : W0.heap.size = w.heap.size + 1 + 1 := by rw [← hW0]; simp
  have k0 : W0.cell? ⟨w.heap.size, 0, none⟩ = some (.int .i64 b) := by rw [← hW0]; simp [go_sem]
  have k1 : W0.cell? ⟨w.heap.size, 1, none⟩ = some (.bool s) := by rw [← hW0]; simp [go_sem]
  have k2 : W0.cell? ⟨w.heap.size + 1, 0, none⟩ = some (.int .i64 s0) := by rw [← hW0]; simp [go_sem]
  have k3 : W0.cell? ⟨w.heap.size + 1, 1, none⟩ = some (.int .i64 s1) := by rw [← hW0]; simp [go_sem]
  have k4 : W0.cell? ⟨w.heap.size + 1, 2, none⟩ = some (.int .i64 s2) := by rw [← hW0]; simp [go_sem]
  have k5 : W0.cell? ⟨w.heap.size + 1, 3, none⟩ = some (.int .i64 s3) := by rw [← hW0]; simp [go_sem]
  have k6 : W0.cell? ⟨w.heap.size + 1, 4, none⟩ = some dv := by rw [← hW0]; simp [go_sem]
  have BW : Below w.heap.size w W0 := by rw [← hW0]; exact ((Below.refl _ _).alloc (Nat.le_refl _) _).alloc (by simp) _
  clear hW0
  have hlt0 : w.heap.size < W0.heap.size := by omega
  have hlt1 : w.heap.size + 1 < W0.heap.size := by omega
  have Z := Lib.hid z0
  clear z0
  refine (shown_any _).mono ?_
  rintro e w1 ⟨rfl, hb1⟩
  have B1 := hb1
  have x0_1 := (B1.cell (p := ⟨w.heap.size, 0, none⟩) hlt0).trans k0
  have x1_1 := (B1.cell (p := ⟨w.heap.size, 1, none⟩) hlt0).trans k1
  have x2_1 := (B1.cell (p := ⟨w.heap.size + 1, 0, none⟩) hlt1).trans k2
  have x3_1 := (B1.cell (p := ⟨w.heap.size + 1, 1, none⟩) hlt1).trans k3
  have x4_1 := (B1.cell (p := ⟨w.heap.size + 1, 2, none⟩) hlt1).trans k4
  have x5_1 := (B1.cell (p := ⟨w.heap.size + 1, 3, none⟩) hlt1).trans k5
  have x6_1 := (B1.cell (p := ⟨w.heap.size + 1, 4, none⟩) hlt1).trans k6
  go_wp2_with fail
  refine (type_any _ _ _).mono ?_
  rintro e w2 ⟨rfl, hb2⟩
  have B2 := B1.trans (hb2.mono B1.size)
  clear x0_1 x1_1 x2_1 x3_1 x4_1 x5_1 x6_1
  have x0_2 := (B2.cell (p := ⟨w.heap.size, 0, none⟩) hlt0).trans k0
  have x1_2 := (B2.cell (p := ⟨w.heap.size, 1, none⟩) hlt0).trans k1
  have x2_2 := (B2.cell (p := ⟨w.heap.size + 1, 0, none⟩) hlt1).trans k2
  have x3_2 := (B2.cell (p := ⟨w.heap.size + 1, 1, none⟩) hlt1).trans k3
  have x4_2 := (B2.cell (p := ⟨w.heap.size + 1, 2, none⟩) hlt1).trans k4
  have x5_2 := (B2.cell (p := ⟨w.heap.size + 1, 3, none⟩) hlt1).trans k5
  have x6_2 := (B2.cell (p := ⟨w.heap.size + 1, 4, none⟩) hlt1).trans k6
  go_wp2_with fail
  refine (rtype_any _ _ _).mono ?_
  rintro e w3 ⟨rfl, hb3⟩
  have B3 := B2.trans (hb3.mono B2.size)
  clear x0_2 x1_2 x2_2 x3_2 x4_2 x5_2 x6_2
  have x0_3 := (B3.cell (p := ⟨w.heap.size, 0, none⟩) hlt0).trans k0
  have x1_3 := (B3.cell (p := ⟨w.heap.size, 1, none⟩) hlt0).trans k1
  have x2_3 := (B3.cell (p := ⟨w.heap.size + 1, 0, none⟩) hlt1).trans k2
  have x3_3 := (B3.cell (p := ⟨w.heap.size + 1, 1, none⟩) hlt1).trans k3
  have x4_3 := (B3.cell (p := ⟨w.heap.size + 1, 2, none⟩) hlt1).trans k4
  have x5_3 := (B3.cell (p := ⟨w.heap.size + 1, 3, none⟩) hlt1).trans k5
  have x6_3 := (B3.cell (p := ⟨w.heap.size + 1, 4, none⟩) hlt1).trans k6
  go_wp2_with fail
  refine (fits_any _ _ _ _).mono ?_
  rintro e w4 ⟨rfl, hb4⟩
  have B4 := B3.trans (hb4.mono B3.size)
  clear x0_3 x1_3 x2_3 x3_3 x4_3 x5_3 x6_3
  have x0_4 := (B4.cell (p := ⟨w.heap.size, 0, none⟩) hlt0).trans k0
  have x1_4 := (B4.cell (p := ⟨w.heap.size, 1, none⟩) hlt0).trans k1
  have x2_4 := (B4.cell (p := ⟨w.heap.size + 1, 0, none⟩) hlt1).trans k2
  have x3_4 := (B4.cell (p := ⟨w.heap.size + 1, 1, none⟩) hlt1).trans k3
  have x4_4 := (B4.cell (p := ⟨w.heap.size + 1, 2, none⟩) hlt1).trans k4
  have x5_4 := (B4.cell (p := ⟨w.heap.size + 1, 3, none⟩) hlt1).trans k5
  have x6_4 := (B4.cell (p := ⟨w.heap.size + 1, 4, none⟩) hlt1).trans k6
  go_wp2_with fail
  refine (rfits_any _ _ _ _).mono ?_
  rintro e w5 ⟨rfl, hb5⟩
  have B5 := B4.trans (hb5.mono B4.size)
  clear x0_4 x1_4 x2_4 x3_4 x4_4 x5_4 x6_4
  have x0_5 := (B5.cell (p := ⟨w.heap.size, 0, none⟩) hlt0).trans k0
  have x1_5 := (B5.cell (p := ⟨w.heap.size, 1, none⟩) hlt0).trans k1
  have x2_5 := (B5.cell (p := ⟨w.heap.size + 1, 0, none⟩) hlt1).trans k2
  have x3_5 := (B5.cell (p := ⟨w.heap.size + 1, 1, none⟩) hlt1).trans k3
  have x4_5 := (B5.cell (p := ⟨w.heap.size + 1, 2, none⟩) hlt1).trans k4
  have x5_5 := (B5.cell (p := ⟨w.heap.size + 1, 3, none⟩) hlt1).trans k5
  have x6_5 := (B5.cell (p := ⟨w.heap.size + 1, 4, none⟩) hlt1).trans k6
  go_wp2_with fail
  have S5 := Lib.hid (Sl.keep (BW.trans (B5.mono (Nat.le_of_lt hlt0))) HD.out)
  refine (reach_any _ _ _ _ _ ds _ S5.out HO.out).mono ?_
  rintro e w6 ⟨rfl, hb6⟩
  have B6 := B5.trans (hb6.mono B5.size)
  clear x0_5 x1_5 x2_5 x3_5 x4_5 x5_5 x6_5
  have x0_6 := (B6.cell (p := ⟨w.heap.size, 0, none⟩) hlt0).trans k0
  have x1_6 := (B6.cell (p := ⟨w.heap.size, 1, none⟩) hlt0).trans k1
  have x2_6 := (B6.cell (p := ⟨w.heap.size + 1, 0, none⟩) hlt1).trans k2
  have x3_6 := (B6.cell (p := ⟨w.heap.size + 1, 1, none⟩) hlt1).trans k3
  have x4_6 := (B6.cell (p := ⟨w.heap.size + 1, 2, none⟩) hlt1).trans k4
  have x5_6 := (B6.cell (p := ⟨w.heap.size + 1, 3, none⟩) hlt1).trans k5
  have x6_6 := (B6.cell (p := ⟨w.heap.size + 1, 4, none⟩) hlt1).trans k6
  go_wp2_with fail
  have S6 := Lib.hid (Sl.keep (BW.trans (B6.mono (Nat.le_of_lt hlt0))) HD.out)
  refine (rreach_any _ _ _ _ _ ds _ S6.out HO.out).mono ?_
  rintro e w7 ⟨rfl, hb7⟩
  have B7 := B6.trans (hb7.mono B6.size)
  go_wp2
  go_ret
  exact ⟨rfl, BW.trans (B7.mono (Nat.le_of_lt hlt0))⟩
theorem walk {H : Type} {enc : TypeId × Value → H} (W : World) (base : Nat) (v0 v1 v2 : Value) {d0 d1 d2 : DataW H} {p0 p1 p2 : List MemPlace}
    (hv0 : Value.okWide Try.prog W .any base 23 v0) (h0 : DataW.Trod enc Try.prog W 0 (fun _ => true) true 23 v0 d0 p0)
    (hv1 : Value.okWide Try.prog W .any base 2 v1) (h1 : DataW.Trod enc Try.prog W 0 (fun _ => true) true 2 v1 d1 p1)
    (hv2 : Value.okWide Try.prog W .any base 26 v2) (h2 : DataW.Trod enc Try.prog W 0 (fun _ => true) true 26 v2 d2 p2) :
    Calls Try.prog 3 #[v0, v1, v2] W fun e w' => e = .returned (.bool true) ∧ Below W.heap.size W w' := by
  obtain ⟨b, s, rfl⟩ := type_of hv0 h0
  obtain ⟨v, rfl, rfl, rfl, _⟩ := open_int Try.underlying2 hv1 h1
  obtain ⟨s0, s1, s2, s3, dv, ds, rfl, _, _, _, _, hd, hok⟩ := var_of hv2 h2
  exact law_walk b s v s0 s1 s2 s3 dv ds W hd hok
end Go.Proofs.Ytblpajbacdbgpaa.goodTypes
