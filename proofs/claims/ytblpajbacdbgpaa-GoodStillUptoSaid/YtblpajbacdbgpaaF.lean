/-
  spinneretlaw11.shown returns true. No condition.
-/
import Derived.Test.YtblpajbacdbgpaaE
namespace Go.Proofs.Ytblpajbacdbgpaa
open Go.ChangeShapes Go.WideShapes Go.ChangeAt Go.RowKit

set_option maxHeartbeats 1000000 in
set_option maxRecDepth 20000 in
theorem small_any (w : World) : Calls Try.prog 13 #[] w fun e w' => ∃ p l, e = .returned (.agg #[.slice none 0 0, .slice none 0 0, .slice none 0 0, .slice none 0 0, .slice (some ⟨p, 0, none⟩) 1 1, .int .i64 (-1), .slice none 0 0])
    ∧ w'.heap[p]? = some (.cells #[.string ByteArray.empty, .int .i64 0, .slice none 0 0, .slice none 0 0, .slice (some ⟨l, 0, none⟩) 1 1, .int .i64 0, .int .i64 0, .int .i64 0, .int .i64 1, .int .i64 (-1)] 47)
    ∧ w'.heap[l]? = some (.cells #[.slice none 0 0, .slice none 0 0, .bool false, .bool false, .bool false, .bool false, .bool false] 60)
    ∧ p ≠ l ∧ w.heap.size ≤ p ∧ w.heap.size ≤ l ∧ Below w.heap.size w w' := by
  go_enter Try.func13, Try.ntmps13
  go_wp2
  refine bodyPost_ret (v := .agg #[.slice none 0 0, .slice none 0 0, .slice none 0 0, .slice none 0 0, .slice (some ⟨w.heap.size + 2, 0, none⟩) 1 1, .int .i64 (-1), .slice none 0 0]) (by simp [results, Try.results13, go_sem]) rfl ⟨w.heap.size + 2, w.heap.size + 1, rfl, ?_, ?_, by omega, by omega, by omega, by go_grown⟩
  · have h := fun (a b c : Obj) => heap_alloc_new ((w.alloc a).alloc b) c
    simp only [World.size_alloc] at h
    exact h _ _ _
  · have h := fun (a b c : Obj) => (Below.heap_alloc ((w.alloc a).alloc b) c (w.heap.size + 1) (by simp)).trans (show _ = some b by have h := heap_alloc_new (w.alloc a) b; rw [World.size_alloc] at h; exact h)
    exact h _ _ _
set_option maxHeartbeats 2000000 in
set_option maxRecDepth 20000 in
theorem shown_any (w : World) : Calls Try.prog 5 #[] w fun e w' => e = .returned (.bool true) ∧ Below w.heap.size w w' := by
  go_enter Try.func5, Try.ntmps5
  go_wp2_with fail
  refine (check_empty _).mono ?_
  rintro e w1 ⟨rfl, hb1⟩
  go_wp2_with fail
  refine (small_any _).mono ?_
  rintro e w2 ⟨p, l, rfl, hp, hl, hne, hpb, hlb, hb2⟩
  have B2 : Below w.heap.size w w2 := hb1.trans (hb2.mono hb1.size)
  have cp : ∀ j v, (#[Value.string ByteArray.empty, .int .i64 0, .slice none 0 0, .slice none 0 0, .slice (some ⟨l, 0, none⟩) 1 1, .int .i64 0, .int .i64 0, .int .i64 0, .int .i64 1, .int .i64 (-1)] : Array Value)[j]? = some v → w2.cell? ⟨p, j, none⟩ = some v := fun j v h => by simpa [World.cell?, hp] using h
  have cl : ∀ j v, (#[Value.slice none 0 0, .slice none 0 0, .bool false, .bool false, .bool false, .bool false, .bool false] : Array Value)[j]? = some v → w2.cell? ⟨l, j, none⟩ = some v := fun j v h => by simpa [World.cell?, hl] using h
  go_wp2_with fail
  refine (check_1 p l _ (cp _ _ rfl) (cp _ _ rfl) (cp _ _ rfl) (cp _ _ rfl) (cp _ _ rfl) (cp _ _ rfl) (cp _ _ rfl) (cp _ _ rfl) (cp _ _ rfl) (cp _ _ rfl) (cl _ _ rfl) (cl _ _ rfl) (cl _ _ rfl) (cl _ _ rfl) (cl _ _ rfl) (cl _ _ rfl) (cl _ _ rfl)).mono ?_
  rintro e w3 ⟨rfl, hb3⟩
  have B3 : Below w.heap.size w w3 := B2.trans (hb3.mono B2.size)
  clear hp hl cp cl hpb hlb hne
  go_wp2_with fail
  refine (small_any _).mono ?_
  rintro e w4 ⟨p, l, rfl, hp, hl, hne, hpb, hlb, hb4⟩
  have B4 : Below w.heap.size w w4 := B3.trans (hb4.mono B3.size)
  have cp : ∀ j v, (#[Value.string ByteArray.empty, .int .i64 0, .slice none 0 0, .slice none 0 0, .slice (some ⟨l, 0, none⟩) 1 1, .int .i64 0, .int .i64 0, .int .i64 0, .int .i64 1, .int .i64 (-1)] : Array Value)[j]? = some v → w4.cell? ⟨p, j, none⟩ = some v := fun j v h => by simpa [World.cell?, hp] using h
  have fp : ∀ j, w4.frozen? ⟨p, j, none⟩ = false := fun j => by simp [World.frozen?, hp]
  have c0 := cp 0 _ rfl
  have c1 := cp 1 _ rfl
  have c2 := cp 2 _ rfl
  have c3 := cp 3 _ rfl
  have c4 := cp 4 _ rfl
  have c5 := cp 5 _ rfl
  have c6 := cp 6 _ rfl
  have c7 := cp 7 _ rfl
  have c8 := cp 8 _ rfl
  have c9 := cp 9 _ rfl
  simp only [List.getElem_toArray, List.getElem_cons_succ, List.getElem_cons_zero] at c0 c1 c2 c3 c4 c5 c6 c7 c8 c9
  clear cp hp hl
  have hpz := World.block_lt_of_cell? w4 _ c8
  simp at hpz
  go_wp2_with fail
  refine (check_0 p l _ (by simp [go_sem, *]) (by simp [go_sem, *]) (by simp [go_sem, *]) (by simp [go_sem, *]) (by simp [go_sem, *]) (by simp [go_sem, *]) (by simp [go_sem, *]) (by simp [go_sem, *]) (by simp [go_sem, *]) (by simp [go_sem, *])).mono ?_
  rintro e w5 ⟨rfl, hb5⟩
  have B5 : Below w.heap.size w w5 := ((B4.setCell (by have := B3.size; simp; omega) _).alloc (by have := B4.size; simp [World.setCell]; omega) _).trans (hb5.mono (by have := B4.size; simp [World.setCell]; omega))
  clear c0 c1 c2 c3 c4 c5 c6 c7 c8 c9 fp hpz hne hpb hlb
  have f1 := Lib.hid (show fitF 8 false 255 = true by decide)
  have f2 := Lib.hid (show fitF 8 false 256 = false by decide)
  have f3 := Lib.hid (show fitF 16 true (-32768) = true by decide)
  go_wp2_with fail
  refine (fits_any 8 false 255 _).mono ?_
  rintro e w6 ⟨rfl, hb6⟩
  rw [f1.out]
  go_wp2_with fail
  refine (fits_any 8 false 256 _).mono ?_
  rintro e w7 ⟨rfl, hb7⟩
  rw [f2.out]
  go_wp2_with fail
  refine (fits_any 16 true (-32768) _).mono ?_
  rintro e w8 ⟨rfl, hb8⟩
  rw [f3.out]
  go_wp2_with fail
  have r7 := Lib.hid (show reachF 2 [⟨0, 3, 2⟩] = 7 by simp [reachF, Dim.bad, Dim.step])
  have hz8 := hb8.size
  refine (reach_any 0 2 0 0 _ [⟨0, 3, 2⟩] _ ⟨some ⟨w8.heap.size, 0, none⟩, 1, rfl, by simp, by decide, fun _ => ⟨w8.heap.size, 0, rfl, by simp, ?_⟩⟩ ?_).mono ?_
  · intro i hi j hj
    obtain rfl : i = 0 := by simpa using hi
    have : j = 0 ∨ j = 1 ∨ j = 2 := by omega
    rcases this with rfl | rfl | rfl <;> simp [go_sem, Dim.enc]
  · intro d hd
    simp only [List.mem_singleton] at hd
    subst hd
    unfold Dim.ok okI
    decide
  rintro e w9 ⟨rfl, hb9⟩
  rw [r7.out]
  go_wp2
  go_ret
  exact ⟨rfl, B5.trans ((hb6.mono B5.size).trans ((hb7.mono (by have := B5.size; have := hb6.size; omega)).trans ((hb8.mono (by have := B5.size; have := hb6.size; have := hb7.size; omega)).trans (((Below.refl _ _).alloc (by have := B5.size; have := hb6.size; have := hb7.size; omega) _).trans (hb9.mono (by have := B5.size; have := hb6.size; have := hb7.size; simp; omega))))))⟩
end Go.Proofs.Ytblpajbacdbgpaa
