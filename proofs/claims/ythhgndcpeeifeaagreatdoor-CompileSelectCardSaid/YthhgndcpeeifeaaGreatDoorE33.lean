/- Part of the proof of CompileForCardSaid. -/
import Derived.Test.YthhgndcpeeifeaaGreatDoorE32
import Derived.Laws.CopyOwn
set_option linter.unusedVariables false
set_option linter.unusedSimpArgs false
set_option linter.unusedSectionVars false
set_option linter.constructorNameAsVariable false
namespace Go.Ev
open Go Go.RowKit Go.Proofs Go.ChangeShapes Go.WideShapes Go.ChangeAt Go.Proofs.Lx6
theorem store_seven (w : World) {vs : List Value} (h7 : vs.length = 7) (h1 : ∀ u ∈ vs, u.oneCell' = true) :
    (storeCells { block := w.heap.size, off := 0 } vs).run PZ (w.alloc (.cells #[.slice none 0 0, .slice none 0 0, .slice none 0 0, .slice none 0 0, .slice none 0 0, .int .i64 0, .slice none 0 0] 31)) = .ok () ((w.alloc (.cells #[.slice none 0 0, .slice none 0 0, .slice none 0 0, .slice none 0 0, .slice none 0 0, .int .i64 0, .slice none 0 0] 31)).setRow w.heap.size vs.toArray) := by
  rw [run_storeCells_at (P := PZ) w.heap.size 0 31 vs 0 #[.slice none 0 0, .slice none 0 0, .slice none 0 0, .slice none 0 0, .slice none 0 0, .int .i64 0, .slice none 0 0] _ (World.alloc_heap_new w _) (by simp [h7]) h1]
  simp [h7]
theorem HBS {W w : World} {vs : List Value} (h : Below W.heap.size W w) : Below W.heap.size W ((w.alloc (.cells #[.slice none 0 0, .slice none 0 0, .slice none 0 0, .slice none 0 0, .slice none 0 0, .int .i64 0, .slice none 0 0] 31)).setRow w.heap.size vs.toArray) :=
  below_setRow (h.alloc h.size _) h.size _
theorem body_len (x : Int) : (bodyL x).length ≤ 40 := by
  unfold bodyL
  have : ∀ k : Nat, (bodiesL.getD k []).length ≤ 40 := by
    intro k
    match k with
    | 0 | 1 | 2 | 3 | 4 | 5 | 6 | 7 | 8 => decide
    | k + 9 => simp [bodiesL]
  exact this _
def tx (l : List UInt8) : ByteArray := ⟨l.toArray⟩
theorem tx_size (l : List UInt8) : (tx l).size = l.length := by simp [tx, ByteArray.size]
theorem num_len (x : Int) : (tx (dec (half x))).size ≤ 10 := by rw [tx_size]; exact (dec_len (half_lt x)).2
theorem bod_len (x : Int) : (tx (bodyL x)).size ≤ 40 := by rw [tx_size]; exact body_len x
def forS (A B X : ByteArray) : ByteArray := { data := #[98, 121, 116, 101, 32, 120, 44, 32, 105, 59, 32, 99, 104, 97, 110, 32, 99, 32, 61, 32, 91, 50, 93, 32, 111, 102, 32, 123, 32, 98, 121, 116, 101, 32, 125, 59, 32, 105, 110, 105, 116, 32, 123, 32, 102, 111, 114, 32, 40, 105, 32, 58, 32] } ++ A ++ { data := #[32, 46, 46, 32] } ++ B ++ { data := #[41, 32, 123, 32] } ++ X ++ { data := #[32, 125, 59, 32, 120, 32, 61, 32, 55, 32, 125] }
def forT (A B X : ByteArray) : ByteArray := { data := #[98, 121, 116, 101, 32, 120, 44, 32, 105, 59, 32, 99, 104, 97, 110, 32, 99, 32, 61, 32, 91, 50, 93, 32, 111, 102, 32, 123, 32, 98, 121, 116, 101, 32, 125, 59, 32, 105, 110, 105, 116, 32, 123, 32, 105, 32, 61, 32] } ++ A ++ { data := #[59, 32, 100, 111, 32, 58, 58, 32, 105, 32, 60, 61, 32] } ++ B ++ { data := #[32, 45, 62, 32] } ++ X ++ { data := #[59, 32, 105, 32, 61, 32, 105, 32, 43, 32, 49, 32, 58, 58, 32, 101, 108, 115, 101, 32, 45, 62, 32, 98, 114, 101, 97, 107, 32, 111, 100, 59, 32, 120, 32, 61, 32, 55, 32, 125] }
set_option maxHeartbeats 4000000 in
set_option maxRecDepth 100000 in
theorem for_walk {a b n : Int} (hn : -9223372036854775808 ≤ n ∧ n ≤ 9223372036854775807) {W : World}
    (AW : ∀ w, Below W.heap.size W w → Calls PZ 6 #[] w fun e w' => e = .returned (.bool true) ∧ Below w.heap.size w w')
    (CO : ∀ w, Below W.heap.size W w → Calls PZ 9 #[.string (forS (tx (dec (half a))) (tx (dec (half b))) (tx (bodyL n)))] w fun e w' => (∃ (vs : List Value) (c : Value), e = .returned (.tuple #[.agg vs.toArray, .int .i64 0, c]) ∧ vs.length = 7 ∧ ∀ u ∈ vs, u.oneCell' = true) ∧ Below w.heap.size w w')
    (AL : ∀ w, Below W.heap.size W w → Calls PZ 10 #[.string (forS (tx (dec (half a))) (tx (dec (half b))) (tx (bodyL n))), .string (forT (tx (dec (half a))) (tx (dec (half b))) (tx (bodyL n)))] w fun e w' => e = .returned (.bool true) ∧ Below w.heap.size w w') :
    Calls PZ 3 #[.int .i64 a, .int .i64 b, .int .i64 n] W fun e w' => e = .returned (.bool true) ∧ Below W.heap.size W w' := by
  have la := num_len a
  have lb := num_len b
  have ln := bod_len n
  have HB0 := Lib.hid (Below.refl W.heap.size W)
  go_enter Tryz.func3, Tryz.ntmps3
  go_wp2_with fail
  refine (AW _ HB0.out).mono ?_
  rintro e w1 ⟨rfl, hb1⟩
  have HB1 := Lib.hid (HB0.out.trans (hb1.mono HB0.out.size))
  clear hb1
  go_wp2_with fail
  refine (number_any a _).mono ?_
  rintro e w2 ⟨rfl, hb2⟩
  have HB2 := Lib.hid (HB1.out.trans (hb2.mono HB1.out.size))
  clear hb2
  rw [show (⟨(dec (half a)).toArray⟩ : ByteArray) = tx (dec (half a)) from rfl]
  go_wp2_with fail
  refine (number_any b _).mono ?_
  rintro e w3 ⟨rfl, hb3⟩
  have HB3 := Lib.hid (HB2.out.trans (hb3.mono HB2.out.size))
  clear hb3
  rw [show (⟨(dec (half b)).toArray⟩ : ByteArray) = tx (dec (half b)) from rfl]
  go_wp2_with fail
  refine (body_any n hn _).mono ?_
  rintro e w4 ⟨rfl, hb4⟩
  have HB4 := Lib.hid (HB3.out.trans (hb4.mono HB3.out.size))
  clear hb4
  rw [show (⟨(bodyL n).toArray⟩ : ByteArray) = tx (bodyL n) from rfl]
  go_wp2_with fail
  refine (number_any a _).mono ?_
  rintro e w5 ⟨rfl, hb5⟩
  have HB5 := Lib.hid (HB4.out.trans (hb5.mono HB4.out.size))
  clear hb5
  rw [show (⟨(dec (half a)).toArray⟩ : ByteArray) = tx (dec (half a)) from rfl]
  go_wp2_with fail
  refine (number_any b _).mono ?_
  rintro e w6 ⟨rfl, hb6⟩
  have HB6 := Lib.hid (HB5.out.trans (hb6.mono HB5.out.size))
  clear hb6
  rw [show (⟨(dec (half b)).toArray⟩ : ByteArray) = tx (dec (half b)) from rfl]
  go_wp2_with fail
  refine (body_any n hn _).mono ?_
  rintro e w7 ⟨rfl, hb7⟩
  have HB7 := Lib.hid (HB6.out.trans (hb7.mono HB6.out.size))
  clear hb7
  rw [show (⟨(bodyL n).toArray⟩ : ByteArray) = tx (bodyL n) from rfl]
  go_wp2_with fail
  refine (CO _ HB7.out).mono ?_
  rintro e w8 ⟨⟨vs, cc, rfl, v7, v1⟩, hb8⟩
  have HB8 := Lib.hid (HB7.out.trans (hb8.mono HB7.out.size))
  clear hb8
  have hst := store_seven w8 v7 v1
  have HV := Lib.hid v1
  clear v1
  go_wp2_with fail
  refine (AL _ (HBS HB8.out)).mono ?_
  rintro e w9 ⟨rfl, hb9⟩
  have HB9 := Lib.hid ((HBS HB8.out).trans (hb9.mono (HBS HB8.out).size))
  clear hb9
  go_wp2_with fail
  go_ret
  exact ⟨rfl, HB9.out⟩
def selS (A B X : ByteArray) : ByteArray := { data := #[98, 121, 116, 101, 32, 120, 44, 32, 105, 59, 32, 99, 104, 97, 110, 32, 99, 32, 61, 32, 91, 50, 93, 32, 111, 102, 32, 123, 32, 98, 121, 116, 101, 32, 125, 59, 32, 105, 110, 105, 116, 32, 123, 32] } ++ X ++ { data := #[59, 32, 115, 101, 108, 101, 99, 116, 32, 40, 105, 32, 58, 32] } ++ A ++ { data := #[32, 46, 46, 32] } ++ B ++ { data := #[41, 59, 32, 120, 32, 61, 32, 55, 32, 125] }
def selT (A B X : ByteArray) : ByteArray := { data := #[98, 121, 116, 101, 32, 120, 44, 32, 105, 59, 32, 99, 104, 97, 110, 32, 99, 32, 61, 32, 91, 50, 93, 32, 111, 102, 32, 123, 32, 98, 121, 116, 101, 32, 125, 59, 32, 105, 110, 105, 116, 32, 123, 32] } ++ X ++ { data := #[59, 32, 105, 32, 61, 32] } ++ A ++ { data := #[59, 32, 100, 111, 32, 58, 58, 32, 105, 32, 60, 32] } ++ B ++ { data := #[32, 45, 62, 32, 105, 43, 43, 32, 58, 58, 32, 98, 114, 101, 97, 107, 32, 111, 100, 59, 32, 120, 32, 61, 32, 55, 32, 125] }
set_option maxHeartbeats 4000000 in
set_option maxRecDepth 100000 in
theorem sel_walk {a b n : Int} (hn : -9223372036854775808 ≤ n ∧ n ≤ 9223372036854775807) {W : World}
    (AW : ∀ w, Below W.heap.size W w → Calls PZ 6 #[] w fun e w' => e = .returned (.bool true) ∧ Below w.heap.size w w')
    (CO : ∀ w, Below W.heap.size W w → Calls PZ 9 #[.string (selS (tx (dec (half a))) (tx (dec (half b))) (tx (bodyL n)))] w fun e w' => (∃ (vs : List Value) (c : Value), e = .returned (.tuple #[.agg vs.toArray, .int .i64 0, c]) ∧ vs.length = 7 ∧ ∀ u ∈ vs, u.oneCell' = true) ∧ Below w.heap.size w w')
    (AL : ∀ w, Below W.heap.size W w → Calls PZ 10 #[.string (selS (tx (dec (half a))) (tx (dec (half b))) (tx (bodyL n))), .string (selT (tx (dec (half a))) (tx (dec (half b))) (tx (bodyL n)))] w fun e w' => e = .returned (.bool true) ∧ Below w.heap.size w w') :
    Calls PZ 4 #[.int .i64 a, .int .i64 b, .int .i64 n] W fun e w' => e = .returned (.bool true) ∧ Below W.heap.size W w' := by
  have la := num_len a
  have lb := num_len b
  have ln := bod_len n
  have HB0 := Lib.hid (Below.refl W.heap.size W)
  go_enter Tryz.func4, Tryz.ntmps4
  go_wp2_with fail
  refine (AW _ HB0.out).mono ?_
  rintro e w1 ⟨rfl, hb1⟩
  have HB1 := Lib.hid (HB0.out.trans (hb1.mono HB0.out.size))
  clear hb1
  go_wp2_with fail
  refine (body_any n hn _).mono ?_
  rintro e w2 ⟨rfl, hb2⟩
  have HB2 := Lib.hid (HB1.out.trans (hb2.mono HB1.out.size))
  clear hb2
  rw [show (⟨(bodyL n).toArray⟩ : ByteArray) = tx (bodyL n) from rfl]
  go_wp2_with fail
  refine (number_any a _).mono ?_
  rintro e w3 ⟨rfl, hb3⟩
  have HB3 := Lib.hid (HB2.out.trans (hb3.mono HB2.out.size))
  clear hb3
  rw [show (⟨(dec (half a)).toArray⟩ : ByteArray) = tx (dec (half a)) from rfl]
  go_wp2_with fail
  refine (number_any b _).mono ?_
  rintro e w4 ⟨rfl, hb4⟩
  have HB4 := Lib.hid (HB3.out.trans (hb4.mono HB3.out.size))
  clear hb4
  rw [show (⟨(dec (half b)).toArray⟩ : ByteArray) = tx (dec (half b)) from rfl]
  go_wp2_with fail
  refine (body_any n hn _).mono ?_
  rintro e w5 ⟨rfl, hb5⟩
  have HB5 := Lib.hid (HB4.out.trans (hb5.mono HB4.out.size))
  clear hb5
  rw [show (⟨(bodyL n).toArray⟩ : ByteArray) = tx (bodyL n) from rfl]
  go_wp2_with fail
  refine (number_any a _).mono ?_
  rintro e w6 ⟨rfl, hb6⟩
  have HB6 := Lib.hid (HB5.out.trans (hb6.mono HB5.out.size))
  clear hb6
  rw [show (⟨(dec (half a)).toArray⟩ : ByteArray) = tx (dec (half a)) from rfl]
  go_wp2_with fail
  refine (number_any b _).mono ?_
  rintro e w7 ⟨rfl, hb7⟩
  have HB7 := Lib.hid (HB6.out.trans (hb7.mono HB6.out.size))
  clear hb7
  rw [show (⟨(dec (half b)).toArray⟩ : ByteArray) = tx (dec (half b)) from rfl]
  go_wp2_with fail
  refine (CO _ HB7.out).mono ?_
  rintro e w8 ⟨⟨vs, cc, rfl, v7, v1⟩, hb8⟩
  have HB8 := Lib.hid (HB7.out.trans (hb8.mono HB7.out.size))
  clear hb8
  have hst := store_seven w8 v7 v1
  have HV := Lib.hid v1
  clear v1
  go_wp2_with fail
  refine (AL _ (HBS HB8.out)).mono ?_
  rintro e w9 ⟨rfl, hb9⟩
  have HB9 := Lib.hid ((HBS HB8.out).trans (hb9.mono (HBS HB8.out).size))
  clear hb9
  go_wp2_with fail
  go_ret
  exact ⟨rfl, HB9.out⟩
theorem quo_in {n : Int} (hn : -9223372036854775808 ≤ n ∧ n ≤ 9223372036854775807) : -9223372036854775808 ≤ n.tdiv 9 ∧ n.tdiv 9 ≤ 9223372036854775807 := by
  have h := Int.mul_tdiv_add_tmod n 9
  have g : -9 < n.tmod 9 ∧ n.tmod 9 < 9 := by
    rw [Int.tmod_eq_emod]
    split <;> omega
  omega
def gotS (A B X Y : ByteArray) : ByteArray := { data := #[98, 121, 116, 101, 32, 120, 44, 32, 105, 59, 32, 99, 104, 97, 110, 32, 99, 32, 61, 32, 91, 50, 93, 32, 111, 102, 32, 123, 32, 98, 121, 116, 101, 32, 125, 59, 32, 105, 110, 105, 116, 32, 123, 32, 100, 111, 32, 58, 58, 32, 120, 32, 60, 32] } ++ A ++ { data := #[32, 45, 62, 32] } ++ X ++ { data := #[32, 58, 58, 32, 105, 32, 61, 61, 32] } ++ B ++ { data := #[32, 45, 62, 32] } ++ Y ++ { data := #[59, 32, 98, 114, 101, 97, 107, 32, 111, 100, 59, 32, 120, 32, 61, 32, 55, 32, 125] }
def gotT (A B X Y : ByteArray) : ByteArray := { data := #[98, 121, 116, 101, 32, 120, 44, 32, 105, 59, 32, 99, 104, 97, 110, 32, 99, 32, 61, 32, 91, 50, 93, 32, 111, 102, 32, 123, 32, 98, 121, 116, 101, 32, 125, 59, 32, 105, 110, 105, 116, 32, 123, 32, 108, 58, 32, 105, 102, 32, 58, 58, 32, 120, 32, 60, 32] } ++ A ++ { data := #[32, 45, 62, 32] } ++ X ++ { data := #[59, 32, 103, 111, 116, 111, 32, 108, 32, 58, 58, 32, 105, 32, 61, 61, 32] } ++ B ++ { data := #[32, 45, 62, 32] } ++ Y ++ { data := #[32, 102, 105, 59, 32, 120, 32, 61, 32, 55, 32, 125] }
set_option maxHeartbeats 4000000 in
set_option maxRecDepth 100000 in
theorem got_walk {a b n : Int} (hn : -9223372036854775808 ≤ n ∧ n ≤ 9223372036854775807) {W : World}
    (AW : ∀ w, Below W.heap.size W w → Calls PZ 6 #[] w fun e w' => e = .returned (.bool true) ∧ Below w.heap.size w w')
    (CO : ∀ w, Below W.heap.size W w → Calls PZ 9 #[.string (gotS (tx (dec (half a))) (tx (dec (half b))) (tx (bodyL n)) (tx (bodyL (n.tdiv 9))))] w fun e w' => (∃ (vs : List Value) (c : Value), e = .returned (.tuple #[.agg vs.toArray, .int .i64 0, c]) ∧ vs.length = 7 ∧ ∀ u ∈ vs, u.oneCell' = true) ∧ Below w.heap.size w w')
    (AL : ∀ w, Below W.heap.size W w → Calls PZ 10 #[.string (gotS (tx (dec (half a))) (tx (dec (half b))) (tx (bodyL n)) (tx (bodyL (n.tdiv 9)))), .string (gotT (tx (dec (half a))) (tx (dec (half b))) (tx (bodyL n)) (tx (bodyL (n.tdiv 9))))] w fun e w' => e = .returned (.bool true) ∧ Below w.heap.size w w') :
    Calls PZ 5 #[.int .i64 a, .int .i64 b, .int .i64 n] W fun e w' => e = .returned (.bool true) ∧ Below W.heap.size W w' := by
  have la := num_len a
  have lb := num_len b
  have ln := bod_len n
  have lm := bod_len (n.tdiv 9)
  have hm := quo_in hn
  have hw : wrap64 (n.tdiv 9) = n.tdiv 9 := IntWalk.wrap64_in _ hm
  have HB0 := Lib.hid (Below.refl W.heap.size W)
  go_enter Tryz.func5, Tryz.ntmps5
  go_wp2_with fail
  refine (AW _ HB0.out).mono ?_
  rintro e w1 ⟨rfl, hb1⟩
  have HB1 := Lib.hid (HB0.out.trans (hb1.mono HB0.out.size))
  clear hb1
  go_wp2_with fail
  refine (number_any a _).mono ?_
  rintro e w2 ⟨rfl, hb2⟩
  have HB2 := Lib.hid (HB1.out.trans (hb2.mono HB1.out.size))
  clear hb2
  rw [show (⟨(dec (half a)).toArray⟩ : ByteArray) = tx (dec (half a)) from rfl]
  go_wp2_with fail
  refine (body_any n hn _).mono ?_
  rintro e w3 ⟨rfl, hb3⟩
  have HB3 := Lib.hid (HB2.out.trans (hb3.mono HB2.out.size))
  clear hb3
  rw [show (⟨(bodyL n).toArray⟩ : ByteArray) = tx (bodyL n) from rfl]
  go_wp2_with fail
  refine (number_any b _).mono ?_
  rintro e w4 ⟨rfl, hb4⟩
  have HB4 := Lib.hid (HB3.out.trans (hb4.mono HB3.out.size))
  clear hb4
  rw [show (⟨(dec (half b)).toArray⟩ : ByteArray) = tx (dec (half b)) from rfl]
  go_wp2_with fail
  refine (body_any (n.tdiv 9) hm _).mono ?_
  rintro e w5 ⟨rfl, hb5⟩
  have HB5 := Lib.hid (HB4.out.trans (hb5.mono HB4.out.size))
  clear hb5
  rw [show (⟨(bodyL (n.tdiv 9)).toArray⟩ : ByteArray) = tx (bodyL (n.tdiv 9)) from rfl]
  go_wp2_with fail
  refine (number_any a _).mono ?_
  rintro e w6 ⟨rfl, hb6⟩
  have HB6 := Lib.hid (HB5.out.trans (hb6.mono HB5.out.size))
  clear hb6
  rw [show (⟨(dec (half a)).toArray⟩ : ByteArray) = tx (dec (half a)) from rfl]
  go_wp2_with fail
  refine (body_any n hn _).mono ?_
  rintro e w7 ⟨rfl, hb7⟩
  have HB7 := Lib.hid (HB6.out.trans (hb7.mono HB6.out.size))
  clear hb7
  rw [show (⟨(bodyL n).toArray⟩ : ByteArray) = tx (bodyL n) from rfl]
  go_wp2_with fail
  refine (number_any b _).mono ?_
  rintro e w8 ⟨rfl, hb8⟩
  have HB8 := Lib.hid (HB7.out.trans (hb8.mono HB7.out.size))
  clear hb8
  rw [show (⟨(dec (half b)).toArray⟩ : ByteArray) = tx (dec (half b)) from rfl]
  go_wp2_with fail
  refine (body_any (n.tdiv 9) hm _).mono ?_
  rintro e w9 ⟨rfl, hb9⟩
  have HB9 := Lib.hid (HB8.out.trans (hb9.mono HB8.out.size))
  clear hb9
  rw [show (⟨(bodyL (n.tdiv 9)).toArray⟩ : ByteArray) = tx (bodyL (n.tdiv 9)) from rfl]
  go_wp2_with fail
  refine (CO _ HB9.out).mono ?_
  rintro e w10 ⟨⟨vs, cc, rfl, v7, v1⟩, hb10⟩
  have HB10 := Lib.hid (HB9.out.trans (hb10.mono HB9.out.size))
  clear hb10
  have hst := store_seven w10 v7 v1
  have HV := Lib.hid v1
  clear v1
  go_wp2_with fail
  refine (AL _ (HBS HB10.out)).mono ?_
  rintro e w11 ⟨rfl, hb11⟩
  have HB11 := Lib.hid ((HBS HB10.out).trans (hb11.mono (HBS HB10.out).size))
  clear hb11
  go_wp2_with fail
  go_ret
  exact ⟨rfl, HB11.out⟩
end Go.Ev
namespace Go.Ev
open Go Go.RowKit Go.Proofs Go.ChangeShapes Go.WideShapes Go.ChangeAt Go.Proofs.Lx6
/-- A piece of a source. -/
inductive Pc where
  | t (l : List UInt8)
  | a
  | b
def Pc.bys (A B : List UInt8) : Pc → List UInt8
  | .t l => l
  | .a => A
  | .b => B
def Pc.codes : Pc → List Nat
  | .t l => l.map UInt8.toNat
  | .a => [1]
  | .b => [2]
def Pc.okB : Pc → Bool
  | .t l => l.all fun x => x != 1 && x != 2
  | _ => true
def cat (A B : List UInt8) (ps : List Pc) : List UInt8 := ps.flatMap (Pc.bys A B)
def digs : Nat → Nat → List Nat
  | 0, _ => []
  | n + 1, c => c % 256 :: digs n (c / 256)
def subs (A B : Nat) (x : Nat) : List UInt8 := if x = 1 then dec A else if x = 2 then dec B else [UInt8.ofNat x]
theorem rope_digs (A B : Nat) : ∀ n c, rope A B n c = (digs n c).flatMap (subs A B)
  | 0, _ => rfl
  | n + 1, c => by rw [rope, digs, List.flatMap_cons, rope_digs A B n]; rfl
theorem subs_plain (A B : Nat) : ∀ l : List UInt8, (l.all fun x => x != 1 && x != 2) = true → (l.map UInt8.toNat).flatMap (subs A B) = l
  | [], _ => rfl
  | x :: l, h => by
    rw [List.all_cons, Bool.and_eq_true] at h
    obtain ⟨h1, h2⟩ := h
    rw [List.map_cons, List.flatMap_cons, subs_plain A B l h2]
    simp only [Bool.and_eq_true, bne_iff_ne, ne_eq] at h1
    have g1 : x.toNat ≠ 1 := fun e => h1.1 (UInt8.toNat.inj (by simpa using e))
    have g2 : x.toNat ≠ 2 := fun e => h1.2 (UInt8.toNat.inj (by simpa using e))
    rw [subs, if_neg g1, if_neg g2]
    simp
theorem rope_cat (A B : Nat) {n c : Nat} : ∀ {ps : List Pc}, digs n c = ps.flatMap Pc.codes → ps.all Pc.okB = true → rope A B n c = cat (dec A) (dec B) ps := by
  intro ps h ok
  rw [rope_digs, h]
  clear h
  induction ps with
  | nil => rfl
  | cons p ps ih =>
    rw [List.all_cons, Bool.and_eq_true] at ok
    rw [List.flatMap_cons, List.flatMap_append, ih ok.2]
    show _ ++ cat (dec A) (dec B) ps = List.flatMap _ (p :: ps)
    rw [List.flatMap_cons]
    congr 1
    cases p with
    | t l => exact subs_plain A B l ok.1
    | a => simp [Pc.codes, Pc.bys, subs]
    | b => simp [Pc.codes, Pc.bys, subs]
theorem den_src {Y n c : Nat} {ps : List Pc} (hY : Y = ropeY n c) (hn : n ≤ 65535) (h : digs n c = ps.flatMap Pc.codes) (ok : ps.all Pc.okB = true) (A B : Nat) (M : Int) :
    den A B M Y = .string (tx (cat (dec A) (dec B) ps)) := by
  rw [hY, den_rope A B hn, rope_cat A B h ok]
  rfl
theorem rl_src {ρ : Rn} {A B : Nat} {M : Int} (hρ : ρ.sy = den A B M) {Y : Nat} {s : ByteArray} (h : den A B M Y = .string s) : RV PZ ρ (.y Y) (.string s) := by
  simp only [RV]
  rw [hρ, h]
  exact ⟨rfl, trivial⟩
theorem en6 : ∀ args w, (callFunc 6 args).run PZ w = .ok (.enter 6 args) w := enters_of Tryz.func6 (by kernel_rfl) rfl
theorem en9 : ∀ args w, (callFunc 9 args).run PZ w = .ok (.enter 9 args) w := enters_of Tryz.func9 (by kernel_rfl) rfl
theorem en10 : ∀ args w, (callFunc 10 args).run PZ w = .ok (.enter 10 args) w := enters_of Tryz.func10 (by kernel_rfl) rfl
/-- What is known of two sources. -/
structure Two (y z : AV) (d e dy dz : DV) : Prop where
  ry : byItself PZ true (E R3) T0 13 [.v y] = .ok dy
  rz : byItself PZ true (E R3) T0 13 [.v z] = .ok dz
  cy : byItself PZ true (E (RC y dy)) T0 9 [.v y] = .ok d
  cz : byItself PZ true (E (RC z dz)) T0 9 [.v z] = .ok e
theorem Two.ok {y z : AV} {d e dy dz : DV} (T : Two y z d e dy dz) (hy : isTx y) (hz : isTx z) (base : Nat) : ∀ f r, RL2 y z d e f = some r → RuleOk PZ base f r :=
  RL2_ok hy hz T.ry T.rz T.cy T.cz base
/-- Two sources are alike, and the first one is a model. -/
structure Same (Y Z : Nat) : Prop where
  ex : ∃ d e dy dz, Two (.y Y) (.y Z) d e dy dz ∧ saysTrue 10 (RL2 (.y Y) (.y Z) d e) [.y Y, .y Z] ∧ noErr (RL2 (.y Y) (.y Z) d e) (.y Y)
/-- The two of awake. -/
def Woke : Prop := ∃ n c m q d e dy dz, Two (.s n c) (.s m q) d e dy dz ∧ saysTrue 6 (RL2 (.s n c) (.s m q) d e) []
section
variable {W : World} {ρ : Rn} {A B : Nat} {M : Int} (hρ : ρ.sy = den A B M) (s : Sim PZ W.heap.size ρ (onlyT T0) W)
include hρ s
theorem awake_any (hw : Woke) (w : World) (hb : Below W.heap.size W w) : Calls PZ 6 #[] w fun e w' => e = .returned (.bool true) ∧ Below w.heap.size w w' := by
  obtain ⟨n, c, m, q, d, e, dy, dz, T, h⟩ := hw
  obtain ⟨ρ', _, s'⟩ := sim_later s hb
  exact run_true (T.ok trivial trivial) s' (args := []) (by simp only [RL]) (en6 _ _) h
theorem comp_any {Y Z : Nat} (H : Same Y Z) {t : ByteArray} (ht : den A B M Y = .string t) (w : World) (hb : Below W.heap.size W w) :
    Calls PZ 9 #[.string t] w fun e w' => (∃ (vs : List Value) (c : Value), e = .returned (.tuple #[.agg vs.toArray, .int .i64 0, c]) ∧ vs.length = 7 ∧ ∀ u ∈ vs, u.oneCell' = true) ∧ Below w.heap.size w w' := by
  obtain ⟨d, e, dy, dz, T, h1, h2⟩ := H.ex
  obtain ⟨ρ', e', s'⟩ := sim_later s hb
  refine run_noerr (T.ok trivial trivial) s' (args := [.y Y]) ?_ (en9 _ _) h2
  simp only [RL]
  exact ⟨_, _, rfl, rl_src (e'.trans hρ) ht, rfl⟩
theorem same_any {Y Z : Nat} (H : Same Y Z) {t u : ByteArray} (ht : den A B M Y = .string t) (hu : den A B M Z = .string u) (w : World) (hb : Below W.heap.size W w) :
    Calls PZ 10 #[.string t, .string u] w fun e w' => e = .returned (.bool true) ∧ Below w.heap.size w w' := by
  obtain ⟨d, e, dy, dz, T, h1, h2⟩ := H.ex
  obtain ⟨ρ', e', s'⟩ := sim_later s hb
  refine run_true (T.ok trivial trivial) s' (args := [.y Y, .y Z]) ?_ (en10 _ _) h1
  simp only [RL]
  exact ⟨_, _, rfl, rl_src (e'.trans hρ) ht, _, _, rfl, rl_src (e'.trans hρ) hu, rfl⟩
end
end Go.Ev
