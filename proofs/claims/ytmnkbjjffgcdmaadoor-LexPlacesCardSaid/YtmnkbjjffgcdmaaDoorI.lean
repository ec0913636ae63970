/-
  Contract of lex's token. Conditions: a place inside the source, which has at most 65535 bytes; the marks lie where the list says; the variable that Cut's callees read is there.
-/
import Derived.Test.YtmnkbjjffgcdmaaDoorH
namespace Go.Proofs.YtmnkbjjffgcdmaaDoor
open Go.ChangeShapes Go.WideShapes Go.ChangeAt Go.RowKit
/-- The marks, the longer ones first. -/
def marksL : List (List UInt8) := [[33, 33], [63, 63], [45, 62], [58, 58], [43, 43], [45, 45], [60, 60], [62, 62], [60, 61], [62, 61], [61, 61], [33, 61], [38, 38], [124, 124], [46, 46], [33], [63], [60], [62], [61], [43], [45], [42], [47], [37], [38], [124], [94], [126], [40], [41], [91], [93], [123], [125], [44], [59], [58], [46], [64], [35]]
def markJ (l : List UInt8) (a : Nat) : Option Nat := srch (fun j => begF l a (marksL.getD j [])) 0 (41 - 0)
def markV (a : Nat) : Option Nat → Value
  | some j => .tuple #[tokV 4 0 0 (marksL.getD j []) 0, .int .i64 (a + (marksL.getD j []).length : Nat), .int .i64 0]
  | none => .tuple #[tokV 0 0 0 [] 0, .int .i64 0, .int .i64 2]
theorem marks_len : ∀ j, (marksL.getD j []).length ≤ 2 := by
  have h : ∀ j : Fin 41, (marksL.getD j.val []).length ≤ 2 := by decide +kernel
  intro j
  by_cases hj : j < 41
  · exact h ⟨j, hj⟩
  · rw [List.getD_eq_getElem?_getD, List.getElem?_eq_none (by show marksL.length ≤ j; rw [show marksL.length = 41 from by decide +kernel]; omega)]; simp
set_option maxHeartbeats 4000000 in
set_option maxRecDepth 20000 in
theorem token_mark (s : ByteArray) (a : Nat) (kb : Nat) (w : World) (ha : a < s.size) (hs : s.size ≤ 65535) (hk : ∀ i, i < 41 → w.cell? ⟨kb, i, none⟩ = some (.string ⟨(marksL.getD i []).toArray⟩))
   (hl : letF (s[a].toNat : Int) = false) (hd : digF (s[a].toNat : Int) = false) (h34 : ((s[a].toNat : Int) == 34) = false) (h39 : ((s[a].toNat : Int) == 39) = false) :
    Calls Tryd.prog 10 #[.string s, .int .i64 a, .slice (some ⟨kb, 0, none⟩) 41 41] w fun e w' => e = .returned (markV a (markJ s.data.toList a)) ∧ Below w.heap.size w w' := by
  have hby := byte_le s a ha
  have HL := Lib.hid hl; clear hl
  have HD := Lib.hid hd; clear hd
  have hkb := World.block_lt_of_cell? w _ (hk 0 (by omega))
  simp at hkb
  have HK := Lib.hid hk; clear hk
  have ed : (s.extract a s.size).data.toList = s.data.toList.drop a := Lib.extract_to_end s a
  have HP : Hid (∀ (j : Nat) (w0 : World), Calls Tryd.prog 17 #[.string (s.extract a s.size), .string ⟨(marksL.getD j []).toArray⟩] w0 fun e w' => e = .returned (.bool (begF s.data.toList a (marksL.getD j []))) ∧ w' = w0) := fun j w0 => by
    have := Tryd.strings_HasPrefix (s.extract a s.size) ⟨(marksL.getD j []).toArray⟩ w0
    rw [ed] at this
    exact this
  clear ed
  obtain ⟨T, hT⟩ : ∃ T, markJ s.data.toList a = T := ⟨_, rfl⟩
  rw [hT]
  have HT := Lib.hid hT; clear hT
  go_enter Tryd.func10, Tryd.ntmps10
  go_wp2
  refine wp_scope_once 0 rfl ?_
  go_wp2_with fail
  refine (letter_any _ _ (by omega) hby).mono ?_
  rintro e w1 ⟨rfl, rfl⟩
  rw [HL.out]
  go_wp2_with fail
  refine (digit_any _ _ (by omega) hby).mono ?_
  rintro e w1 ⟨rfl, rfl⟩
  rw [HD.out]
  go_wp2_with fail
  go_loop [11, 30] (fun _ i => ∃ k : Nat, k ≤ 41 ∧ i = .int .i64 k ∧ T = srch (fun j => begF s.data.toList a (marksL.getD j [])) k (41 - k)) (fun _ i => 41 - (intOf i).toNat)
  case atStart => exact ⟨0, by omega, rfl, HT.out.symm⟩
  case round =>
    obtain ⟨k, hk1, rfl, hT2⟩ := hrel
    have HT2 := Lib.hid hT2; clear hT2
    by_cases hlt : k < 41
    · have hc : (w.alloc (.cells #[.int .i64 0, .int .i64 0, .int .i64 0, .string ⟨#[]⟩, .int .i64 0] 27)).cell? ⟨kb, k, none⟩ = some (.string ⟨(marksL.getD k []).toArray⟩) :=
        (((Below.refl _ _).alloc (Nat.le_refl _) _).cell (p := ⟨kb, k, none⟩) hkb).trans (HK.out k hlt)
      have hml := marks_len k
      have HPk := Lib.hid (HP.out k)
      obtain ⟨M, hM⟩ : ∃ M, marksL.getD k [] = M := ⟨_, rfl⟩
      cases hb : begF s.data.toList a (marksL.getD k [])
      · have HT3 : Hid (T = srch (fun j => begF s.data.toList a (marksL.getD j [])) (k + 1) (41 - (k + 1))) := HT2.out.trans (srch_miss hlt hb)
        rw [hM] at hc HPk hml hb
        have HB := Lib.hid hb; clear hb
        have HMM := Lib.hid hM; clear hM
        go_wp2_with fail
        refine (HPk.out _).mono ?_
        rintro e w1 ⟨rfl, hw1⟩
        subst hw1
        rw [HB.out]
        go_wp2_with fail
        go_round
        case rel => exact ⟨k + 1, by omega, by go_num, HT3.out⟩
        case measure => simp [intOf]; omega
      · have HT3 : Hid (T = some k) := HT2.out.trans (srch_hit hlt hb)
        rw [hM] at hc HPk hml hb
        have HB := Lib.hid hb; clear hb
        have HMM := Lib.hid hM; clear hM
        go_wp2_with fail
        refine (HPk.out _).mono ?_
        rintro e w1 ⟨rfl, hw1⟩
        subst hw1
        rw [HB.out]
        go_wp2_with fail
        simp only [Exit.jump]
        refine bodyPost_ret (v := .tuple #[.agg #[.int .i64 4, .int .i64 0, .int .i64 0, .string ⟨M.toArray⟩, .int .i64 0], .int .i64 ((a : Int) + M.length), .int .i64 0]) (by simp [results, Tryd.results10, go_sem]) rfl ⟨?_, by go_grown⟩
        rw [HT3.out, markV, HMM.out, tokV]
        rfl
    · have hk41 : 41 ≤ k := by omega
      have HT3 : Hid (T = none) := HT2.out.trans (srch_end (by omega))
      go_wp2_with fail
      simp only [Exit.jump]
      refine bodyPost_ret (v := .tuple #[tokV 0 0 0 [] 0, .int .i64 0, .int .i64 2]) (by simp [results, Tryd.results10, go_sem, tokV]) rfl ⟨?_, by go_grown⟩
      rw [HT3.out, markV]
/-- What token begins at a place: what is wrong (0: nothing), its kind, its text, its number, how many bytes it takes. -/
structure TR where
  e : Int
  kind : Int
  text : List UInt8
  n : Int
  len : Nat
def TR.bad (e : Int) : TR := ⟨e, 0, [], 0, 0⟩
def nextF (l : List UInt8) (a : Nat) : TR :=
  if letF (bt l a) = true then (if 32 < runEnd (isW l) l a - a then .bad 5 else ⟨0, 1, sub l a (runEnd (isW l) l a - a), 0, runEnd (isW l) l a - a⟩)
  else if digF (bt l a) = true then (if 2147483647 < dval l a (runEnd (isD l) l a - a) then .bad 4 else ⟨0, 2, sub l a (runEnd (isD l) l a - a), dval l a (runEnd (isD l) l a - a), runEnd (isD l) l a - a⟩)
  else if bt l a = 34 then (match txtF l a with
    | none => .bad 3
    | some e => if 202 + a < e then .bad 5 else ⟨0, 3, sub l (a + 1) (e - a - 2), 0, e - a⟩)
  else if bt l a = 39 then (match charF l a with
    | none => .bad 3
    | some (v, n) => ⟨0, 2, sub l a n, v, n⟩)
  else match markJ l a with
    | none => .bad 2
    | some j => ⟨0, 4, marksL.getD j [], 0, (marksL.getD j []).length⟩
def TokPost (r : TR) (a : Nat) (w : World) : Ending → World → Prop := fun e w' => (∃ (k n en : Int) (tx : ByteArray), e = .returned (.tuple #[.agg #[.int .i64 k, .int .i64 0, .int .i64 0, .string tx, .int .i64 n], .int .i64 en, .int .i64 r.e]) ∧ (r.e = 0 → k = r.kind ∧ n = r.n ∧ tx = ⟨r.text.toArray⟩ ∧ en = a + r.len)) ∧ Below w.heap.size w w'
theorem token_any (s : ByteArray) (a : Nat) (kb : Nat) (m : Int) (w : World) (ha : a < s.size) (hs : s.size ≤ 65535) (hm : w.cell? ⟨2, 0, none⟩ = some (.int .i64 m)) (hk : ∀ i, i < 41 → w.cell? ⟨kb, i, none⟩ = some (.string ⟨(marksL.getD i []).toArray⟩)) :
    Calls Tryd.prog 10 #[.string s, .int .i64 a, .slice (some ⟨kb, 0, none⟩) 41 41] w (TokPost (nextF s.data.toList a) a w) := by
  have hb := bt_eq s a ha
  have hlen : s.data.toList.length = s.size := rfl
  unfold nextF
  rw [hb]
  cases h1 : letF (s[a].toNat : Int)
  · rw [if_neg (by decide)]
    cases h2 : digF (s[a].toNat : Int)
    · rw [if_neg (by decide)]
      by_cases h34 : (s[a].toNat : Int) = 34
      · rw [if_pos h34]
        refine (token_text s a _ w ha hs h34).mono ?_
        rintro e w' ⟨rfl, hB⟩
        refine ⟨?_, hB⟩
        cases hT : txtF s.data.toList a with
        | none => exact ⟨0, 0, 0, ⟨#[]⟩, rfl, fun h => absurd (show (3 : Int) = 0 from h) (by decide)⟩
        | some e0 =>
          have hbd := txtF_bd hT
          by_cases hbig : 202 + a < e0
          · simp only [textV]
            rw [if_pos hbig, if_pos hbig]
            exact ⟨0, 0, 0, ⟨#[]⟩, rfl, fun h => absurd (show (5 : Int) = 0 from h) (by decide)⟩
          · simp only [textV]
            rw [if_neg hbig, if_neg hbig]
            exact ⟨3, 0, e0, _, rfl, fun _ => ⟨rfl, rfl, rfl, by show (e0 : Int) = a + ((e0 - a : Nat) : Int); omega⟩⟩
      · rw [if_neg h34]
        by_cases h39 : (s[a].toNat : Int) = 39
        · rw [if_pos h39]
          refine (token_char s a _ m w ha hs hm h39).mono ?_
          rintro e w' ⟨rfl, hB⟩
          refine ⟨?_, hB⟩
          cases hT : charF s.data.toList a with
          | none => exact ⟨0, 0, 0, ⟨#[]⟩, rfl, fun h => absurd (show (3 : Int) = 0 from h) (by decide)⟩
          | some x => exact ⟨2, x.1, (a + x.2 : Nat), _, rfl, fun _ => ⟨rfl, rfl, rfl, by show ((a + x.2 : Nat) : Int) = a + (x.2 : Int); omega⟩⟩
        · rw [if_neg h39]
          refine (token_mark s a kb w ha hs hk h1 h2 (by simpa using h34) (by simpa using h39)).mono ?_
          rintro e w' ⟨rfl, hB⟩
          refine ⟨?_, hB⟩
          cases hT : markJ s.data.toList a with
          | none => exact ⟨0, 0, 0, ⟨#[]⟩, rfl, fun h => absurd (show (2 : Int) = 0 from h) (by decide)⟩
          | some j => exact ⟨4, 0, _, _, rfl, fun _ => ⟨rfl, rfl, rfl, by push_cast; rfl⟩⟩
    · rw [if_pos rfl]
      refine (token_num s a _ w ha hs h1 h2).mono ?_
      rintro e w' ⟨⟨N, rfl⟩, hB⟩
      refine ⟨?_, hB⟩
      have hbd := runEnd_bd (isD s.data.toList) s.data.toList a (by omega)
      unfold numV
      split
      · exact ⟨0, N, 0, ⟨#[]⟩, rfl, fun h => absurd (show (4 : Int) = 0 from h) (by decide)⟩
      · exact ⟨2, _, _, _, rfl, fun _ => ⟨rfl, rfl, rfl, by show _ = _; simp only []; omega⟩⟩
  · rw [if_pos rfl]
    refine (token_name s a _ w ha hs h1).mono ?_
    rintro e w' ⟨rfl, hB⟩
    refine ⟨?_, hB⟩
    have hbd := runEnd_bd (isW s.data.toList) s.data.toList a (by omega)
    unfold nameV
    split
    · exact ⟨0, 0, 0, ⟨#[]⟩, rfl, fun h => absurd (show (5 : Int) = 0 from h) (by decide)⟩
    · exact ⟨1, 0, _, _, rfl, fun _ => ⟨rfl, rfl, rfl, by show _ = _; simp only []; omega⟩⟩
end Go.Proofs.YtmnkbjjffgcdmaaDoor
