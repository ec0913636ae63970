/- Part of the proof of CompileForCardSaid. -/
import Derived.Test.YthhgndcpeeifeaaGreatDoorE22
import Derived.Test.YthhgndcpeeifeaaGreatDoorE01
set_option linter.unusedVariables false
set_option linter.unusedSimpArgs false
set_option linter.unusedSectionVars false
set_option linter.constructorNameAsVariable false
namespace Go.Proofs.Lx6
open Go.ChangeShapes Go.WideShapes Go.ChangeAt Go.RowKit
/-- The tokens' places and lines from a place on, and the line of the end. -/
def toksL (l : List UInt8) : Nat → Nat → Nat → Option (List (Nat × Nat) × Nat)
  | 0, _, _ => none
  | f + 1, a, ln =>
    if a < l.length then
      match blankF (bt l a) l a with
      | none => none
      | some (n + 1, k) => toksL l f (a + (n + 1)) (ln + k)
      | some (0, _) => if (nextF l a).e = 0 then (toksL l f (a + (nextF l a).len) ln).map fun x => ((a, ln) :: x.1, x.2) else none
    else some ([], ln)
theorem toksL_mono {l : List UInt8} : ∀ {f g a ln : Nat} {x}, toksL l f a ln = some x → f ≤ g → toksL l g a ln = some x
  | 0, _, _, _, _, h, _ => by cases h
  | f + 1, 0, _, _, _, _, hg => by omega
  | f + 1, g + 1, a, ln, x, h, hg => by
    unfold toksL at h ⊢
    split at h
    · rename_i ha
      rw [if_pos ha]
      split at h
      · cases h
      · rename_i n k hb
        exact toksL_mono h (by omega)
      · rename_i k hb
        split at h
        · rename_i he
          rw [if_pos he]
          cases hr : toksL l f (a + (nextF l a).len) ln with
          | none => rw [hr] at h; cases h
          | some y =>
            rw [hr] at h
            rw [toksL_mono hr (by omega)]; exact h
        · cases h
    · rename_i ha
      rw [if_neg ha]; exact h
theorem path_toksL {l : List UInt8} {pts : List (Nat × Nat)} {p ln : Nat} (h : Path l pts p ln) : ∀ {f : Nat} {r z}, toksL l f p ln = some (r, z) → ∃ g, toksL l g 0 1 = some (pts ++ r, z) := by
  induction h with
  | nil => intro f r z hr; exact ⟨f, hr⟩
  | blank hp hlt hb ih =>
    intro f r z hr
    refine ih (f := f + 1) ?_
    unfold toksL
    rw [if_pos hlt, hb]
    exact hr
  | tok hp hlt hb he ih =>
    intro f r z hr
    rw [List.append_assoc]
    refine ih (f := f + 1) ?_
    unfold toksL
    rw [if_pos hlt, hb]
    simp only [he, if_true, hr, Option.map_some]
    rfl
/-- A path to the end is what the list says. -/
theorem path_end {l : List UInt8} {pts pts' : List (Nat × Nat)} {ln ln' f : Nat} (h : Path l pts l.length ln) (hf : toksL l f 0 1 = some (pts', ln')) : pts = pts' ∧ ln = ln' := by
  have h0 : toksL l 1 l.length ln = some ([], ln) := by unfold toksL; rw [if_neg (Nat.lt_irrefl _)]
  obtain ⟨g, hg⟩ := path_toksL h h0
  rw [List.append_nil] at hg
  have a := toksL_mono hg (Nat.le_max_left g f)
  have b := toksL_mono hf (Nat.le_max_right g f)
  rw [a] at b
  cases b
  exact ⟨rfl, rfl⟩
/-- A list that is told is no error. -/
theorem toksL_good {l : List UInt8} : ∀ {f : Nat} (g : Nat) {a ln c : Nat} {x}, toksL l f a ln = some x → c + x.1.length ≤ 8191 → toksE l g a c = (0, 0)
  | 0, _, _, _, _, _, h, _ => by cases h
  | f + 1, 0, _, _, _, _, _, _ => rfl
  | f + 1, g + 1, a, ln, c, x, h, hc => by
    unfold toksL at h
    split at h
    · rename_i ha
      split at h
      · cases h
      · rename_i n k hb
        rw [toksE_blank ha hb]
        exact toksL_good g h hc
      · rename_i k hb
        split at h
        · rename_i he
          cases hr : toksL l f (a + (nextF l a).len) ln with
          | none => rw [hr] at h; cases h
          | some y =>
            rw [hr] at h
            cases h
            simp only [List.length_cons] at hc
            rw [toksE_tok ha hb he (by omega)]
            exact toksL_good g hr (by omega)
        · cases h
    · rename_i ha
      exact toksE_end (by omega)
theorem toksR_good {l : List UInt8} {f : Nat} {x} (hs : l.length ≤ 65535) (h : toksL l f 0 1 = some x) (hc : x.1.length ≤ 8191) : toksR l = (0, 0) := by
  unfold toksR
  rw [if_neg (by omega)]
  exact toksL_good _ h (by omega)
/-- lex.Tokens, where the list is known. -/
theorem tokens_list (s : ByteArray) (m : Int) (w : World) (hs : s.size ≤ 65535) (hm : w.cell? ⟨4, 0, none⟩ = some (.int .i64 m)) (htab : Lib.TabIs Tryz.prog w "strings.asciiSpace" .u8 Lib.asciiSpaceTab) {f : Nat} {pts : List (Nat × Nat)} {ln : Nat}
    (h : toksL s.data.toList f 0 1 = some (pts, ln)) (hc : pts.length ≤ 8191) :
    Calls Tryz.prog 25 #[.string s] w fun e w' => ∃ v, e = .returned (.tuple #[v, .int .i64 0, .int .i64 0]) ∧
      w'.ownsRow w.heap.size 164 5 v (pts.length + 1) (pts.flatMap (tokC s.data.toList) ++ [.int .i64 0, .int .i64 s.size, .int .i64 ln, .string ⟨#[]⟩, .int .i64 0]) ∧ Below w.heap.size w w' := by
  have hl : s.data.toList.length = s.size := by simp
  refine (tokens_any s m w (by omega) hm htab).mono ?_
  rintro e w' ⟨h1, hb⟩
  rw [toksR_good (by omega) h hc] at h1
  rcases h1 with ⟨h1, _⟩ | ⟨_, v, pts', ln', rfl, hp, ho⟩
  · exact absurd rfl h1
  · obtain ⟨rfl, rfl⟩ := path_end hp h
    rw [hl] at ho
    exact ⟨v, rfl, ho, hb⟩
end Go.Proofs.Lx6
namespace Go.Proofs.Lx6
open Go.ChangeShapes Go.WideShapes Go.ChangeAt Go.RowKit
theorem bt_mid (pre : List UInt8) (b : UInt8) (r : List UInt8) : bt (pre ++ b :: r) pre.length = (b.toNat : Int) := by
  unfold bt
  rw [List.getD_eq_getElem?_getD, List.getElem?_append_right (Nat.le_refl _), Nat.sub_self]
  rfl
/-- A run of bytes that are so ends where it ends. -/
theorem runEnd_app {q : Int → Bool} : ∀ (xs pre ys l : List UInt8), l = pre ++ (xs ++ ys) → (∀ b ∈ xs, q (b.toNat : Int) = true) → (∀ b t, ys = b :: t → q (b.toNat : Int) = false) → runEnd (fun j => q (bt l j)) l pre.length = pre.length + xs.length
  | [], pre, [], l, hl, _, _ => by
    subst hl
    unfold runEnd
    rw [srch_end (by simp)]
    simp
  | [], pre, y :: ys, l, hl, _, h2 => by
    subst hl
    unfold runEnd
    have hp : (!q (bt (pre ++ ([] ++ y :: ys)) pre.length)) = true := by
      rw [List.nil_append, bt_mid, h2 y ys rfl]; rfl
    rw [srch_hit (p := fun j => !q (bt (pre ++ ([] ++ y :: ys)) j)) (by simp) hp]
    simp
  | x :: xs, pre, ys, l, hl, h1, h2 => by
    have hl2 : l = (pre ++ [x]) ++ (xs ++ ys) := by rw [hl]; simp
    have ih := runEnd_app xs (pre ++ [x]) ys l hl2 (fun b hb => h1 b (by simp [hb])) h2
    have hp : (!q (bt l pre.length)) = false := by
      rw [hl, List.cons_append, bt_mid, h1 x (by simp)]; rfl
    unfold runEnd at ih ⊢
    rw [srch_miss (p := fun j => !q (bt l j)) (by rw [hl]; simp) hp]
    rw [List.length_append, List.length_singleton] at ih
    rw [ih, List.length_cons]
    omega
theorem sub_mid (pre xs ys : List UInt8) : sub (pre ++ (xs ++ ys)) pre.length xs.length = xs := by
  unfold sub
  rw [List.drop_left, List.take_left]
/-- A word. -/
theorem nextF_word {pre xs ys l : List UInt8} {x : UInt8} {t : List UInt8} (hl : l = pre ++ (xs ++ ys)) (hx : xs = x :: t) (h0 : letF (x.toNat : Int) = true) (h1 : ∀ b ∈ xs, (letF (b.toNat : Int) || digF (b.toNat : Int)) = true)
    (h2 : ∀ b r, ys = b :: r → (letF (b.toNat : Int) || digF (b.toNat : Int)) = false) (h3 : xs.length ≤ 32) : nextF l pre.length = ⟨0, 1, xs, 0, xs.length⟩ := by
  have hr : runEnd (isW l) l pre.length = pre.length + xs.length := runEnd_app (q := fun c => letF c || digF c) xs pre ys l hl h1 h2
  have hb : bt l pre.length = (x.toNat : Int) := by rw [hl, hx, List.cons_append, bt_mid]
  unfold nextF
  rw [hb, if_pos h0, hr, Nat.add_sub_cancel_left, if_neg (by omega), hl, sub_mid]
/-- A number. -/
theorem nextF_num {pre xs ys l : List UInt8} {x : UInt8} {t : List UInt8} (hl : l = pre ++ (xs ++ ys)) (hx : xs = x :: t) (hn : letF (x.toNat : Int) = false) (h1 : ∀ b ∈ xs, digF (b.toNat : Int) = true)
    (h2 : ∀ b r, ys = b :: r → digF (b.toNat : Int) = false) {v : Int} (hv : dval l pre.length xs.length = v) (h3 : v ≤ 2147483647) : nextF l pre.length = ⟨0, 2, xs, v, xs.length⟩ := by
  have hr : runEnd (isD l) l pre.length = pre.length + xs.length := runEnd_app (q := fun c => digF c) xs pre ys l hl h1 h2
  have hb : bt l pre.length = (x.toNat : Int) := by rw [hl, hx, List.cons_append, bt_mid]
  have hd : digF (x.toNat : Int) = true := h1 x (by simp [hx])
  unfold nextF
  rw [hb, if_neg (by simp [hn]), if_pos hd, hr, Nat.add_sub_cancel_left, hv, if_neg (by omega), hl, sub_mid]
/-- The number that digits make, from the front on. -/
def numL : List UInt8 → Int → Int
  | [], a => a
  | b :: r, a => numL r (a * 10 + ((b.toNat : Int) - 48))
theorem dval_snoc (l : List UInt8) (a n : Nat) : dval l a (n + 1) = dval l a n * 10 + (bt l (a + n) - 48) := rfl
theorem numL_snoc : ∀ (xs : List UInt8) (b : UInt8) (a : Int), numL (xs ++ [b]) a = numL xs a * 10 + ((b.toNat : Int) - 48)
  | [], _, _ => rfl
  | x :: xs, b, a => by rw [List.cons_append, numL, numL_snoc xs b, numL]
theorem dval_num (pre ys : List UInt8) : ∀ (n : Nat) (xs : List UInt8), xs.length = n → dval (pre ++ (xs ++ ys)) pre.length n = numL xs 0
  | 0, xs, h => by rw [List.length_eq_zero_iff.1 h]; rfl
  | n + 1, xs, h => by
    obtain ⟨xs', b, rfl⟩ : ∃ xs' b, xs = xs' ++ [b] := by
      rcases List.eq_nil_or_concat xs with h' | ⟨xs', b, h'⟩
      · subst h'; simp at h
      · exact ⟨xs', b, by rw [h']; simp⟩
    have hn : xs'.length = n := by simpa using h
    have e1 : pre ++ (xs' ++ [b] ++ ys) = pre ++ (xs' ++ (b :: ys)) := by simp
    have e2 : pre ++ (xs' ++ (b :: ys)) = (pre ++ xs') ++ b :: ys := by simp
    rw [dval_snoc, numL_snoc, e1]
    have ih := dval_num pre (b :: ys) n xs' hn
    rw [ih, e2, ← hn, ← List.length_append, bt_mid]
end Go.Proofs.Lx6
namespace Go.Proofs.Lx6
open Go.Ev
theorem numL_dec : ∀ (f n : Nat), n < 10 ^ f → 1 ≤ f → numL (decN f n) 0 = (n : Int)
  | 0, _, _, h => by omega
  | f + 1, n, h, _ => by
    unfold decN
    have h48 : ∀ d, d < 10 → ((UInt8.ofNat (48 + d)).toNat : Int) - 48 = (d : Int) := fun d hd => by
      have : (UInt8.ofNat (48 + d)).toNat = 48 + d := by simp only [UInt8.toNat_ofNat']; omega
      rw [this]; omega
    split
    · rename_i h10
      rw [numL, numL, h48 n h10]; omega
    · have hf : 1 ≤ f := by
        rcases Nat.eq_zero_or_pos f with h0 | h0
        · subst h0; simp at h; omega
        · exact h0
      rw [numL_snoc, numL_dec f (n / 10) (by rw [Nat.pow_succ] at h; omega) hf, h48 (n % 10) (Nat.mod_lt _ (by omega))]
      omega
theorem num_dec {n : Nat} (h : n < 2147483648) : numL (dec n) 0 = (n : Int) := numL_dec 10 n (by omega) (by omega)
end Go.Proofs.Lx6
namespace Go.Proofs.Lx6
theorem begF_mid (pre r t : List UInt8) : begF (pre ++ r) pre.length t = t.isPrefixOf r := by
  unfold begF
  rw [List.drop_left]
theorem blank_nl (pre r : List UInt8) : blankF (bt (pre ++ 10 :: r) pre.length) (pre ++ 10 :: r) pre.length = some (1, 1) := by
  rw [bt_mid]; rfl
theorem blank_sp (pre r : List UInt8) : blankF (bt (pre ++ 32 :: r) pre.length) (pre ++ 32 :: r) pre.length = some (1, 0) := by
  rw [bt_mid]; rfl
/-- No blank. -/
theorem blank_no (pre r : List UInt8) (b : UInt8) (h : b ≠ 10 ∧ b ≠ 32 ∧ b ≠ 9 ∧ b ≠ 12 ∧ b ≠ 13 ∧ b ≠ 92 ∧ b ≠ 47) : blankF (bt (pre ++ b :: r) pre.length) (pre ++ b :: r) pre.length = some (0, 0) := by
  obtain ⟨h1, h2, h3, h4, h5, h6, h7⟩ := h
  have ne : ∀ c : UInt8, b ≠ c → ((b.toNat : Int) == (c.toNat : Int)) = false := fun c hc => by
    rw [beq_eq_false_iff_ne]
    intro e
    exact hc (UInt8.toNat_inj.1 (by omega))
  have n1 := ne 10 h1
  have n2 := ne 32 h2
  have n3 := ne 9 h3
  have n4 := ne 12 h4
  have n5 := ne 13 h5
  simp only [show ((10 : UInt8).toNat : Int) = 10 from rfl, show ((32 : UInt8).toNat : Int) = 32 from rfl, show ((9 : UInt8).toNat : Int) = 9 from rfl, show ((12 : UInt8).toNat : Int) = 12 from rfl, show ((13 : UInt8).toNat : Int) = 13 from rfl] at n1 n2 n3 n4 n5
  have p : ∀ (c d : UInt8), b ≠ c → begF (pre ++ b :: r) pre.length [c, d] = false := fun c d hc => by
    rw [begF_mid, pre_cons, beq_false_of_ne (Ne.symm hc), Bool.false_and]
  unfold blankF
  rw [bt_mid]
  simp only [n1, n2, n3, n4, n5, p 92 10 h6, p 47 42 h7, p 47 47 h7, Bool.or_false, Bool.false_eq_true, if_false]
end Go.Proofs.Lx6
namespace Go.Proofs.Lx6
theorem markJ_mid (pre r : List UInt8) : markJ (pre ++ r) pre.length = srch (fun j => (marksL.getD j []).isPrefixOf r) 0 41 := by
  unfold markJ
  have : (fun j => begF (pre ++ r) pre.length (marksL.getD j [])) = fun j => (marksL.getD j []).isPrefixOf r := by
    funext j; exact begF_mid pre r _
  rw [this]
theorem prefix_two : ∀ (t : List UInt8) (x y : UInt8) (r : List UInt8), t.length ≤ 2 → t.isPrefixOf (x :: y :: r) = t.isPrefixOf [x, y]
  | [], _, _, _, _ => rfl
  | [a], x, y, r, _ => by rw [pre_cons, pre_cons]; rfl
  | [a, b], x, y, r, _ => by rw [pre_cons, pre_cons, pre_cons, pre_cons]; rfl
  | _ :: _ :: _ :: _, _, _, _, h => by simp at h
/-- The mark with which a row begins hangs on its first two bytes. -/
theorem markJ_two (pre r : List UInt8) (x y : UInt8) : markJ (pre ++ x :: y :: r) pre.length = srch (fun j => (marksL.getD j []).isPrefixOf [x, y]) 0 41 := by
  rw [markJ_mid]
  have : (fun j => (marksL.getD j []).isPrefixOf (x :: y :: r)) = fun j => (marksL.getD j []).isPrefixOf [x, y] := by
    funext j; exact prefix_two _ _ _ _ (marks_len j)
  rw [this]
/-- A mark. -/
theorem nextF_mark {pre r l : List UInt8} {x : UInt8} (hl : l = pre ++ x :: r) (h1 : letF (x.toNat : Int) = false) (h2 : digF (x.toNat : Int) = false) (h3 : x ≠ 34) (h4 : x ≠ 39) {j : Nat} (hj : markJ l pre.length = some j) :
    nextF l pre.length = ⟨0, 4, marksL.getD j [], 0, (marksL.getD j []).length⟩ := by
  have hb : bt l pre.length = (x.toNat : Int) := by rw [hl, bt_mid]
  have n3 : ¬ ((x.toNat : Int) = 34) := fun e => h3 (UInt8.toNat_inj.1 (by have : (34 : UInt8).toNat = 34 := rfl; omega))
  have n4 : ¬ ((x.toNat : Int) = 39) := fun e => h4 (UInt8.toNat_inj.1 (by have : (39 : UInt8).toNat = 39 := rfl; omega))
  unfold nextF
  rw [hb, if_neg (by simp [h1]), if_neg (by simp [h2]), if_neg n3, if_neg n4, hj]
end Go.Proofs.Lx6
namespace Go.Proofs.Lx6
def oneM : List UInt8 := [33, 63, 60, 62, 61, 43, 45, 42, 37, 38, 94, 124, 126, 40, 41, 91, 93, 123, 125, 44, 59, 58, 46, 64, 35]
def twoM : List (UInt8 × UInt8) := [(33, 33), (63, 63), (45, 62), (58, 58), (43, 43), (45, 45), (60, 60), (62, 62), (60, 61), (62, 61), (61, 61), (33, 61), (38, 38), (124, 124), (46, 46)]
def markOf (x y : UInt8) : Option (List UInt8) := (srch (fun j => (marksL.getD j []).isPrefixOf [x, y]) 0 41).map fun j => marksL.getD j []
theorem mark_tab : ∀ x ∈ oneM, ∀ y : Fin 256, markOf x (UInt8.ofNat y.val) = some (if twoM.contains (x, UInt8.ofNat y.val) then [x, UInt8.ofNat y.val] else [x]) := by decide +kernel
theorem mark_of {x : UInt8} (hx : x ∈ oneM) (y : UInt8) : markOf x y = some (if twoM.contains (x, y) then [x, y] else [x]) := by
  have h := mark_tab x hx ⟨y.toNat, y.toNat_lt⟩
  simpa using h
end Go.Proofs.Lx6
namespace Go.Proofs.Lx6
open Go.ChangeShapes Go.WideShapes Go.ChangeAt Go.RowKit
set_option maxHeartbeats 2000000 in
set_option maxRecDepth 100000 in
theorem piece_any (s : ByteArray) (w : World) (hs : s.size ≤ 2000) :
    Calls Tryz.prog 215 #[.string s] w fun e w' => e = .returned (.tuple #[.string s, .int .i64 s.size]) ∧ w' = w := by
  go_enter Tryz.func215, Tryz.ntmps215
  go_wp2_with fail
  go_loopw [4, 5] (fun q i wr => ∃ (b : Bool) (n : Nat), q = .bool b ∧ i = .int .i64 n ∧ n ≤ s.size + 1 ∧ wr = w) (fun q i wr => s.size + 2 - (intOf i).toNat)
  case atStart => exact ⟨false, 0, rfl, rfl, by omega, rfl⟩
  case round =>
    obtain ⟨b, n, rfl, rfl, hn, rfl⟩ := hrel
    by_cases hlt : n < s.size
    · have n2000 : decide (2000 < (n : Int)) = false := decide_eq_false (by omega)
      cases h92 : ((s[n].toNat : Int) == 92) <;> cases h34 : ((s[n].toNat : Int) == 34) <;> cases h32 : ((s[n].toNat : Int) == 32) <;> cases b
      all_goals go_wp2_with fail
      all_goals go_roundw
      all_goals first
        | exact ⟨_, n + 1, rfl, congrArg _ (by omega), by omega, trivial⟩
        | exact ⟨_, n + 2, rfl, congrArg _ (by omega), by omega, trivial⟩
        | (simp only [intOf]; omega)
    · go_wp2_with fail
      go_ret2
      exact ⟨rfl, rfl⟩
end Go.Proofs.Lx6
