/-
  Contracts of the reference's Next where a name, a number or a mark begins. Conditions: a place inside the source, which has at most 65535 bytes.
-/
import Derived.Test.YtaliplbbmhfenaaTA
namespace Go.Proofs.Ytaliplbbmhfenaa.Lx
open Go.ChangeShapes Go.WideShapes Go.ChangeAt Go.RowKit
/-- The byte at a place, as a number. -/
def bt (l : List UInt8) (k : Nat) : Int := ((l.getD k 0).toNat : Int)
theorem bt_eq (s : ByteArray) (k : Nat) (hk : k < s.size) : bt s.data.toList k = (s[k].toNat : Int) := by unfold bt; rw [getb s k hk]
def escF (c : Int) : Option Int := if c = 110 then some 10 else if c = 116 then some 9 else if c = 48 then some 0 else if c = 92 then some 92 else if c = 39 then some 39 else none
/-- The number in quotes at a place, and how many bytes it has. -/
def charF (l : List UInt8) (a : Nat) : Option (Int × Nat) :=
  if a + 2 < l.length ∧ bt l (a + 2) = 39 ∧ bt l (a + 1) ≠ 39 ∧ bt l (a + 1) ≠ 92 ∧ bt l (a + 1) ≠ 10 then some (bt l (a + 1), 3)
  else if a + 3 < l.length ∧ bt l (a + 1) = 92 ∧ bt l (a + 3) = 39 then (escF (bt l (a + 2))).map fun v => (v, 4)
  else none
/-- Where the text ends whose inner bytes begin at a place. -/
def txt (l : List UInt8) : Nat → Nat → Option Nat
  | 0, _ => none
  | f + 1, i => if l.length ≤ i then none else if bt l i = 34 then some (i + 1) else if bt l i = 10 then none
    else if bt l i = 92 then (if i + 1 < l.length ∧ bt l (i + 1) = 10 then none else txt l f (i + 2)) else txt l f (i + 1)
def txtF (l : List UInt8) (a : Nat) : Option Nat := txt l (l.length + 2) (a + 1)
def isW (l : List UInt8) (j : Nat) : Bool := letF (bt l j) || digF (bt l j)
def isD (l : List UInt8) (j : Nat) : Bool := digF (bt l j)
def runEnd (p : Nat → Bool) (l : List UInt8) (a : Nat) : Nat := (srch (fun j => !p j) a (l.length - a)).getD l.length
def sub (l : List UInt8) (a n : Nat) : List UInt8 := (l.drop a).take n
def tokV (k at_ line : Int) (text : List UInt8) (n : Int) : Value := .agg #[.int .i64 k, .int .i64 at_, .int .i64 line, .string ⟨text.toArray⟩, .int .i64 n]
theorem ext_ba (s : ByteArray) (a b : Nat) : s.extract a b = ⟨(sub s.data.toList a (b - a)).toArray⟩ := by
  have h := Lib.extract_data s a b
  generalize s.extract a b = x at h ⊢
  obtain ⟨⟨d⟩⟩ := x
  have h' : d = sub s.data.toList a (b - a) := h
  rw [h']
theorem byte_le (s : ByteArray) (k : Nat) (hk : k < s.size) : (s[k].toNat : Int) ≤ 255 := by have := s[k].toNat_lt; omega
theorem runEnd_bd (p : Nat → Bool) (l : List UInt8) (a : Nat) (h : a ≤ l.length) : a ≤ runEnd p l a ∧ runEnd p l a ≤ l.length := by
  unfold runEnd
  cases hs : srch (fun j => !p j) a (l.length - a) with
  | none => exact ⟨h, Nat.le_refl _⟩
  | some j => have := srch_bd hs; exact ⟨this.1, by simp; omega⟩
/-- The number that digits from a place on make. -/
def dval (l : List UInt8) : Nat → Nat → Int
  | _, 0 => 0
  | a, n + 1 => dval l a n * 10 + (bt l (a + n) - 48)
theorem dval_mono (l : List UInt8) (a : Nat) : ∀ n m, n ≤ m → (∀ j, a ≤ j → j < a + m → isD l j = true) → 0 ≤ dval l a n ∧ dval l a n ≤ dval l a m := by
  have nonneg : ∀ n, (∀ j, a ≤ j → j < a + n → isD l j = true) → 0 ≤ dval l a n := by
    intro n
    induction n with
    | zero => intro _; exact Int.le_refl _
    | succ n ih =>
      intro h
      have h1 := ih (fun j a b => h j a (by omega))
      have h2 := h (a + n) (by omega) (by omega)
      unfold isD digF at h2
      have h3 := of_decide_eq_true h2
      unfold dval
      omega
  intro n m hnm
  obtain ⟨d, rfl⟩ : ∃ d, m = n + d := ⟨m - n, by omega⟩
  induction d with
  | zero => intro h; exact ⟨nonneg n h, Int.le_refl _⟩
  | succ d ih =>
    intro h
    have h1 := ih (by omega) (fun j a b => h j a (by omega))
    have h0 := nonneg (n + d) (fun j a b => h j a (by omega))
    have h2 := h (a + (n + d)) (by omega) (by omega)
    unfold isD digF at h2
    have h3 := of_decide_eq_true h2
    refine ⟨h1.1, ?_⟩
    show _ ≤ dval l a (n + d) * 10 + (bt l (a + (n + d)) - 48)
    omega
theorem srch_ge {p : Nat → Bool} {i N : Nat} (h : i ≤ N) : i ≤ (srch p i (N - i)).getD N := by
  cases hs : srch p i (N - i) with
  | none => exact h
  | some j => exact (srch_bd hs).1
theorem srch_all {p : Nat → Bool} {i : Nat} : ∀ {n e : Nat}, (srch p i n).getD (i + n) = e → ∀ j, i ≤ j → j < e → p j = false := by
  intro n
  induction n generalizing i with
  | zero => intro e h j h1 h2; simp [srch] at h; omega
  | succ n ih =>
    intro e h j h1 h2
    unfold srch at h
    by_cases hp : p i = true
    · rw [if_pos hp] at h; simp at h; omega
    · rw [if_neg hp] at h
      by_cases hj : j = i
      · rw [hj]; simpa using hp
      · exact ih (e := e) (by rw [← h]; congr 1; omega) j (by omega) h2
theorem bcell {W w1 : World} (hb : Below W.heap.size W w1) : ∀ b o, b < W.heap.size → w1.cell? ⟨b, o, none⟩ = W.cell? ⟨b, o, none⟩ := fun b o h => hb.cell (p := ⟨b, o, none⟩) h
/-- The marks, the longer ones first. -/
def marksL : List (List UInt8) := [[33, 33], [63, 63], [45, 62], [58, 58], [43, 43], [45, 45], [60, 60], [62, 62], [60, 61], [62, 61], [61, 61], [33, 61], [38, 38], [124, 124], [46, 46], [33], [63], [60], [62], [61], [43], [45], [42], [47], [37], [38], [124], [94], [126], [40], [41], [91], [93], [123], [125], [44], [59], [58], [46], [64], [35]]
def markJ (l : List UInt8) (a : Nat) : Option Nat := srch (fun j => begF l a (marksL.getD j [])) 0 (41 - 0)
theorem marks_len : ∀ j, (marksL.getD j []).length ≤ 2 := by
  have h : ∀ j : Fin 41, (marksL.getD j.val []).length ≤ 2 := by decide +kernel
  intro j
  by_cases hj : j < 41
  · exact h ⟨j, hj⟩
  · rw [List.getD_eq_getElem?_getD, List.getElem?_eq_none (by show marksL.length ≤ j; rw [show marksL.length = 41 from by decide +kernel]; omega)]; simp
/-- What token begins at a place: what is wrong (0: nothing), its kind, its text, its number, how many bytes it takes. -/
structure TR where
  e : Int
  kind : Int
  text : List UInt8
  n : Int
  len : Nat
def TR.bad (e : Int) : TR := ⟨e, 0, [], 0, 0⟩
def nextF (l : List UInt8) (a : Nat) : TR :=
  if letF (bt l a) = true then (if 32 < runEnd (isW l) l a - a then .bad 5 else ⟨0, 1, sub l a (runEnd (isW l) l a - a), 0, runEnd (isW l) l a - a⟩)
  else if digF (bt l a) = true then (if 2147483647 < dval l a (runEnd (isD l) l a - a) then .bad 4 else ⟨0, 2, sub l a (runEnd (isD l) l a - a), dval l a (runEnd (isD l) l a - a), runEnd (isD l) l a - a⟩)
  else if bt l a = 34 then (match txtF l a with
    | none => .bad 3
    | some e => if 202 + a < e then .bad 5 else ⟨0, 3, sub l (a + 1) (e - a - 2), 0, e - a⟩)
  else if bt l a = 39 then (match charF l a with
    | none => .bad 3
    | some (v, n) => ⟨0, 2, sub l a n, v, n⟩)
  else match markJ l a with
    | none => .bad 2
    | some j => ⟨0, 4, marksL.getD j [], 0, (marksL.getD j []).length⟩
/-- What the reference's Next returns: the error, and the length where there is none. -/
def NextPost (r : TR) (a : Nat) (w : World) : Ending → World → Prop := fun e w' => (∃ (k p q n en : Int) (tx : ByteArray), e = .returned (.tuple #[.agg #[.int .i64 k, .int .i64 p, .int .i64 q, .string tx, .int .i64 n], .int .i64 en, .int .i64 r.e]) ∧ (r.e = 0 → en = r.len ∧ k = r.kind ∧ p = a ∧ q = 0 ∧ tx = ⟨r.text.toArray⟩ ∧ n = r.n)) ∧ Below w.heap.size w w'
theorem NextPost.bad {c : Int} {a : Nat} {w w' : World} (hc : c ≠ 0) (hB : Below w.heap.size w w') : NextPost (.bad c) a w (.returned (.tuple #[tokV 0 0 0 [] 0, .int .i64 0, .int .i64 c])) w' :=
  ⟨⟨0, 0, 0, 0, 0, ⟨#[]⟩, rfl, fun h => absurd h hc⟩, hB⟩
set_option maxHeartbeats 4000000 in
set_option maxRecDepth 20000 in
theorem rnext_name (s : ByteArray) (a : Nat) (w : World) (ha : a < s.size) (hs : s.size ≤ 65535) (hl : letF (s[a].toNat : Int) = true) (R : TR) (HR : Hid (nextF s.data.toList a = R)) :
    Calls Try.prog 33 #[.string s, .int .i64 a] w (NextPost R a w) := by
  have hby := byte_le s a ha
  have hlen : Hid (s.data.toList.length = s.size) := rfl
  have hbd := runEnd_bd (isW s.data.toList) s.data.toList a (by rw [hlen.out]; omega)
  have HE : Hid (runEnd (isW s.data.toList) s.data.toList a = (srch (fun j => !isW s.data.toList j) a (s.size - a)).getD s.size) := rfl
  rw [hlen.out] at hbd
  obtain ⟨hbd1, hbd2⟩ := hbd
  have HN : Hid (nextF s.data.toList a = if 32 < runEnd (isW s.data.toList) s.data.toList a - a then .bad 5 else ⟨0, 1, sub s.data.toList a (runEnd (isW s.data.toList) s.data.toList a - a), 0, runEnd (isW s.data.toList) s.data.toList a - a⟩) := by
    unfold Hid nextF
    rw [bt_eq s a ha, if_pos hl]
  have HL := Lib.hid hl; clear hl
  generalize runEnd (isW s.data.toList) s.data.toList a = E at *
  go_enter Try.func33, Try.ntmps33
  go_wp2_with fail
  refine (rletter_any _ _ (by omega) hby).mono ?_
  rintro e w1 ⟨rfl, rfl⟩
  rw [HL.out]
  go_wp2_with fail
  refine (rdigit_any _ _ (by omega) hby).mono ?_
  rintro e w1 ⟨rfl, rfl⟩
  generalize digF (s[a].toNat : Int) = dd
  go_wp2_with fail
  go_loop [8] (fun i => ∃ k : Nat, a + k ≤ s.size ∧ i = .int .i64 k ∧ E = (srch (fun j => !isW s.data.toList j) (a + k) (s.size - (a + k))).getD s.size) (fun i => s.size - (intOf i).toNat)
  case atStart => exact ⟨0, by omega, rfl, HE.out⟩
  case round =>
    obtain ⟨k, hk2, rfl, hE⟩ := hrel
    have HE2 := Lib.hid hE; clear hE
    by_cases hlt : a + k < s.size
    · have hlti : (a : Int) + k < s.size := by omega
      have hi2 : (a : Int) + k ≤ s.size := by omega
      have hi3 : (a : Int) ≤ (a : Int) + k := by omega
      have hbk := byte_le s (a + k) hlt
      cases h1 : letF (s[a + k].toNat : Int)
      · cases h2 : digF (s[a + k].toNat : Int)
        · have HE3 : Hid (E = a + k) := HE2.out.trans (by rw [srch_hit hlt (by unfold isW; rw [bt_eq s (a + k) hlt, h1, h2]; rfl)]; rfl)
          have H1 := Lib.hid h1; clear h1
          have H2 := Lib.hid h2; clear h2
          by_cases hbig : 32 < (k : Int)
          · go_wp2_with fail
            refine (rletter_any _ _ (by omega) hbk).mono ?_
            rintro e w1 ⟨rfl, rfl⟩
            rw [H1.out]
            go_wp2_with fail
            refine (rdigit_any _ _ (by omega) hbk).mono ?_
            rintro e w1 ⟨rfl, rfl⟩
            rw [H2.out]
            go_wp2_with fail
            refine bodyPost_ret (v := .tuple #[tokV 0 0 0 [] 0, .int .i64 0, .int .i64 5]) (by simp [results, Try.results33, go_sem, tokV]) rfl ?_
            rw [← HR.out, HN.out, HE3.out, if_pos (by omega)]
            exact NextPost.bad (by decide) (by go_grown)
          · go_wp2_with fail
            refine (rletter_any _ _ (by omega) hbk).mono ?_
            rintro e w1 ⟨rfl, rfl⟩
            rw [H1.out]
            go_wp2_with fail
            refine (rdigit_any _ _ (by omega) hbk).mono ?_
            rintro e w1 ⟨rfl, rfl⟩
            rw [H2.out]
            go_wp2_with fail
            refine bodyPost_ret (v := .tuple #[.agg #[.int .i64 1, .int .i64 a, .int .i64 0, .string (s.extract a (a + k)), .int .i64 0], .int .i64 k, .int .i64 0]) (by simp [results, Try.results33, go_sem]) rfl ?_
            rw [← HR.out, HN.out, HE3.out, if_neg (by omega)]
            refine ⟨⟨1, a, 0, 0, k, _, rfl, fun _ => ?_⟩, by go_grown⟩
            exact ⟨(by show ((k : Nat) : Int) = ((a + k - a : Nat) : Int); omega), rfl, rfl, rfl, ext_ba s a (a + k), rfl⟩
        · have HE3 : Hid (E = (srch (fun j => !isW s.data.toList j) (a + k + 1) (s.size - (a + k + 1))).getD s.size) := HE2.out.trans (by rw [srch_miss hlt (by unfold isW; rw [bt_eq s (a + k) hlt, h1, h2]; rfl)])
          have H1 := Lib.hid h1; clear h1
          have H2 := Lib.hid h2; clear h2
          go_wp2_with fail
          refine (rletter_any _ _ (by omega) hbk).mono ?_
          rintro e w1 ⟨rfl, rfl⟩
          rw [H1.out]
          go_wp2_with fail
          refine (rdigit_any _ _ (by omega) hbk).mono ?_
          rintro e w1 ⟨rfl, rfl⟩
          rw [H2.out]
          go_wp2_with fail
          go_round
          case rel => exact ⟨k + 1, by omega, by go_num, HE3.out⟩
          case measure => simp [intOf]; omega
      · have HE3 : Hid (E = (srch (fun j => !isW s.data.toList j) (a + k + 1) (s.size - (a + k + 1))).getD s.size) := HE2.out.trans (by rw [srch_miss hlt (by unfold isW; rw [bt_eq s (a + k) hlt, h1]; rfl)])
        have H1 := Lib.hid h1; clear h1
        go_wp2_with fail
        refine (rletter_any _ _ (by omega) hbk).mono ?_
        rintro e w1 ⟨rfl, rfl⟩
        rw [H1.out]
        go_wp2_with fail
        go_round
        case rel => exact ⟨k + 1, by omega, by go_num, HE3.out⟩
        case measure => simp [intOf]; omega
    · have HE3 : Hid (E = a + k) := HE2.out.trans (by rw [srch_end (by omega)]; show s.size = a + k; omega)
      have hi2 : (a : Int) + k ≤ s.size := by omega
      have hi3 : (a : Int) ≤ (a : Int) + k := by omega
      by_cases hbig : 32 < (k : Int)
      · go_wp2_with fail
        refine bodyPost_ret (v := .tuple #[tokV 0 0 0 [] 0, .int .i64 0, .int .i64 5]) (by simp [results, Try.results33, go_sem, tokV]) rfl ?_
        rw [← HR.out, HN.out, HE3.out, if_pos (by omega)]
        exact NextPost.bad (by decide) (by go_grown)
      · go_wp2_with fail
        refine bodyPost_ret (v := .tuple #[.agg #[.int .i64 1, .int .i64 a, .int .i64 0, .string (s.extract a (a + k)), .int .i64 0], .int .i64 k, .int .i64 0]) (by simp [results, Try.results33, go_sem]) rfl ?_
        rw [← HR.out, HN.out, HE3.out, if_neg (by omega)]
        refine ⟨⟨1, a, 0, 0, k, _, rfl, fun _ => ?_⟩, by go_grown⟩
        exact ⟨(by show ((k : Nat) : Int) = ((a + k - a : Nat) : Int); omega), rfl, rfl, rfl, ext_ba s a (a + k), rfl⟩
def capM (x : Int) : Int := if x < 1099511627776 then x else 1099511627776
set_option maxHeartbeats 4000000 in
set_option maxRecDepth 20000 in
theorem rnext_num (s : ByteArray) (a : Nat) (w : World) (ha : a < s.size) (hs : s.size ≤ 65535) (hl : letF (s[a].toNat : Int) = false) (hd : digF (s[a].toNat : Int) = true) (R : TR) (HR : Hid (nextF s.data.toList a = R)) :
    Calls Try.prog 33 #[.string s, .int .i64 a] w (NextPost R a w) := by
  have hby := byte_le s a ha
  have hlen : Hid (s.data.toList.length = s.size) := rfl
  have hbd := runEnd_bd (isD s.data.toList) s.data.toList a (by rw [hlen.out]; omega)
  have HE : Hid (runEnd (isD s.data.toList) s.data.toList a = (srch (fun j => !isD s.data.toList j) a (s.size - a)).getD s.size) := rfl
  have HM : Hid (∀ n, n ≤ runEnd (isD s.data.toList) s.data.toList a - a → 0 ≤ dval s.data.toList a n ∧ dval s.data.toList a n ≤ dval s.data.toList a (runEnd (isD s.data.toList) s.data.toList a - a)) := by
    refine fun n hn => dval_mono _ _ _ _ hn fun j h1 h2 => ?_
    have h3 := srch_all (p := fun j => !isD s.data.toList j) (i := a) (n := s.size - a) (e := runEnd (isD s.data.toList) s.data.toList a) (by rw [HE.out]; congr 1; omega) j h1 (by omega)
    simpa using h3
  have HN : Hid (nextF s.data.toList a = if 2147483647 < dval s.data.toList a (runEnd (isD s.data.toList) s.data.toList a - a) then .bad 4 else ⟨0, 2, sub s.data.toList a (runEnd (isD s.data.toList) s.data.toList a - a), dval s.data.toList a (runEnd (isD s.data.toList) s.data.toList a - a), runEnd (isD s.data.toList) s.data.toList a - a⟩) := by
    unfold Hid nextF
    rw [bt_eq s a ha, if_neg (by rw [hl]; decide), if_pos hd]
  have HL := Lib.hid hl; clear hl
  have HD := Lib.hid hd; clear hd
  rw [hlen.out] at hbd
  obtain ⟨hbd1, hbd2⟩ := hbd
  generalize runEnd (isD s.data.toList) s.data.toList a = E at *
  go_enter Try.func33, Try.ntmps33
  go_wp2_with fail
  refine (rletter_any _ _ (by omega) hby).mono ?_
  rintro e w1 ⟨rfl, rfl⟩
  rw [HL.out]
  go_wp2_with fail
  refine (rdigit_any _ _ (by omega) hby).mono ?_
  rintro e w1 ⟨rfl, rfl⟩
  rw [HD.out]
  go_wp2_with fail
  go_loop [8, 11] (fun i v => ∃ k : Nat, a + k ≤ s.size ∧ a + k ≤ E ∧ i = .int .i64 k ∧ v = .int .i64 (capM (dval s.data.toList a k)) ∧ E = (srch (fun j => !isD s.data.toList j) (a + k) (s.size - (a + k))).getD s.size) (fun i _ => s.size - (intOf i).toNat)
  case atStart => exact ⟨0, by omega, by omega, rfl, rfl, HE.out⟩
  case round =>
    obtain ⟨k, hk2, hkE, rfl, rfl, hE⟩ := hrel
    have HE2 := Lib.hid hE; clear hE
    have hv0 := (HM.out k (by omega)).1
    have hi2 : (a : Int) + k ≤ s.size := by omega
    have hi3 : (a : Int) ≤ (a : Int) + k := by omega
    have hV1 : 0 ≤ capM (dval s.data.toList a k) := by unfold capM; split <;> omega
    have hV2 : capM (dval s.data.toList a k) ≤ 1099511627776 := by unfold capM; split <;> omega
    have close : E = a + k → ∀ (w1 : World), Below w.heap.size w w1 → (2147483647 < capM (dval s.data.toList a k) → NextPost R a w (.returned (.tuple #[tokV 0 0 0 [] 0, .int .i64 0, .int .i64 4])) w1) ∧ (¬ 2147483647 < capM (dval s.data.toList a k) → NextPost R a w (.returned (.tuple #[.agg #[.int .i64 2, .int .i64 a, .int .i64 0, .string (s.extract a (a + k)), .int .i64 (capM (dval s.data.toList a k))], .int .i64 k, .int .i64 0])) w1) := by
      intro h w1 hB
      have hn : a + k - a = k := by omega
      constructor
      · intro hc
        rw [← HR.out, HN.out, h, hn, if_pos (by unfold capM at hc; split at hc <;> omega)]
        exact NextPost.bad (by decide) hB
      · intro hc
        rw [← HR.out, HN.out, h, hn, if_neg (by unfold capM at hc; split at hc <;> omega)]
        rw [ext_ba s a (a + k), hn]
        refine ⟨⟨2, a, 0, _, k, _, rfl, fun _ => ⟨rfl, rfl, rfl, rfl, rfl, ?_⟩⟩, hB⟩
        show capM _ = dval _ _ _
        unfold capM at hc ⊢
        split
        · rfl
        · rw [if_neg (by assumption)] at hc; omega
    have CL := Lib.hid close; clear close
    by_cases hlt : a + k < s.size
    · have hlti : (a : Int) + k < s.size := by omega
      have hbk := byte_le s (a + k) hlt
      cases h2 : digF (s[a + k].toNat : Int)
      · have HE3 : Hid (E = a + k) := HE2.out.trans (by rw [srch_hit hlt (by unfold isD; rw [bt_eq s (a + k) hlt, h2]; rfl)]; rfl)
        have H2 := Lib.hid h2; clear h2
        generalize capM (dval s.data.toList a k) = V at *
        by_cases hbig : 2147483647 < V
        · go_wp2_with fail
          refine (rdigit_any _ _ (by omega) hbk).mono ?_
          rintro e w1 ⟨rfl, rfl⟩
          rw [H2.out]
          go_wp2_with fail
          refine bodyPost_ret (v := .tuple #[tokV 0 0 0 [] 0, .int .i64 0, .int .i64 4]) (by simp [results, Try.results33, go_sem, tokV]) rfl ?_
          exact (CL.out HE3.out _ (by go_grown)).1 hbig
        · go_wp2_with fail
          refine (rdigit_any _ _ (by omega) hbk).mono ?_
          rintro e w1 ⟨rfl, rfl⟩
          rw [H2.out]
          go_wp2_with fail
          refine bodyPost_ret (v := .tuple #[.agg #[.int .i64 2, .int .i64 a, .int .i64 0, .string (s.extract a (a + k)), .int .i64 V], .int .i64 k, .int .i64 0]) (by simp [results, Try.results33, go_sem]) rfl ?_
          exact (CL.out HE3.out _ (by go_grown)).2 hbig
      · have h48 := of_decide_eq_true h2
        obtain ⟨h48a, h48b⟩ := h48
        have HE3 : Hid (E = (srch (fun j => !isD s.data.toList j) (a + k + 1) (s.size - (a + k + 1))).getD s.size) := HE2.out.trans (by rw [srch_miss hlt (by unfold isD; rw [bt_eq s (a + k) hlt, h2]; rfl)])
        have HV : Hid (dval s.data.toList a (k + 1) = dval s.data.toList a k * 10 + ((s[a + k].toNat : Int) - 48)) := by
          unfold Hid
          rw [dval, bt_eq s (a + k) hlt]
        have HC : Hid (capM (dval s.data.toList a (k + 1)) = min (10 * capM (dval s.data.toList a k) + ((s[a + k].toNat : Int) - 48)) 1099511627776) := by
          unfold Hid
          rw [HV.out]
          unfold capM
          split <;> split <;> omega
        have H2 := Lib.hid h2; clear h2
        generalize capM (dval s.data.toList a k) = V at *
        go_wp2_with fail
        refine (rdigit_any _ _ (by omega) hbk).mono ?_
        rintro e w1 ⟨rfl, rfl⟩
        rw [H2.out]
        go_wp2_with fail
        go_round
        case rel => exact ⟨k + 1, by omega, by rw [HE3.out]; exact srch_ge (by omega), by go_num, by rw [HC.out]; congr 1; split <;> omega, HE3.out⟩
        case measure => simp [intOf]; omega
    · have HE3 : Hid (E = a + k) := HE2.out.trans (by rw [srch_end (by omega)]; show s.size = a + k; omega)
      generalize capM (dval s.data.toList a k) = V at *
      by_cases hbig : 2147483647 < V
      · go_wp2_with fail
        refine bodyPost_ret (v := .tuple #[tokV 0 0 0 [] 0, .int .i64 0, .int .i64 4]) (by simp [results, Try.results33, go_sem, tokV]) rfl ?_
        exact (CL.out HE3.out _ (by go_grown)).1 hbig
      · go_wp2_with fail
        refine bodyPost_ret (v := .tuple #[.agg #[.int .i64 2, .int .i64 a, .int .i64 0, .string (s.extract a (a + k)), .int .i64 V], .int .i64 k, .int .i64 0]) (by simp [results, Try.results33, go_sem]) rfl ?_
        exact (CL.out HE3.out _ (by go_grown)).2 hbig
def marksA : Array Value := (marksL.map fun m => Value.string ⟨m.toArray⟩).toArray
def MarksPost (w : World) : Ending → World → Prop := fun e w' => ∃ kb : Nat, e = .returned (.slice (some ⟨kb, 0, none⟩) 41 41) ∧ w.heap.size = kb ∧ kb < w'.heap.size ∧ (∀ i, i < 41 → w'.cell? ⟨kb, i, none⟩ = some (.string ⟨(marksL.getD i []).toArray⟩)) ∧ Below w.heap.size w w'
theorem marks_cell (w : World) (i : Nat) (h : i < 41) : (w.alloc (.cells marksA 9)).cell? ⟨w.heap.size, i, none⟩ = some (.string ⟨(marksL.getD i []).toArray⟩) := by
  have hl : marksL.length = 41 := by decide +kernel
  rw [World.cell?_alloc_new]
  unfold marksA
  simp [hl, h]
set_option maxHeartbeats 4000000 in
set_option maxRecDepth 20000 in
theorem marks_any (w : World) : Calls Try.prog 46 #[] w (MarksPost w) := by
  go_enter Try.func46, Try.ntmps46
  go_wp2
  refine bodyPost_ret (v := .slice (some ⟨w.heap.size, 0, none⟩) 41 41) (by simp [results, Try.results46, go_sem]) rfl ⟨w.heap.size, rfl, rfl, by simp [go_sem], fun i h => marks_cell w i h, by go_grown⟩
set_option maxHeartbeats 4000000 in
set_option maxRecDepth 20000 in
theorem rnext_mark (s : ByteArray) (a : Nat) (w : World) (ha : a < s.size) (hs : s.size ≤ 65535) (hl : letF (s[a].toNat : Int) = false) (hd : digF (s[a].toNat : Int) = false) (h34 : ((s[a].toNat : Int) == 34) = false) (h39 : ((s[a].toNat : Int) == 39) = false) (R : TR) (HR : Hid (nextF s.data.toList a = R)) :
    Calls Try.prog 33 #[.string s, .int .i64 a] w (NextPost R a w) := by
  have hby := byte_le s a ha
  have hHN : nextF s.data.toList a = match markJ s.data.toList a with
    | none => .bad 2
    | some j => ⟨0, 4, marksL.getD j [], 0, (marksL.getD j []).length⟩ := by
    unfold nextF
    rw [bt_eq s a ha, hl, hd, if_neg (by decide), if_neg (by decide), if_neg (by simpa using h34), if_neg (by simpa using h39)]
    all_goals rfl
  rw [hHN] at HR
  clear hHN
  have HL := Lib.hid hl; clear hl
  have HD := Lib.hid hd; clear hd
  have HP : Hid (∀ (j : Nat) (w0 : World), Calls Try.prog 41 #[.string s, .int .i64 a, .string ⟨(marksL.getD j []).toArray⟩] w0 fun e w' => e = .returned (.bool (begF s.data.toList a (marksL.getD j []))) ∧ w0 = w') := by
    intro j w0
    have hj := marks_len j
    exact begins_any s a ⟨(marksL.getD j []).toArray⟩ w0 (by omega) hs (by show (marksL.getD j []).length ≤ 100; omega)
  obtain ⟨T, hT⟩ : ∃ T, markJ s.data.toList a = T := ⟨_, rfl⟩
  rw [hT] at HR
  have HT := Lib.hid hT; clear hT
  go_enter Try.func33, Try.ntmps33
  go_wp2_with fail
  refine (rletter_any _ _ (by omega) hby).mono ?_
  rintro e w1 ⟨rfl, rfl⟩
  rw [HL.out]
  go_wp2_with fail
  refine (rdigit_any _ _ (by omega) hby).mono ?_
  rintro e w1 ⟨rfl, rfl⟩
  rw [HD.out]
  go_wp2_with fail
  refine (marks_any _).mono ?_
  rintro e w1 ⟨kb, rfl, hkb0, hkb, hk, hB0⟩
  have HK := Lib.hid hk; clear hk
  have h0 : w.heap.size < (w.alloc (.cells #[.int .i64 0, .int .i64 0, .int .i64 0, .string ⟨#[]⟩, .int .i64 0] 25)).heap.size := by simp [go_sem]
  have hs1 : w.heap.size < w1.heap.size := by omega
  have hB1 : Below w.heap.size w w1 := ((Below.refl _ w).alloc (Nat.le_refl _) _).trans (hB0.mono (Nat.le_of_lt h0))
  have c0 : w1.cell? ⟨w.heap.size, 0, none⟩ = some (.int .i64 0) := (bcell hB0 _ _ h0).trans (by simp [go_sem])
  have c1 : w1.cell? ⟨w.heap.size, 1, none⟩ = some (.int .i64 0) := (bcell hB0 _ _ h0).trans (by simp [go_sem])
  have c2 : w1.cell? ⟨w.heap.size, 2, none⟩ = some (.int .i64 0) := (bcell hB0 _ _ h0).trans (by simp [go_sem])
  have c3 : w1.cell? ⟨w.heap.size, 3, none⟩ = some (.string ⟨#[]⟩) := (bcell hB0 _ _ h0).trans (by simp [go_sem])
  have c4 : w1.cell? ⟨w.heap.size, 4, none⟩ = some (.int .i64 0) := (bcell hB0 _ _ h0).trans (by simp [go_sem])
  have hf : ∀ j, w1.frozen? ⟨w.heap.size, j, none⟩ = false := fun j => (hB0.frozen (p := ⟨w.heap.size, j, none⟩) h0).trans (by simp [go_sem])
  have hkn : ¬ kb = w.heap.size := by omega
  have hkn2 : ¬ w.heap.size = kb := by omega
  clear hB0 hkb0 h0
  go_wp2_with fail
  go_loop [15] (fun i => ∃ k : Nat, k ≤ 41 ∧ i = .int .i64 k ∧ T = srch (fun j => begF s.data.toList a (marksL.getD j [])) k (41 - k)) (fun i => 41 - (intOf i).toNat)
  case atStart => exact ⟨0, by omega, rfl, HT.out.symm⟩
  case round =>
    obtain ⟨k, hk1, rfl, hT2⟩ := hrel
    have HT2 := Lib.hid hT2; clear hT2
    by_cases hlt : k < 41
    · have hc := HK.out k hlt
      have hml := marks_len k
      have HPk := Lib.hid (HP.out k)
      obtain ⟨M, hM⟩ : ∃ M, marksL.getD k [] = M := ⟨_, rfl⟩
      cases hb : begF s.data.toList a (marksL.getD k [])
      · have HT3 : Hid (T = srch (fun j => begF s.data.toList a (marksL.getD j [])) (k + 1) (41 - (k + 1))) := HT2.out.trans (srch_miss hlt hb)
        rw [hM] at hc HPk hml hb
        have HB := Lib.hid hb; clear hb
        have HMM := Lib.hid hM; clear hM
        go_wp2_with fail
        refine (HPk.out _).mono ?_
        rintro e w2 ⟨rfl, rfl⟩
        rw [HB.out]
        go_wp2_with fail
        go_round
        case rel => exact ⟨k + 1, by omega, by go_num, HT3.out⟩
        case measure => simp [intOf]; omega
      · have HT3 : Hid (T = some k) := HT2.out.trans (srch_hit hlt hb)
        rw [hM] at hc HPk hml hb
        have HB := Lib.hid hb; clear hb
        have HMM := Lib.hid hM; clear hM
        go_wp2_with fail
        refine (HPk.out _).mono ?_
        rintro e w2 ⟨rfl, rfl⟩
        rw [HB.out]
        go_wp2_with fail
        go_region
        go_wp2
        refine bodyPost_ret (v := .tuple #[.agg #[.int .i64 4, .int .i64 a, .int .i64 0, .string ⟨M.toArray⟩, .int .i64 0], .int .i64 M.length, .int .i64 0]) (by simp [results, Try.results33, go_sem, *]) rfl ?_
        rw [← HR.out, HT3.out]
        refine ⟨⟨4, a, 0, 0, M.length, _, rfl, fun _ => ?_⟩, by go_grown⟩
        rw [← HMM.out]
        exact ⟨rfl, rfl, rfl, rfl, rfl, rfl⟩
    · have hk41 : 41 ≤ k := by omega
      have HT3 : Hid (T = none) := HT2.out.trans (srch_end (by omega))
      go_wp2_with fail
      refine bodyPost_ret (v := .tuple #[tokV 0 0 0 [] 0, .int .i64 0, .int .i64 2]) (by simp [results, Try.results33, go_sem, tokV, *]) rfl ?_
      rw [← HR.out, HT3.out]
      exact NextPost.bad (by decide) (by go_grown)
end Go.Proofs.Ytaliplbbmhfenaa.Lx
