/-
  The closure of Macros on an if that is 0, an else and an endif.
-/
import Derived.Test.YtaliplbbmhfenaaBG
namespace Go.Proofs.Ytaliplbbmhfenaa
open Go.MapKept Go.ChangeShapes Go.WideShapes Go.ChangeAt Go.RowKit Go.Deep Go.Joins Go.Instr
/-- An if, what is skipped, its else, what is kept, its endif. -/
def skT (h1 d1 t1 h2 d2 h3 d3 : TkD) (S L : List TkD) : List TkD := h1 :: d1 :: t1 :: (S ++ h2 :: d2 :: (L ++ [h3, d3]))
section
variable (h1 d1 t1 h2 d2 h3 d3 : TkD) (S L : List TkD)
theorem skT_len : (skT h1 d1 t1 h2 d2 h3 d3 S L).length = 7 + S.length + L.length := by simp [skT]; omega
theorem skT_S (j : Nat) (h : j < S.length) : (skT h1 d1 t1 h2 d2 h3 d3 S L).getD (3 + j) default = S.getD j default := by
  simp [skT, List.getD_eq_getElem?_getD, show 3 + j = j + 1 + 1 + 1 by omega, List.getElem?_append, h]
theorem skT_h2 : (skT h1 d1 t1 h2 d2 h3 d3 S L).getD (3 + S.length) default = h2 := by
  simp [skT, List.getD_eq_getElem?_getD, show 3 + S.length = S.length + 1 + 1 + 1 by omega]
theorem skT_d2 : (skT h1 d1 t1 h2 d2 h3 d3 S L).getD (4 + S.length) default = d2 := by
  simp [skT, List.getD_eq_getElem?_getD, show 4 + S.length = S.length + 1 + 1 + 1 + 1 by omega]
theorem skT_L (j : Nat) (h : j < L.length) : (skT h1 d1 t1 h2 d2 h3 d3 S L).getD (5 + S.length + j) default = L.getD j default := by
  simp [skT, List.getD_eq_getElem?_getD, show 5 + S.length + j = S.length + j + 1 + 1 + 1 + 1 + 1 by omega, List.getElem?_append, show ¬ S.length + j + 1 + 1 < S.length by omega, show S.length + j + 1 + 1 - S.length = j + 1 + 1 by omega, h]
theorem skT_h3 : (skT h1 d1 t1 h2 d2 h3 d3 S L).getD (5 + S.length + L.length) default = h3 := by
  simp [skT, List.getD_eq_getElem?_getD, show 5 + S.length + L.length = S.length + L.length + 1 + 1 + 1 + 1 + 1 by omega, List.getElem?_append, show ¬ S.length + L.length + 1 + 1 < S.length by omega, show S.length + L.length + 1 + 1 - S.length = L.length + 1 + 1 by omega]
theorem skT_d3 : (skT h1 d1 t1 h2 d2 h3 d3 S L).getD (6 + S.length + L.length) default = d3 := by
  simp [skT, List.getD_eq_getElem?_getD, show 6 + S.length + L.length = S.length + L.length + 1 + 1 + 1 + 1 + 1 + 1 by omega, List.getElem?_append, show ¬ S.length + L.length + 1 + 1 + 1 < S.length by omega, show S.length + L.length + 1 + 1 + 1 - S.length = L.length + 1 + 1 + 1 by omega]
/-- The line of each. -/
theorem skT_line (e1 : h1.line = 1) (e2 : d1.line = 1) (e3 : t1.line = 1) (e4 : ∀ t ∈ S, t.line = 2) (e5 : h2.line = 3) (e6 : d2.line = 3) (e7 : ∀ t ∈ L, t.line = 4) (e8 : h3.line = 5) (e9 : d3.line = 5) (q : Nat) (hq : q < 7 + S.length + L.length) :
    ((skT h1 d1 t1 h2 d2 h3 d3 S L).getD q default).line = if q < 3 then 1 else if q < 3 + S.length then 2 else if q < 5 + S.length then 3 else if q < 5 + S.length + L.length then 4 else 5 := by
  by_cases a1 : q < 3
  · rw [if_pos a1]
    match q, a1 with
    | 0, _ => exact e1
    | 1, _ => exact e2
    | 2, _ => exact e3
  · rw [if_neg a1]
    by_cases a2 : q < 3 + S.length
    · rw [if_pos a2]
      obtain ⟨j, rfl⟩ : ∃ j, q = 3 + j := ⟨q - 3, by omega⟩
      have hj : j < S.length := by omega
      rw [skT_S _ _ _ _ _ _ _ _ _ j hj]
      exact e4 _ (by simp [List.getD_eq_getElem?_getD, hj])
    · rw [if_neg a2]
      by_cases a3 : q < 5 + S.length
      · rw [if_pos a3]
        rcases (show q = 3 + S.length ∨ q = 4 + S.length by omega) with rfl | rfl
        · rw [skT_h2]; exact e5
        · rw [skT_d2]; exact e6
      · rw [if_neg a3]
        by_cases a4 : q < 5 + S.length + L.length
        · rw [if_pos a4]
          obtain ⟨j, rfl⟩ : ∃ j, q = 5 + S.length + j := ⟨q - (5 + S.length), by omega⟩
          have hj : j < L.length := by omega
          rw [skT_L _ _ _ _ _ _ _ _ _ j hj]
          exact e7 _ (by simp [List.getD_eq_getElem?_getD, hj])
        · rw [if_neg a4]
          rcases (show q = 5 + S.length + L.length ∨ q = 6 + S.length + L.length by omega) with rfl | rfl
          · rw [skT_h3]; exact e8
          · rw [skT_d3]; exact e9
theorem one_of (T : List TkD) (m : Nat) (h : m < T.length) : (T.take (m + 1)).drop m = [T.getD m default] := by
  rw [take_snoc T m h, List.drop_append_of_le_length (by simp; omega)]
  simp
end
theorem openc_own {w : World} {base ob cap : Nat} {a b c d : Bool} (h : OpenC w base ob cap a b c d) : base ≤ ob ∧ ob < w.heap.size := h.lt ob rfl
theorem openc_cap {w : World} {base ob cap : Nat} {a b c d : Bool} (h : OpenC w base ob cap a b c d) : 1 ≤ cap := by
  obtain ⟨-, h | ⟨g, c', cur, e, -, -, h, -⟩⟩ := h
  · simp at h
  · injection e with _ _ e3
    omega
/-- Where the closure stands. -/
def SkS (w : World) (S L : List TkD) : ScP := fun i kp op W o told row =>
  (i = 0 ∧ kp = true ∧ op = .slice none 0 0 ∧ told = [] ∧ row = []) ∨
  (∃ j ob cap, j ≤ S.length ∧ i = 3 + j ∧ kp = false ∧ op = .slice (some ⟨ob, 0, none⟩) 1 cap ∧ told = [] ∧ row = [] ∧ OpenC W w.heap.size ob cap false false false true ∧ o.ownBlock ≠ some ob) ∨
  (∃ j ob cap, j ≤ L.length ∧ i = 5 + S.length + j ∧ kp = true ∧ op = .slice (some ⟨ob, 0, none⟩) 1 cap ∧ told = [] ∧ row = L.take j ∧ OpenC W w.heap.size ob cap false true true true ∧ o.ownBlock ≠ some ob) ∨
  (i = 7 + S.length + L.length ∧ told = L ∧ row = [] ∧ ∃ a c, op = .slice a 0 c)
theorem sk_keep {w : World} {S L : List TkD} {wb kb : Nat} (i : Nat) (kp : Bool) (op : Value) (W : World) (o : Value) (told row : List TkD) (h : SkS w S L i kp op W o told row) (hi : i < 7 + S.length + L.length) (hw : Wk W wb false kb op 0 o) (w' : World) (hb : Below W.heap.size W w') :
    Calls Try.prog 15 #[.pointer (some ⟨wb, 0, none⟩)] w' fun e w'' => e = .returned (.bool kp) ∧ Below w'.heap.size w' w'' := by
  have hw' := hw.keep (hb.block wb hw.lt)
  rcases h with ⟨rfl, rfl, rfl, -, -⟩ | ⟨j, ob, cap, hj, rfl, rfl, rfl, -, -, ho, -⟩ | ⟨j, ob, cap, hj, rfl, rfl, rfl, -, -, ho, -⟩ | ⟨rfl, -⟩
  · exact kept0 wb kb false 0 o w' hw'
  · exact kept1 wb kb ob cap false 0 o false w' hw' ((own_below ho hb).cellAt 2 (by omega))
  · exact kept1 wb kb ob cap false 0 o true w' hw' ((own_below ho hb).cellAt 2 (by omega))
  · omega
theorem sk_plain {w : World} (h1 d1 t1 h2 d2 h3 d3 : TkD) (S L : List TkD) (m1 : isF 4 h1 ⟨#[35]⟩ = true) (m2 : isF 4 h2 ⟨#[35]⟩ = true) (m3 : isF 4 h3 ⟨#[35]⟩ = true)
    (i : Nat) (kp : Bool) (op : Value) (W : World) (o : Value) (told row : List TkD) (h : SkS w S L i kp op W o told row) (hi : i < 7 + S.length + L.length) (hm : isF 4 ((skT h1 d1 t1 h2 d2 h3 d3 S L).getD i default) ⟨#[35]⟩ = false) :
    SkS w S L (i + 1) kp op W o told (if kp then row ++ [(skT h1 d1 t1 h2 d2 h3 d3 S L).getD i default] else row) := by
  rcases h with ⟨rfl, rfl, rfl, rfl, rfl⟩ | ⟨j, ob, cap, hj, rfl, rfl, rfl, rfl, rfl, ho, hne⟩ | ⟨j, ob, cap, hj, rfl, rfl, rfl, rfl, rfl, ho, hne⟩ | ⟨rfl, -⟩
  · exact absurd (show isF 4 h1 ⟨#[35]⟩ = false from hm) (by rw [m1]; decide)
  · by_cases e : j = S.length
    · subst e
      rw [skT_h2, m2] at hm
      exact absurd hm (by decide)
    · exact .inr (.inl ⟨j + 1, ob, cap, by omega, by omega, rfl, rfl, rfl, by simp, ho, hne⟩)
  · by_cases e : j = L.length
    · subst e
      rw [skT_h3, m3] at hm
      exact absurd hm (by decide)
    · rw [skT_L _ _ _ _ _ _ _ _ _ j (by omega)]
      exact .inr (.inr (.inl ⟨j + 1, ob, cap, by omega, by omega, rfl, rfl, rfl, by rw [take_snoc L j (by omega)]; simp, ho, hne⟩))
  · omega
set_option maxHeartbeats 4000000 in
theorem mac1_skips (h1 d1 t1 h2 d2 h3 d3 : TkD) (S L : List TkD) (b off n c : Nat) (tk : TkD) (base wb kb : Nat) (w : World)
    (hs : Sl w 5 TkD.enc (.slice (some ⟨b, off, none⟩) n c) (skT h1 d1 t1 h2 d2 h3 d3 S L)) (hn : n = 7 + S.length + L.length) (hn2 : n ≤ 8192)
    (m1 : isF 4 h1 ⟨#[35]⟩ = true) (m2 : isF 4 h2 ⟨#[35]⟩ = true) (m3 : isF 4 h3 ⟨#[35]⟩ = true)
    (k1 : d1.kind = 1) (x1 : d1.text = ⟨#[105, 102]⟩) (k2 : t1.kind = 2) (x2 : t1.n = 0) (k3 : d2.kind = 1) (x3 : d2.text = ⟨#[101, 108, 115, 101]⟩) (k4 : d3.kind = 1) (x4 : d3.text = ⟨#[101, 110, 100, 105, 102]⟩)
    (e1 : h1.line = 1) (e2 : d1.line = 1) (e3 : t1.line = 1) (e4 : ∀ t ∈ S, t.line = 2) (e5 : h2.line = 3) (e6 : d2.line = 3) (e7 : ∀ t ∈ L, t.line = 4) (e8 : h3.line = 5) (e9 : d3.line = 5)
    (hS : ∀ t ∈ S, isF 4 t ⟨#[35]⟩ = false) (hL : ∀ t ∈ L, isF 4 t ⟨#[35]⟩ = false)
    (hbase : base ≤ w.heap.size) (hw : Wk w wb false kb (.slice none 0 0) 0 (.slice none 0 0)) (hm : w.heap[kb]? = some (.map #[] 0)) :
    Calls Try.prog 13 #[.pointer (some ⟨wb, 0, none⟩), .slice (some ⟨b, off, none⟩) n c, tk.val] w (ClQ w base wb kb L) := by
  have hwb := hw.lt
  have hkb : kb < w.heap.size := (Array.getElem?_eq_some_iff.1 hm).1
  have hline := skT_line h1 d1 t1 h2 d2 h3 d3 S L e1 e2 e3 e4 e5 e6 e7 e8 e9
  have hTl := skT_len h1 d1 t1 h2 d2 h3 d3 S L
  refine mac1_gen _ L b off n c tk base wb kb 0 w (SkS w S L) hs (by omega) hn2 hbase hw hm ?_ ?_ ?_ ?_ ?_
  · exact fun w' _ => .inl ⟨rfl, rfl, rfl, rfl, rfl⟩
  · exact fun i kp op W o told row h hi hW w' hb => sk_keep i kp op W o told row h (by omega) hW w' hb
  · exact fun i kp op W o told row h hi hmk => sk_plain h1 d1 t1 h2 d2 h3 d3 S L m1 m2 m3 i kp op W o told row h (by omega) hmk
  · intro i kp op W o told row h hi hmk
    rcases h with ⟨rfl, rfl, rfl, rfl, rfl⟩ | ⟨j, ob, cap, hj, rfl, rfl, rfl, rfl, rfl, ho, hne⟩ | ⟨j, ob, cap, hj, rfl, rfl, rfl, rfl, rfl, ho, hne⟩ | ⟨rfl, -⟩
    · refine ⟨fun h => absurd h (by omega), 3, by omega, by omega, fun q q1 q2 => ?_, fun q => ?_, ?_⟩
      · rw [hline q (by omega), hline 0 (by omega), if_pos (show q < 3 by omega), if_pos (show 0 < 3 by omega)]
      · rw [hline 3 (by omega), hline 0 (by omega), if_neg (show ¬ 3 < 3 by omega), if_pos (show 0 < 3 by omega)]
        split
        · decide
        · rw [if_pos (by omega)]; decide
      · intro w5 o5 at_ hw5 ho5 hf5 hu5 hs5 hm5 hsl5
        refine (dir_if d1 t1 wb kb b (off + (0 + 1) * 5) _ 0 false 0 at_ o5 #[] (fun _ => none) w5 hsl5 k1 x1 k2 rfl hw5 hm5 (fun _ => ⟨none, rfl, rfl⟩) false (by rw [x2]; decide)).mono ?_
        rintro e w6 ⟨rfl, ob, cap, h6, hop, hu6⟩
        have hob := openc_own hop
        refine ⟨rfl, false, _, h6, hu6.mono fun x hx => .inl (.inl hx), .inr (.inl ⟨0, ob, cap, by omega, rfl, rfl, rfl, rfl, rfl, own_base hop hs5, fun e => ?_⟩)⟩
        have := own_lt ho5 ob e
        omega
    · obtain rfl : j = S.length := by
        by_cases e : j = S.length
        · exact e
        · rw [skT_S _ _ _ _ _ _ _ _ _ j (by omega), hS _ (by simp [List.getD_eq_getElem?_getD, show j < S.length by omega])] at hmk
          exact absurd hmk (by decide)
      have hob := openc_own ho
      refine ⟨fun _ => ?_, 5 + S.length, by omega, by omega, fun q q1 q2 => ?_, fun q => ?_, ?_⟩
      · rw [hline (3 + S.length - 1) (by omega), hline (3 + S.length) (by omega), if_neg (show ¬ 3 + S.length < 3 by omega), if_neg (show ¬ 3 + S.length < 3 + S.length by omega), if_pos (show 3 + S.length < 5 + S.length by omega)]
        split
        · decide
        · rw [if_pos (by omega)]; decide
      · rw [hline q (by omega), hline (3 + S.length) (by omega)]
        rw [if_neg (show ¬ q < 3 by omega), if_neg (show ¬ q < 3 + S.length by omega), if_pos (show q < 5 + S.length by omega), if_neg (show ¬ 3 + S.length < 3 by omega), if_neg (show ¬ 3 + S.length < 3 + S.length by omega), if_pos (show 3 + S.length < 5 + S.length by omega)]
      · rw [hline (5 + S.length) (by omega), hline (3 + S.length) (by omega)]
        rw [if_neg (show ¬ 3 + S.length < 3 by omega), if_neg (show ¬ 3 + S.length < 3 + S.length by omega), if_pos (show 3 + S.length < 5 + S.length by omega), if_neg (show ¬ 5 + S.length < 3 by omega), if_neg (show ¬ 5 + S.length < 3 + S.length by omega), if_neg (show ¬ 5 + S.length < 5 + S.length by omega)]
        split <;> decide
      · intro w5 o5 at_ hw5 ho5 hf5 hu5 hs5 hm5 hsl5
        have hop5 : OpenC w5 w.heap.size ob cap false false false true := own_outs ho hu5 (fun g hg e => by
          obtain rfl : ob = g := by simpa [Value.ownBlock] using hg
          rcases e with e | e
          · omega
          · exact hne e)
        have hl5 : ((skT h1 d1 t1 h2 d2 h3 d3 S L).take (5 + S.length)).drop (3 + S.length + 1) = [d2] := by
          have := one_of (skT h1 d1 t1 h2 d2 h3 d3 S L) (4 + S.length) (by omega)
          rw [skT_d2] at this
          rw [show 5 + S.length = 4 + S.length + 1 by omega, show 3 + S.length + 1 = 4 + S.length by omega, this]
        rw [hl5] at hsl5
        rw [show 5 + S.length - (3 + S.length + 1) = 1 by omega] at hsl5 ⊢
        refine (dir_else d2 wb kb ob cap w.heap.size b (off + (3 + S.length + 1) * 5) 1 false false false true 0 at_ o5 w5 hsl5 k3 x3 rfl hw5 hop5 (by omega)).mono ?_
        rintro e w6 ⟨rfl, h6, hop, hu6⟩
        have hne5 : o5.ownBlock ≠ some ob := fun e => by
          rcases hf5 ob e with h | h
          · exact hne h
          · omega
        exact ⟨rfl, true, _, h6, hu6.mono fun x hx => .inl (.inr (by rw [hx]; exact ⟨by omega, hne5, hob.1⟩)), .inr (.inr (.inl ⟨0, ob, cap, by omega, by omega, rfl, rfl, rfl, rfl, hop, hne5⟩))⟩
    · obtain rfl : j = L.length := by
        by_cases e : j = L.length
        · exact e
        · rw [skT_L _ _ _ _ _ _ _ _ _ j (by omega), hL _ (by simp [List.getD_eq_getElem?_getD, show j < L.length by omega])] at hmk
          exact absurd hmk (by decide)
      have hob := openc_own ho
      refine ⟨fun _ => ?_, 7 + S.length + L.length, by omega, by omega, fun q q1 q2 => ?_, fun q => absurd q (by omega), ?_⟩
      · rw [hline (5 + S.length + L.length - 1) (by omega), hline (5 + S.length + L.length) (by omega), if_neg (show ¬ 5 + S.length + L.length < 3 by omega), if_neg (show ¬ 5 + S.length + L.length < 3 + S.length by omega), if_neg (show ¬ 5 + S.length + L.length < 5 + S.length by omega), if_neg (show ¬ 5 + S.length + L.length < 5 + S.length + L.length by omega), if_neg (show ¬ 5 + S.length + L.length - 1 < 3 by omega), if_neg (show ¬ 5 + S.length + L.length - 1 < 3 + S.length by omega)]
        split
        · decide
        · rw [if_pos (by omega)]; decide
      · rw [hline q (by omega), hline (5 + S.length + L.length) (by omega)]
        rw [if_neg (show ¬ q < 3 by omega), if_neg (show ¬ q < 3 + S.length by omega), if_neg (show ¬ q < 5 + S.length by omega), if_neg (show ¬ q < 5 + S.length + L.length by omega), if_neg (show ¬ 5 + S.length + L.length < 3 by omega), if_neg (show ¬ 5 + S.length + L.length < 3 + S.length by omega), if_neg (show ¬ 5 + S.length + L.length < 5 + S.length by omega), if_neg (show ¬ 5 + S.length + L.length < 5 + S.length + L.length by omega)]
      · intro w5 o5 at_ hw5 ho5 hf5 hu5 hs5 hm5 hsl5
        have hop5 : OpenC w5 w.heap.size ob cap false true true true := own_outs ho hu5 (fun g hg e => by
          obtain rfl : ob = g := by simpa [Value.ownBlock] using hg
          rcases e with e | e
          · omega
          · exact hne e)
        have hl5 : ((skT h1 d1 t1 h2 d2 h3 d3 S L).take (7 + S.length + L.length)).drop (5 + S.length + L.length + 1) = [d3] := by
          have := one_of (skT h1 d1 t1 h2 d2 h3 d3 S L) (6 + S.length + L.length) (by omega)
          rw [skT_d3] at this
          rw [show 7 + S.length + L.length = 6 + S.length + L.length + 1 by omega, show 5 + S.length + L.length + 1 = 6 + S.length + L.length by omega, this]
        rw [hl5] at hsl5
        rw [show 7 + S.length + L.length - (5 + S.length + L.length + 1) = 1 by omega] at hsl5 ⊢
        refine (dir_endif d3 wb kb ob cap w.heap.size b (off + (5 + S.length + L.length + 1) * 5) 1 false false true true true 0 at_ o5 w5 hsl5 k4 x4 rfl hw5 hop5 (openc_cap hop5)).mono ?_
        rintro e w6 ⟨rfl, h6, hu6⟩
        exact ⟨rfl, true, _, h6, hu6.mono fun x hx => .inl (.inl hx), .inr (.inr (.inr ⟨rfl, by simp, rfl, _, _, rfl⟩))⟩
    · omega
  · intro kp op W o told row h
    rcases h with ⟨h, -⟩ | ⟨j, ob, cap, hj, h, -⟩ | ⟨j, ob, cap, hj, h, -⟩ | ⟨-, rfl, rfl, a, c', rfl⟩
    · omega
    · omega
    · omega
    · exact ⟨by simp, a, c', rfl⟩
end Go.Proofs.Ytaliplbbmhfenaa
