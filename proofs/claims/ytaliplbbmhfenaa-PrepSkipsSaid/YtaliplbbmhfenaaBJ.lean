/-
  PrepSkips' walk: the call returns true, and nothing that was there has turned.
-/
import Derived.Test.YtaliplbbmhfenaaBI
namespace Go.Proofs.Ytaliplbbmhfenaa
open Go.MapKept Go.ChangeShapes Go.WideShapes Go.ChangeAt Go.RowKit Go.Deep Go.Joins Go.Instr
def ifT : TkD := ⟨1, 0, 1, ⟨#[105, 102]⟩, 0⟩
def zrT : TkD := ⟨2, 0, 1, ⟨#[48]⟩, 0⟩
def h3T : TkD := ⟨4, 0, 3, ⟨#[35]⟩, 0⟩
def elT : TkD := ⟨1, 0, 3, ⟨#[101, 108, 115, 101]⟩, 0⟩
def h5T : TkD := ⟨4, 0, 5, ⟨#[35]⟩, 0⟩
def eiT : TkD := ⟨1, 0, 5, ⟨#[101, 110, 100, 105, 102]⟩, 0⟩
theorem own_if (w : World) (base : Nat) (hb : base ≤ w.heap.size) : (w.alloc (.cells #[.int .i64 4, .int .i64 0, .int .i64 1, .string ⟨#[35]⟩, .int .i64 0, .int .i64 1, .int .i64 0, .int .i64 1, .string ⟨#[105, 102]⟩, .int .i64 0, .int .i64 2, .int .i64 0, .int .i64 1, .string ⟨#[48]⟩, .int .i64 0] 25)).ownsRow base 25 5 (.slice (some ⟨w.heap.size, 0, none⟩) 3 3) 3 (fl [hdT, ifT, zrT]) :=
  World.ownsRow_lit w _ 3 hb (by decide) rfl
theorem sl_two (w : World) (n : Nat) (hn : n = w.heap.size) (L : Int) (tx : ByteArray) :
    Sl (w.alloc (.cells #[.int .i64 4, .int .i64 0, .int .i64 L, .string ⟨#[35]⟩, .int .i64 0, .int .i64 1, .int .i64 0, .int .i64 L, .string tx, .int .i64 0] 25)) 5 TkD.enc (.slice (some ⟨n, 0, none⟩) 2 2) [⟨4, 0, L, ⟨#[35]⟩, 0⟩, ⟨1, 0, L, tx, 0⟩] := by
  subst hn
  refine ⟨_, 2, rfl, Nat.le_refl _, by decide, fun _ => ⟨w.heap.size, 0, rfl, by simp, fun i hi j hj => ?_⟩⟩
  have hi2 : i < 2 := hi
  match i, hi2, j, hj with
  | 0, _, 0, _ => simp [go_sem, TkD.enc]
  | 0, _, 1, _ => simp [go_sem, TkD.enc]
  | 0, _, 2, _ => simp [go_sem, TkD.enc]
  | 0, _, 3, _ => simp [go_sem, TkD.enc]
  | 0, _, 4, _ => simp [go_sem, TkD.enc]
  | 1, _, 0, _ => simp [go_sem, TkD.enc]
  | 1, _, 1, _ => simp [go_sem, TkD.enc]
  | 1, _, 2, _ => simp [go_sem, TkD.enc]
  | 1, _, 3, _ => simp [go_sem, TkD.enc]
  | 1, _, 4, _ => simp [go_sem, TkD.enc]
  | _, _, _ + 5, hj => exact absurd hj (by omega)
  | _ + 2, h, _, _ => exact absurd h (by omega)
theorem right_app (T : List TkD) (e : TkD) (h : ∀ t ∈ T, ¬ t.kind = 0) (he : e.kind = 0) : rightF (T ++ [e]) = true := by
  unfold rightF
  refine decide_eq_true ⟨by simp, fun i hi => ?_⟩
  simp only [List.length_append, List.length_cons, List.length_nil] at hi ⊢
  by_cases hq : i < T.length
  · have e1 : (T ++ [e]).getD i default = T[i] := by simp [List.getD_eq_getElem?_getD, List.getElem?_append, hq]
    rw [e1]
    exact ⟨fun h1 => absurd h1 (h _ (List.getElem_mem hq)), fun h1 => by omega⟩
  · obtain rfl : i = T.length := by omega
    have e1 : (T ++ [e]).getD T.length default = e := by simp [List.getD_eq_getElem?_getD]
    rw [e1]
    exact ⟨fun _ => by omega, fun _ => he⟩
theorem skips_mac (S l : List TkD) (v : Value) (w : World) (hl0 : 0 < l.length) (hl : l.length ≤ 2000) (hS2 : S.length ≤ 2000) (hr : rightF l = true) (hS : ∀ i, i < S.length → isF 4 (S.getD i default) ⟨#[35]⟩ = false ∧ ¬ (S.getD i default).kind = 0) (hL : ∀ i, i < l.length → isF 4 (l.getD i default) ⟨#[35]⟩ = false)
    (hs : Sl w 5 TkD.enc v (skT hdT ifT zrT h3T elT h5T eiT (S.map (lineT 2)) ((l.take (l.length - 1)).map (lineT 4)) ++ [lineT 4 (l.getD (l.length - 1) default)])) :
    Calls Try.prog 8 #[v] w (MacP (l.map (lineT 4)) w) := by
  unfold rightF at hr
  obtain ⟨-, hr1⟩ := of_decide_eq_true hr
  have hSm : ∀ t ∈ S.map (lineT 2), isF 4 t ⟨#[35]⟩ = false ∧ ¬ t.kind = 0 ∧ t.line = 2 := fun t ht => by
    obtain ⟨y, hy, rfl⟩ := List.mem_map.1 ht
    obtain ⟨i, hi, rfl⟩ := List.getElem_of_mem hy
    have := hS i hi
    rw [List.getD_eq_getElem?_getD, List.getElem?_eq_getElem hi] at this
    exact ⟨this.1, this.2, rfl⟩
  have hLm : ∀ t ∈ (l.take (l.length - 1)).map (lineT 4), isF 4 t ⟨#[35]⟩ = false ∧ ¬ t.kind = 0 ∧ t.line = 4 := fun t ht => by
    obtain ⟨y, hy, rfl⟩ := List.mem_map.1 ht
    obtain ⟨i, hi, rfl⟩ := List.getElem_of_mem hy
    simp at hi
    have h1 := hL i (by omega)
    have h2 := hr1 i (by omega)
    rw [List.getD_eq_getElem?_getD, List.getElem?_eq_getElem (by omega)] at h1 h2
    rw [List.getElem_take]
    exact ⟨h1, fun e => by have := h2.1 e; omega, rfl⟩
  have hlast : (lineT 4 (l.getD (l.length - 1) default)).kind = 0 := (hr1 (l.length - 1) (by omega)).2 (by omega)
  have hall : l.map (lineT 4) = (l.take (l.length - 1)).map (lineT 4) ++ [lineT 4 (l.getD (l.length - 1) default)] := by
    have := take_snoc l (l.length - 1) (by omega)
    rw [show l.length - 1 + 1 = l.length by omega, List.take_length] at this
    conv => lhs; rw [this]
    simp
  have hRl : ((l.take (l.length - 1)).map (lineT 4)).length ≤ 2000 := by simp; omega
  have hSl : (S.map (lineT 2)).length ≤ 2000 := by simpa using hS2
  rw [hall]
  generalize (l.take (l.length - 1)).map (lineT 4) = R at *
  generalize S.map (lineT 2) = Q at *
  generalize lineT 4 (l.getD (l.length - 1) default) = e at *
  have hTl := skT_len hdT ifT zrT h3T elT h5T eiT Q R
  have hkinds : ∀ t ∈ skT hdT ifT zrT h3T elT h5T eiT Q R, ¬ t.kind = 0 := fun t ht => by
    simp only [skT, List.mem_cons, List.mem_append, List.not_mem_nil, or_false] at ht
    rcases ht with rfl | rfl | rfl | h | rfl | rfl | h | rfl | rfl
    · decide
    · decide
    · decide
    · exact (hSm t h).2.1
    · decide
    · decide
    · exact (hLm t h).2.1
    · decide
    · decide
  have hright := right_app _ e hkinds hlast
  generalize hT : skT hdT ifT zrT h3T elT h5T eiT Q R = T at *
  have e1 : (T ++ [e]).length - 1 = T.length := by simp
  have e2 : (T ++ [e]).take T.length = T := by simp
  have e3 : (T ++ [e]).getD T.length default = e := by simp [List.getD_eq_getElem?_getD]
  have hm := macros_op (T ++ [e]) R v w hs hright (by simp; omega) (by omega) (fun W b c wb kb tk hsl hwk hmp => by
    rw [e1] at hsl ⊢
    rw [e2] at hsl
    subst hT
    exact mac1_skips hdT ifT zrT h3T elT h5T eiT Q R b 0 _ c tk W.heap.size wb kb W hsl (by omega) (by omega) rfl rfl rfl rfl rfl rfl rfl rfl rfl rfl rfl rfl rfl rfl (fun t ht => (hSm t ht).2.2) rfl rfl (fun t ht => (hLm t ht).2.2) rfl rfl (fun t ht => (hSm t ht).1) (fun t ht => (hLm t ht).1) (Nat.le_refl _) hwk hmp)
  rw [e1, e3] at hm
  exact hm
/-- All tokens, so many of them taken over. -/
def LLf (D0 l : List TkD) (k : Nat) : List TkD := if k = l.length then D0 ++ (l.take (k - 1)).map (lineT 4) ++ [h5T, eiT] ++ [lineT 4 (l.getD (k - 1) default)] else D0 ++ (l.take k).map (lineT 4)
theorem LLf_last (D0 l : List TkD) (k : Nat) (h : k + 1 = l.length) : LLf D0 l (k + 1) = LLf D0 l k ++ [h5T, eiT] ++ [lineT 4 (l.getD k default)] := by
  unfold LLf
  rw [if_pos h, if_neg (by omega)]
  rfl
theorem LLf_next (D0 l : List TkD) (k : Nat) (h : k + 1 < l.length) : LLf D0 l (k + 1) = LLf D0 l k ++ [lineT 4 (l.getD k default)] := by
  unfold LLf
  rw [if_neg (by omega), if_neg (by omega), map_take_snoc (lineT 4) l k (by omega), List.append_assoc]
theorem LLf_end (S l : List TkD) : LLf ([hdT, ifT, zrT] ++ S.map (lineT 2) ++ [h3T, elT]) l l.length = skT hdT ifT zrT h3T elT h5T eiT (S.map (lineT 2)) ((l.take (l.length - 1)).map (lineT 4)) ++ [lineT 4 (l.getD (l.length - 1) default)] := by
  unfold LLf skT
  rw [if_pos rfl]
  simp
set_option maxRecDepth 100000 in
set_option maxHeartbeats 16000000 in
theorem skips_walk (S l : List TkD) (vb v : Value) (w : World) (hsb : Sl w 5 TkD.enc vb S) (hs : Sl w 5 TkD.enc v l) :
    Calls Try.prog 4 #[vb, v] w fun e w' => e = .returned (.bool true) ∧ Below w.heap.size w w' := by
  have HSB := Lib.hid hsb; have HS := Lib.hid hs
  obtain ⟨ab, cb, rfl, mb, HAB⟩ := sl_open hsb
  obtain ⟨aa, ca, rfl, ma, HA⟩ := sl_open hs
  clear hs hsb
  obtain ⟨r, HR⟩ : ∃ r, Hid (rightF l = r) := ⟨_, rfl⟩
  go_enter Try.func4, Try.ntmps4
  go_wp2_with fail
  refine (awake_any w).mono ?_
  rintro e w0 ⟨rfl, hw0⟩
  have HB0 := Lib.hid hw0
  clear hw0
  go_wp2_with fail
  have hr := right_any _ l w0 (HS.out.keep HB0.out)
  rw [HR.out] at hr
  refine hr.mono ?_
  rintro e w1 ⟨rfl, hw1⟩
  clear hr
  have HB1 : Hid (Below w.heap.size w w1) := HB0.out.trans (hw1.mono HB0.out.size)
  clear hw1
  cases r with
  | false =>
    go_wp2
    go_ret
    exact ⟨rfl, HB1.out⟩
  | true =>
    by_cases hbig : (2000 : Int) < l.length
    · go_wp2
      go_ret
      exact ⟨rfl, HB1.out⟩
    by_cases hbig2 : (2000 : Int) < S.length
    · go_wp2
      go_ret
      exact ⟨rfl, HB1.out⟩
    have hl5 : l.length ≤ 2000 := by omega
    have hb15 : S.length ≤ 2000 := by omega
    have hsz1 := HB1.out.size
    have qb1 : decide ((2000 : Int) < l.length) = false := decide_eq_false hbig
    have qb2 : decide ((2000 : Int) < S.length) = false := decide_eq_false hbig2
    go_wp2_with fail
    clear qb1 qb2 hbig hbig2
    go_loopw [7, 8] (fun d i wr => ∃ k : Nat, k ≤ S.length ∧ i = .int .i64 k ∧ Hid (wr.ownsRow w.heap.size 25 5 d (3 + k) (fl ([hdT, ifT, zrT] ++ (S.take k).map (lineT 2)))) ∧ Hid (∀ i, i < k → isF 4 (S.getD i default) ⟨#[35]⟩ = false ∧ ¬ (S.getD i default).kind = 0) ∧ Hid (Below w.heap.size w wr)) (fun _ i _ => S.length - (intOf i).toNat)
    case atStart => exact ⟨0, Nat.zero_le _, rfl, own_if w1 _ hsz1, fun i h => absurd h (by omega), HB1.out.alloc hsz1 _⟩
    case round =>
      obtain ⟨k, hk, rfl, hown, hgood, hB⟩ := hrel
      by_cases hlt : k < S.length
      · obtain ⟨b, off, rfl, hb, hc⟩ := HAB.out (by omega)
        have cc := tk_cells (w := wr) (b := b) (off := off + k * 5) fun j hj => (hB.out.cell (p := ⟨b, off + k * 5 + j, none⟩) hb).trans (hc k hlt j hj)
        have HT := Lib.hid (map_take_snoc (lineT 2) S k hlt)
        have HX : Hid (isF 4 (S.getD k default) ⟨#[35]⟩ = false ∧ ¬ (S.getD k default).kind = 0 → ∀ i, i < k + 1 → isF 4 (S.getD i default) ⟨#[35]⟩ = false ∧ ¬ (S.getD i default).kind = 0) := by
          intro h1 i hi
          by_cases h : i < k
          · exact hgood.out i h
          · obtain rfl : i = k := by omega
            exact h1
        clear hc hgood
        generalize hDk : [hdT, ifT, zrT] ++ (S.take k).map (lineT 2) = D at *
        have HDk := Lib.hid hDk; clear hDk
        generalize S.getD k default = x at *
        obtain ⟨x0, x1, x2, x3, x4⟩ := x
        obtain ⟨c0, c1, c2, c3, c4⟩ := cc
        simp only at c0 c1 c2 c3 c4
        have hwr := hB.out.size
        have hbr : b < wr.heap.size := by omega
        obtain ⟨r1, HR1⟩ : ∃ r, Hid (isF 4 ⟨x0, x1, x2, x3, x4⟩ ⟨#[35]⟩ = r) := ⟨_, rfl⟩
        go_wp2_with fail
        refine (is_is ⟨x0, x1, x2, x3, x4⟩ _ _ _ HR1).mono ?_
        rintro e w3 ⟨rfl, hw3⟩
        have hs3 := hw3.size
        have HB3 : Hid (Below w.heap.size w w3) := hB.out.trans (hw3.mono hwr)
        have HO4 := Lib.hid (own_below hown.out hw3)
        have d0 := (hw3.cell (p := ⟨b, off + k * 5, none⟩) hbr).trans c0
        have d1 := (hw3.cell (p := ⟨b, off + k * 5 + 1, none⟩) hbr).trans c1
        have d2 := (hw3.cell (p := ⟨b, off + k * 5 + 2, none⟩) hbr).trans c2
        have d3 := (hw3.cell (p := ⟨b, off + k * 5 + 3, none⟩) hbr).trans c3
        have d4 := (hw3.cell (p := ⟨b, off + k * 5 + 4, none⟩) hbr).trans c4
        have hw4z : w.heap.size ≤ w3.heap.size := HB3.out.size
        clear hw3 c0 c1 c2 c3 c4
        cases r1 with
        | true =>
          go_wp2
          go_ret
          exact ⟨rfl, HB3.out⟩
        | false =>
          by_cases h0 : x0 = 0
          · subst h0
            go_wp2
            go_ret
            exact ⟨rfl, HB3.out⟩
          · have HY := Lib.hid (HX.out ⟨HR1.out, h0⟩)
            clear HX
            go_wp2_with (at_builtin; go_must (refine wpList_push rfl _ _ rfl w.heap.size _ (3 + k) _ rfl ((HO4.out.alloc _).alloc _) (w3.heap.size + 1) x0 x1 2 x3 x4 rfl (heap_new1 _ _ _) (by omega) (by simp <;> omega) ?c4))
            case c4 =>
              intro g cap w5 h1 h2 h3
              have HO5 : Hid (w5.ownsRow w.heap.size 25 5 (.slice (some ⟨g, 0, none⟩) (3 + k + 1) cap) (3 + (k + 1)) (fl ([hdT, ifT, zrT] ++ (S.take (k + 1)).map (lineT 2)))) := by rw [HT.out, ← List.append_assoc, HDk.out]; exact h1
              have HB5 : Hid (Below w.heap.size w w5) := ((HB3.out.alloc hw4z _).alloc (by simp <;> omega) _).grown h2 (by simp <;> omega) (fun g hg => (HO4.out.lt g hg).1)
              clear h1 h2 h3
              go_wp2
              go_roundw
              case rel => exact ⟨k + 1, by omega, by go_num, HO5, HY, HB5⟩
              case measure => simp [intOf]; omega
      · obtain rfl : k = S.length := by omega
        rw [List.take_length] at hown
        clear hlt hk
        have hBz := hB.out.size
        obtain ⟨wo, rfl⟩ : ∃ wo : World, wo = wr := ⟨_, rfl⟩
        generalize hD1 : [hdT, ifT, zrT] ++ S.map (lineT 2) = D1 at *
        have HD1 := Lib.hid hD1; clear hD1
        obtain ⟨n1, hn1, hn1l⟩ : ∃ n1, Hid (n1 = 3 + S.length) ∧ n1 ≤ 2003 := ⟨_, rfl, by omega⟩
        rw [← hn1.out] at hown
        go_wp2_with (at_builtin; go_must (refine wpList_app rfl _ _ rfl w.heap.size _ n1 D1 rfl (hown.out.alloc _) (.slice (some ⟨wo.heap.size, 0, none⟩) 2 2) [h3T, elT] rfl (sl_two wo _ rfl 3 ⟨#[101, 108, 115, 101]⟩) (sn_some _ _ _) (by simp; omega) (by simp <;> omega) ?c5))
        case c5 =>
        intro v6 w6 h1 h2 h3
        have HO6 : Hid (w6.ownsRow w.heap.size 25 5 v6 (n1 + 2) (fl (D1 ++ [h3T, elT]))) := h1
        have HB6 : Hid (Below w.heap.size w w6) := (hB.out.alloc hBz _).grown h2 (by simp <;> omega) (fun g hg => (hown.out.lt g hg).1)
        clear h1 h2 h3
        generalize hD0 : D1 ++ [h3T, elT] = D0 at *
        have HD0 := Lib.hid hD0; clear hD0
        have hright := HR.out
        unfold rightF at hright
        obtain ⟨hL0, hRk⟩ := of_decide_eq_true hright
        have HRK := Lib.hid hRk
        clear hright hRk
        obtain ⟨a6, c6, rfl⟩ := own_slice HO6.out
        go_wp2_with fail
        go_loopw [7, 11, 12] (fun d pl i wr => ∃ (k nd : Nat), k ≤ l.length ∧ i = .int .i64 k ∧ nd ≤ 2005 + 3 * k ∧ Hid (wr.ownsRow w.heap.size 25 5 d nd (fl (LLf D0 l k))) ∧ Hid (wr.ownsRow w.heap.size 25 5 pl k (fl ((l.take k).map (lineT 4)))) ∧ Hid (∀ g, pl.ownBlock = some g → d.ownBlock ≠ some g) ∧ Hid (∀ i, i < k → isF 4 (l.getD i default) ⟨#[35]⟩ = false) ∧ Hid (Below w.heap.size w wr)) (fun _ _ i _ => l.length - (intOf i).toNat)
        case atStart => exact ⟨0, n1 + 2, Nat.zero_le _, rfl, by omega, Lib.hid (show World.ownsRow w6 w.heap.size 25 5 _ (n1 + 2) (fl (LLf D0 l 0)) by unfold LLf; rw [if_neg (by omega)]; simp only [List.take_zero, List.map_nil, List.append_nil]; exact HO6.out), World.ownsRow_nil _ _ _ _, fun g hg => by simp [Value.ownBlock] at hg, fun i h => absurd h (by omega), HB6⟩
        case round =>
          obtain ⟨k, nd, hk, rfl, hnd, hod, hop, hdis, hno, hB2⟩ := hrel
          obtain ⟨ad, cd, rfl⟩ := own_slice hod.out
          obtain ⟨ap, cp, rfl⟩ := own_slice hop.out
          by_cases hlt : k < l.length
          · obtain ⟨b, off, rfl, hb, hc⟩ := HA.out (by omega)
            have cc := tk_cells (w := wr) (b := b) (off := off + k * 5) fun j hj => (hB2.out.cell (p := ⟨b, off + k * 5 + j, none⟩) hb).trans (hc k hlt j hj)
            have HT := Lib.hid (map_take_snoc (lineT 4) l k hlt)
            have HX : Hid (isF 4 (l.getD k default) ⟨#[35]⟩ = false → ∀ i, i < k + 1 → isF 4 (l.getD i default) ⟨#[35]⟩ = false) := by
              intro h1 i hi
              by_cases h : i < k
              · exact hno.out i h
              · obtain rfl : i = k := by omega
                exact h1
            have HKD := Lib.hid (HRK.out k hlt)
            have HLA : Hid (k + 1 = l.length → _) := LLf_last D0 l k
            have HLN : Hid (k + 1 < l.length → _) := LLf_next D0 l k
            clear hc hno
            generalize LLf D0 l k = D at *
            generalize (l.take k).map (lineT 4) = P at *
            generalize l.getD k default = x at *
            obtain ⟨x0, x1, x2, x3, x4⟩ := x
            obtain ⟨c0, c1, c2, c3, c4⟩ := cc
            simp only at c0 c1 c2 c3 c4
            have hwr := hB2.out.size
            have hbr : b < wr.heap.size := by omega
            obtain ⟨r1, HR1⟩ : ∃ r, Hid (isF 4 ⟨x0, x1, x2, x3, x4⟩ ⟨#[35]⟩ = r) := ⟨_, rfl⟩
            go_wp2_with fail
            refine (is_is ⟨x0, x1, x2, x3, x4⟩ _ _ _ HR1).mono ?_
            rintro e w3 ⟨rfl, hw3⟩
            have hs3 := hw3.size
            have HB3 : Hid (Below w.heap.size w w3) := hB2.out.trans (hw3.mono hwr)
            have HOD3 := Lib.hid (own_below hod.out hw3)
            have HOP3 := Lib.hid (own_below hop.out hw3)
            have d0 := (hw3.cell (p := ⟨b, off + k * 5, none⟩) hbr).trans c0
            have d1 := (hw3.cell (p := ⟨b, off + k * 5 + 1, none⟩) hbr).trans c1
            have d2 := (hw3.cell (p := ⟨b, off + k * 5 + 2, none⟩) hbr).trans c2
            have d3 := (hw3.cell (p := ⟨b, off + k * 5 + 3, none⟩) hbr).trans c3
            have d4 := (hw3.cell (p := ⟨b, off + k * 5 + 4, none⟩) hbr).trans c4
            have hw3z : w.heap.size ≤ w3.heap.size := HB3.out.size
            clear hw3 c0 c1 c2 c3 c4
            cases r1 with
            | true =>
              go_wp2
              go_ret
              exact ⟨rfl, HB3.out⟩
            | false =>
              have HY := Lib.hid (HX.out HR1.out)
              have HLT : Hid (∀ g, (Value.slice ad nd cd).ownBlock = some g → g < wr.heap.size) := fun g hg => (hod.out.lt g hg).2
              have HLTP : Hid (∀ g, (Value.slice ap k cp).ownBlock = some g → g < wr.heap.size) := fun g hg => (hop.out.lt g hg).2
              clear hod hop HX
              go_wp2_with (at_builtin; go_must (refine wpList_push rfl _ _ rfl w.heap.size _ k P rfl ((HOP3.out.alloc _).alloc _) (w3.heap.size + 1) x0 x1 4 x3 x4 rfl (heap_new1 _ _ _) (by omega) (by simp <;> omega) ?c4))
              case c4 =>
                intro g cap w5 h1 h2 h3
                have HP5 : Hid (w5.ownsRow w.heap.size 25 5 (.slice (some ⟨g, 0, none⟩) (k + 1) cap) (k + 1) (fl ((l.take (k + 1)).map (lineT 4)))) := by rw [HT.out]; exact h1
                have HB5 : Hid (Below w.heap.size w w5) := ((HB3.out.alloc hw3z _).alloc (by simp <;> omega) _).grown h2 (by simp <;> omega) (fun g hg => (HOP3.out.lt g hg).1)
                have hfar : ∀ q, w5.cell? ⟨w3.heap.size, q, none⟩ = ((w3.alloc (.cells #[.int .i64 x0, .int .i64 x1, .int .i64 4, .string x3, .int .i64 x4] 25))).cell? ⟨w3.heap.size, q, none⟩ := fun q => (h2.cell_far ⟨w3.heap.size, q, none⟩ (by simp <;> omega) (fun e => by have := HLTP.out _ e.symm; simp at this; omega)).trans (World.cell?_of_block (a := ⟨w3.heap.size, q, none⟩) (Below.heap_alloc _ _ _ (by simp)))
                have p0 : w5.cell? ⟨w3.heap.size, 0, none⟩ = some (.int .i64 x0) := (hfar 0).trans (by simp [go_sem])
                have p1 : w5.cell? ⟨w3.heap.size, 1, none⟩ = some (.int .i64 x1) := (hfar 1).trans (by simp [go_sem])
                have p2 : w5.cell? ⟨w3.heap.size, 2, none⟩ = some (.int .i64 4) := (hfar 2).trans (by simp [go_sem])
                have p3 : w5.cell? ⟨w3.heap.size, 3, none⟩ = some (.string x3) := (hfar 3).trans (by simp [go_sem])
                have p4 : w5.cell? ⟨w3.heap.size, 4, none⟩ = some (.int .i64 x4) := (hfar 4).trans (by simp [go_sem])
                have HOD5 : Hid (w5.ownsRow w.heap.size 25 5 (.slice ad nd cd) nd (fl D)) := ((HOD3.out.alloc _).alloc _).kept h2 (by
                  cases hu : (Value.slice ad nd cd).ownBlock with
                  | none => exact .inl rfl
                  | some g' => exact .inr (fun e => hdis.out g' e.symm hu))
                have HDG : Hid ((Value.slice ad nd cd).ownBlock ≠ some g) := fun e => by
                  rcases h3 with h3 | h3
                  · exact hdis.out g h3 e
                  · have := HLT.out g e
                    first | omega | (simp at h3; omega)
                have hgl := (HP5.out.lt g rfl).2
                have hsz5 : w3.heap.size + 1 < w5.heap.size := by have := h2.size; simp at this; omega
                have hw5z : w.heap.size ≤ w5.heap.size := HB5.out.size
                have HNG : Hid (∀ g', (Value.slice ad nd cd).ownBlock = some g' → g' < w3.heap.size) := fun g' hg' => by have := HLT.out g' hg'; omega
                clear h1 h2 h3 hfar d0 d1 d2 d3 d4
                by_cases hkl : k + 1 = l.length
                · obtain rfl : x0 = 0 := HKD.out.2 hkl
                  have hLL := HLA.out hkl
                  clear hkl
                  have HLL := Lib.hid hLL
                  clear hLL
                  go_wp2_with (at_builtin; go_must (refine wpList_app rfl _ _ rfl w.heap.size _ nd D rfl (HOD5.out.alloc _) (.slice (some ⟨w5.heap.size, 0, none⟩) 2 2) [h5T, eiT] rfl (sl_two w5 _ rfl 5 ⟨#[101, 110, 100, 105, 102]⟩) (sn_some _ _ _) (by simp; omega) (by simp <;> omega) ?c5))
                  case c5 =>
                  intro v7 w7 h1 h2 h3
                  have HO7 : Hid (w7.ownsRow w.heap.size 25 5 v7 (nd + 2) (fl (D ++ [h5T, eiT]))) := h1
                  have HB7 : Hid (Below w.heap.size w w7) := (HB5.out.alloc hw5z _).grown h2 (by simp <;> omega) (fun g hg => (HOD5.out.lt g hg).1)
                  have hfar : ∀ q, w7.cell? ⟨w3.heap.size, q, none⟩ = w5.cell? ⟨w3.heap.size, q, none⟩ := fun q => (h2.cell_far ⟨w3.heap.size, q, none⟩ (by simp <;> omega) (fun e => by have := HNG.out _ e.symm; simp at this)).trans (World.cell?_of_block (a := ⟨w3.heap.size, q, none⟩) (Below.heap_alloc _ _ _ (by show w3.heap.size < _; omega)))
                  have q0 := (hfar 0).trans p0
                  have q1 := (hfar 1).trans p1
                  have q2 := (hfar 2).trans p2
                  have q3 := (hfar 3).trans p3
                  have q4 := (hfar 4).trans p4
                  have HP7 : Hid (w7.ownsRow w.heap.size 25 5 (.slice (some ⟨g, 0, none⟩) (k + 1) cap) (k + 1) (fl ((l.take (k + 1)).map (lineT 4)))) := (HP5.out.alloc _).kept h2 (.inr (fun e => HDG.out (by rw [← e]; rfl)))
                  have HDG7 : Hid (v7.ownBlock ≠ some g) := fun e => by
                    rcases h3 g e with h | h
                    · exact HDG.out h
                    · first | omega | (simp at h; omega)
                  have hs7 : w5.heap.size ≤ w7.heap.size := by have := h2.size; simp at this; omega
                  have hw7z : w.heap.size ≤ w7.heap.size := HB7.out.size
                  have hgl7 : g < w7.heap.size := by omega
                  obtain ⟨a7, c7, rfl⟩ := own_slice HO7.out
                  clear h1 h2 h3 hfar p0 p1 p2 p3 p4
                  go_wp2_with (at_builtin; go_must (refine wpList_push rfl _ _ rfl w.heap.size _ (nd + 2) _ rfl (HO7.out.alloc _) w7.heap.size 0 x1 4 x3 x4 rfl (heap_new' _ _) (by omega) (by simp <;> omega) ?c6))
                  case c6 =>
                  intro g8 cap8 w8 h1 h2 h3
                  have HO8 : Hid (w8.ownsRow w.heap.size 25 5 (.slice (some ⟨g8, 0, none⟩) (nd + 2 + 1) cap8) (nd + 2 + 1) (fl (LLf D0 l (k + 1)))) := by rw [HLL.out, List.append_assoc]; exact h1
                  have HP8 : Hid (w8.ownsRow w.heap.size 25 5 (.slice (some ⟨g, 0, none⟩) (k + 1) cap) (k + 1) (fl ((l.take (k + 1)).map (lineT 4)))) := (HP7.out.alloc _).kept h2 (.inr (fun e => HDG7.out (by rw [← e]; rfl)))
                  have HD8 : Hid (∀ g', ((.slice (some ⟨g, 0, none⟩) (k + 1) cap) : Value).ownBlock = some g' → (Value.slice (some ⟨g8, 0, none⟩) (nd + 2 + 1) cap8).ownBlock ≠ some g') := fun g' hg' e => by
                    have e2 : g8 = g' := by simpa [Value.ownBlock] using e
                    have e3 : g = g' := by simpa [Value.ownBlock] using hg'
                    subst e2; subst e3
                    rcases h3 with h | h
                    · exact HDG7.out h
                    · first | omega | (simp at h; omega)
                  have HB8 : Hid (Below w.heap.size w w8) := (HB7.out.alloc hw7z _).grown h2 (by simp <;> omega) (fun g hg => (HO7.out.lt g hg).1)
                  clear h1 h2 h3
                  go_wp2
                  go_roundw
                  case rel => exact ⟨k + 1, nd + 2 + 1, by omega, by go_num, by omega, HO8, HP8, HD8, HY, HB8⟩
                  case measure => simp [intOf]; omega
                · have h00 : ¬ x0 = 0 := fun e => hkl (HKD.out.1 e)
                  have hLL := HLN.out (by omega)
                  have HLL := Lib.hid hLL
                  clear hLL
                  go_wp2_with (at_builtin; go_must (refine wpList_push rfl _ _ rfl w.heap.size _ nd D rfl (HOD5.out.alloc _) w5.heap.size x0 x1 4 x3 x4 rfl (heap_new' _ _) (by omega) (by simp <;> omega) ?c6))
                  case c6 =>
                  intro g8 cap8 w8 h1 h2 h3
                  have HO8 : Hid (w8.ownsRow w.heap.size 25 5 (.slice (some ⟨g8, 0, none⟩) (nd + 1) cap8) (nd + 1) (fl (LLf D0 l (k + 1)))) := by rw [HLL.out]; exact h1
                  have HP8 : Hid (w8.ownsRow w.heap.size 25 5 (.slice (some ⟨g, 0, none⟩) (k + 1) cap) (k + 1) (fl ((l.take (k + 1)).map (lineT 4)))) := (HP5.out.alloc _).kept h2 (.inr (fun e => HDG.out (by rw [← e]; rfl)))
                  have HD8 : Hid (∀ g', ((.slice (some ⟨g, 0, none⟩) (k + 1) cap) : Value).ownBlock = some g' → (Value.slice (some ⟨g8, 0, none⟩) (nd + 1) cap8).ownBlock ≠ some g') := fun g' hg' e => by
                    have e2 : g8 = g' := by simpa [Value.ownBlock] using e
                    have e3 : g = g' := by simpa [Value.ownBlock] using hg'
                    subst e2; subst e3
                    rcases h3 with h | h
                    · exact HDG.out h
                    · first | omega | (simp at h; omega)
                  have HB8 : Hid (Below w.heap.size w w8) := (HB5.out.alloc hw5z _).grown h2 (by simp <;> omega) (fun g hg => (HOD5.out.lt g hg).1)
                  clear h1 h2 h3
                  go_wp2
                  go_roundw
                  case rel => exact ⟨k + 1, nd + 1, by omega, by go_num, by omega, HO8, HP8, HD8, HY, HB8⟩
                  case measure => simp [intOf]; omega
          · obtain rfl : k = l.length := by omega
            rw [List.take_length] at hop
            have HSD : Hid (Sl wr 5 TkD.enc (.slice ad nd cd) (skT hdT ifT zrT h3T elT h5T eiT (S.map (lineT 2)) ((l.take (l.length - 1)).map (lineT 4)) ++ [lineT 4 (l.getD (l.length - 1) default)])) := by
              have h1 := sl_of_own hod.out
              rw [← HD0.out, ← HD1.out, LLf_end] at h1
              exact h1
            have HSP := Lib.hid (sl_of_own hop.out)
            have hwr := hB2.out.size
            have hrl : rightF (l.map (lineT 4)) = true := by
              unfold rightF
              refine decide_eq_true ⟨by simpa using hL0, fun i hi => ?_⟩
              simp only [List.length_map] at hi ⊢
              have e : (l.map (lineT 4)).getD i default = lineT 4 (l.getD i default) := by simp [List.getD_eq_getElem?_getD, hi]
              rw [e]
              exact HRK.out i hi
            have hm := skips_mac S l (.slice ad nd cd) wr hL0 hl5 hb15 HR.out hgood.out hno.out HSD.out
            have hml : (l.map (lineT 4)).length ≤ 8192 := by simp; omega
            have hno4 : ∀ t ∈ l.map (lineT 4), isF 4 t ⟨#[35]⟩ = false := fun t ht => by
              obtain ⟨y, hy, rfl⟩ := List.mem_map.1 ht
              obtain ⟨i, hi, rfl⟩ := List.getElem_of_mem hy
              have := hno.out i hi
              rw [List.getD_eq_getElem?_getD, List.getElem?_eq_getElem hi] at this
              exact this
            clear hod hop hno hgood hlt hk hnd hdis
            generalize l.map (lineT 4) = L4 at *
            have HMM := Lib.hid hm; have HRL := Lib.hid hrl; have HN4 := Lib.hid hno4
            clear hm hrl hno4
            go_wp2_with fail
            refine HMM.out.mono ?_
            rintro e w2 ⟨va, rfl, hsa, hba⟩
            have HSA := Lib.hid hsa
            have HB2 : Hid (Below w.heap.size w w2) := hB2.out.trans (hba.mono hwr)
            have HSP2 := Lib.hid (HSP.out.keep hba)
            clear hsa hba
            obtain ⟨a9, c9, hva, _⟩ := sl_open HSA.out
            subst hva
            have hw2z := HB2.out.size
            go_wp2_with fail
            refine (macros_plain L4 _ _ HSP2.out HRL.out hml HN4.out).mono ?_
            rintro e w3 ⟨vb, rfl, hsb, hbb⟩
            have HSB3 := Lib.hid hsb
            have HB3 : Hid (Below w.heap.size w w3) := HB2.out.trans (hbb.mono hw2z)
            have HSA3 := Lib.hid (HSA.out.keep hbb)
            clear hsb hbb
            obtain ⟨a8, c8, hvb, _⟩ := sl_open HSB3.out
            subst hvb
            go_wp2_with fail
            refine (same_true _ _ _ _ false _ HSA3.out HSB3.out rfl (fun i hi => ⟨rfl, rfl, rfl, fun _ => ⟨rfl, rfl⟩⟩)).mono ?_
            rintro e w4 ⟨rfl, hb4⟩
            have HB4 : Hid (Below w.heap.size w w4) := HB3.out.trans (hb4.mono HB3.out.size)
            clear hb4
            go_wp2
            go_ret
            exact ⟨rfl, HB4.out⟩
/-- The walk, as the row's proof asks for it. -/
theorem prepSkips.walk {H : Type} {enc : TypeId × Value → H} (W : World) (base : Nat) (v0 v1 : Value) {d0 d1 : DataW H} {p0 p1 : List MemPlace} (hv0 : Value.okWide Try.prog W .any base 22 v0) (h0 : DataW.Trod enc Try.prog W 0 (fun _ => true) true 22 v0 d0 p0) (hv1 : Value.okWide Try.prog W .any base 22 v1) (h1 : DataW.Trod enc Try.prog W 0 (fun _ => true) true 22 v1 d1 p1) :
    Calls Try.prog 4 #[v0, v1] W fun e w' => e = .returned (.bool true) ∧ Below W.heap.size W w' := by
  obtain ⟨b, hb, _, _⟩ := rows_of hv0 h0
  obtain ⟨l, hl, _, _⟩ := rows_of hv1 h1
  exact skips_walk b l v0 v1 W hb hl
end Go.Proofs.Ytaliplbbmhfenaa
