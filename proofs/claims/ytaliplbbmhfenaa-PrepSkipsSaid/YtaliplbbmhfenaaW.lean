/-
  PrepOnce's walk: the call returns true, and nothing that was there has turned.
-/
import Derived.Test.YtaliplbbmhfenaaV
import Derived.Test.YtaliplbbmhfenaaK
namespace Go.Proofs.Ytaliplbbmhfenaa
open Go.MapKept Go.ChangeShapes Go.WideShapes Go.ChangeAt Go.RowKit Go.Deep Go.Joins Go.Instr
def hdT : TkD := ⟨4, 0, 1, ⟨#[35]⟩, 0⟩
def dfT : TkD := ⟨1, 0, 1, ⟨#[100, 101, 102, 105, 110, 101]⟩, 0⟩
def zzT : TkD := ⟨1, 0, 1, ⟨#[122, 122]⟩, 0⟩
def zzB : ByteArray := ⟨#[122, 122]⟩
/-- What a body's token must be. -/
def GoodB (t : TkD) : Prop := isF 4 t ⟨#[35]⟩ = false ∧ isF 4 t ⟨#[40]⟩ = false ∧ ¬ t.kind = 0 ∧ usesB zzB t = false
theorem own_def (w : World) (base : Nat) (hb : base ≤ w.heap.size) : (w.alloc (.cells #[.int .i64 4, .int .i64 0, .int .i64 1, .string ⟨#[35]⟩, .int .i64 0, .int .i64 1, .int .i64 0, .int .i64 1, .string ⟨#[100, 101, 102, 105, 110, 101]⟩, .int .i64 0, .int .i64 1, .int .i64 0, .int .i64 1, .string ⟨#[122, 122]⟩, .int .i64 0] 25)).ownsRow base 25 5 (.slice (some ⟨w.heap.size, 0, none⟩) 3 3) 3 (fl [hdT, dfT, zzT]) :=
  World.ownsRow_lit w _ 3 hb (by decide) rfl
theorem heap_new1 (w : World) (a o : Obj) : ((w.alloc a).alloc o).heap[w.heap.size + 1]? = some o := by
  show ((w.heap.push _).push _)[w.heap.size + 1]? = _
  rw [Array.getElem?_push, if_pos (by simp)]
theorem right_def {body l : List TkD} (h : rightF l = true) (hb : ∀ i, i < body.length → GoodB (body.getD i default)) : rightF (hdT :: dfT :: zzT :: (body.map (lineT 1) ++ l.map (lineT 2))) = true := by
  unfold rightF at h ⊢
  obtain ⟨h0, h1⟩ := of_decide_eq_true h
  refine decide_eq_true ⟨by simp, fun i hi => ?_⟩
  simp only [List.length_cons, List.length_append, List.length_map] at hi ⊢
  match i with
  | 0 => exact ⟨fun h => by simp [hdT] at h, fun h => by omega⟩
  | 1 => exact ⟨fun h => by simp [dfT] at h, fun h => by omega⟩
  | 2 => exact ⟨fun h => by simp [zzT] at h, fun h => by omega⟩
  | q + 3 =>
    by_cases hq : q < body.length
    · have e : (hdT :: dfT :: zzT :: (body.map (lineT 1) ++ l.map (lineT 2))).getD (q + 3) default = lineT 1 (body.getD q default) := by
        simp [List.getD_eq_getElem?_getD, List.getElem?_append, hq]
      rw [e]
      have h3 := (hb q hq).2.2.1
      exact ⟨fun h => absurd h h3, fun h => by omega⟩
    · have e : (hdT :: dfT :: zzT :: (body.map (lineT 1) ++ l.map (lineT 2))).getD (q + 3) default = lineT 2 (l.getD (q - body.length) default) := by
        simp [List.getD_eq_getElem?_getD, List.getElem?_append, hq, show q - body.length < l.length by omega]
      rw [e]
      have h3 := h1 (q - body.length) (by omega)
      exact ⟨fun h => by have := h3.1 h; omega, fun h => h3.2 (by omega)⟩
theorem key_all (body l : List TkD) (h0 : 0 < l.length) (hlast : (l.getD (l.length - 1) default).kind = 0) :
    (exL zzB (body.map (lineT 1)) ((l.map (lineT 2)).take ((l.map (lineT 2)).length - 1)) ++ [(l.map (lineT 2)).getD ((l.map (lineT 2)).length - 1) default]).map keyT = (plL zzB body (l.map (lineT 2))).map keyT := by
  have hg : (l.map (lineT 2)).getD ((l.map (lineT 2)).length - 1) default = lineT 2 (l.getD (l.length - 1) default) := by
    rw [List.length_map]
    simp [List.getD_eq_getElem?_getD, show l.length - 1 < l.length by omega]
  have ht := take_snoc (l.map (lineT 2)) ((l.map (lineT 2)).length - 1) (by rw [List.length_map]; omega)
  have ht' : l.map (lineT 2) = (l.map (lineT 2)).take ((l.map (lineT 2)).length - 1) ++ [(l.map (lineT 2)).getD ((l.map (lineT 2)).length - 1) default] := by
    rw [← ht]
    exact (List.take_of_length_le (by omega)).symm
  have hu : plF zzB body ((l.map (lineT 2)).getD ((l.map (lineT 2)).length - 1) default) = [(l.map (lineT 2)).getD ((l.map (lineT 2)).length - 1) default] := by
    rw [hg]
    unfold plF
    rw [if_neg]
    intro h
    have := (of_decide_eq_true h).1
    have h2 : (lineT 2 (l.getD (l.length - 1) default)).kind = 0 := hlast
    omega
  conv => rhs; rw [ht', plL_app, plL_one, hu]
  rw [List.map_append, List.map_append, key_ex]
theorem once_mac (body l : List TkD) (v : Value) (w : World) (hL0 : 0 < l.length) (hl5 : l.length ≤ 500) (hb15 : body.length ≤ 15) (hs : Sl w 5 TkD.enc v (hdT :: dfT :: zzT :: (body.map (lineT 1) ++ l.map (lineT 2)))) (hr : rightF l = true) (hg : ∀ i, i < body.length → GoodB (body.getD i default)) (hno : ∀ i, i < l.length → isF 4 (l.getD i default) ⟨#[35]⟩ = false) :
    Calls Try.prog 8 #[v] w (MacP (exL zzB (body.map (lineT 1)) ((l.map (lineT 2)).take ((l.map (lineT 2)).length - 1)) ++ [(l.map (lineT 2)).getD ((l.map (lineT 2)).length - 1) default]) w) := by
  exact macros_once hdT dfT zzT zzB (body.map (lineT 1)) (l.map (lineT 2)) v w (by simpa using hL0) hs (right_def hr hg) (by simp [isF, hdT]) rfl rfl rfl rfl (by simp [zzB])
    (fun t ht => by obtain ⟨y, hy, rfl⟩ := List.mem_map.1 ht; obtain ⟨i, hi, rfl⟩ := List.getElem_of_mem hy; have := (hg i hi).2.1; rw [List.getD_eq_getElem?_getD, List.getElem?_eq_getElem hi] at this; exact this)
    (fun t ht h1 h2 => by
      obtain ⟨y, hy, rfl⟩ := List.mem_map.1 ht
      obtain ⟨i, hi, rfl⟩ := List.getElem_of_mem hy
      have h3 := (hg i hi).2.2.2
      rw [List.getD_eq_getElem?_getD, List.getElem?_eq_getElem hi] at h3
      have h4 : usesB zzB body[i] = true := decide_eq_true ⟨h1, h2⟩
      simp only [Option.getD_some] at h3
      rw [h3] at h4
      cases h4)
    rfl rfl (fun t ht => by obtain ⟨y, hy, rfl⟩ := List.mem_map.1 ht; rfl) (fun t ht => by obtain ⟨y, hy, rfl⟩ := List.mem_map.1 ht; simp [lineT, hdT])
    (fun t ht => by obtain ⟨y, hy, rfl⟩ := List.mem_map.1 ht; obtain ⟨i, hi, rfl⟩ := List.getElem_of_mem hy; have := hno i hi; rw [List.getD_eq_getElem?_getD, List.getElem?_eq_getElem hi] at this; exact this)
    (by have := (ex_len zzB [] ((l.map (lineT 2)).take ((l.map (lineT 2)).length - 1))).2; simp at this ⊢; omega)
    (by
      have h1 := (ex_len zzB (body.map (lineT 1)) ((l.map (lineT 2)).take ((l.map (lineT 2)).length - 1))).1
      have h2 : ((l.map (lineT 2)).take ((l.map (lineT 2)).length - 1)).length ≤ 500 := by simp; omega
      have h3 : (body.map (lineT 1)).length + 1 ≤ 16 := by simp; omega
      have h4 := Nat.mul_le_mul h2 h3
      omega)
    (by simp; omega) (by simp; omega)

theorem map_take_snoc (f : TkD → TkD) (l : List TkD) (k : Nat) (h : k < l.length) : (l.take (k + 1)).map f = (l.take k).map f ++ [f (l.getD k default)] := by
  rw [take_snoc l k h, List.map_append]; rfl
set_option maxRecDepth 100000 in
set_option maxHeartbeats 16000000 in
theorem once_walk (body l : List TkD) (vb v : Value) (w : World) (hsb : Sl w 5 TkD.enc vb body) (hnb : Sn vb) (hs : Sl w 5 TkD.enc v l) :
    Calls Try.prog 3 #[vb, v] w fun e w' => e = .returned (.bool true) ∧ Below w.heap.size w w' := by
  have HSB := Lib.hid hsb; have HNB := Lib.hid hnb; have HS := Lib.hid hs
  obtain ⟨ab, cb, rfl, mb, HAB⟩ := sl_open hsb
  obtain ⟨aa, ca, rfl, ma, HA⟩ := sl_open hs
  clear hs hsb hnb
  obtain ⟨r, HR⟩ : ∃ r, Hid (rightF l = r) := ⟨_, rfl⟩
  go_enter Try.func3, Try.ntmps3
  go_wp2_with fail
  have hr := right_any _ l w HS.out
  rw [HR.out] at hr
  refine hr.mono ?_
  rintro e w1 ⟨rfl, hw1⟩
  clear hr
  have HB1 := Lib.hid hw1
  clear hw1
  cases r with
  | false =>
    go_wp2
    go_ret
    exact ⟨rfl, HB1.out⟩
  | true =>
    by_cases hbig : (500 : Int) < l.length
    · go_wp2
      go_ret
      exact ⟨rfl, HB1.out⟩
    by_cases hbig2 : (15 : Int) < body.length
    · go_wp2
      go_ret
      exact ⟨rfl, HB1.out⟩
    have hl5 : l.length ≤ 500 := by omega
    have hb15 : body.length ≤ 15 := by omega
    have hsz1 := HB1.out.size
    have qb1 : decide ((500 : Int) < l.length) = false := decide_eq_false hbig
    have qb2 : decide ((15 : Int) < body.length) = false := decide_eq_false hbig2
    go_wp2_with fail
    clear qb1 qb2 hbig hbig2
    go_loopw [6, 7] (fun d i wr => ∃ k : Nat, k ≤ body.length ∧ i = .int .i64 k ∧ Hid (wr.ownsRow w.heap.size 25 5 d (3 + k) (fl ([hdT, dfT, zzT] ++ (body.take k).map (lineT 1)))) ∧ Hid (∀ i, i < k → GoodB (body.getD i default)) ∧ Hid (Below w.heap.size w wr)) (fun _ i _ => body.length - (intOf i).toNat)
    case atStart => exact ⟨0, Nat.zero_le _, rfl, own_def w1 _ hsz1, fun i h => absurd h (by omega), HB1.out.alloc hsz1 _⟩
    case round =>
      obtain ⟨k, hk, rfl, hown, hgood, hB⟩ := hrel
      by_cases hlt : k < body.length
      · obtain ⟨b, off, rfl, hb, hc⟩ := HAB.out (by omega)
        have cc := tk_cells (w := wr) (b := b) (off := off + k * 5) fun j hj => (hB.out.cell (p := ⟨b, off + k * 5 + j, none⟩) hb).trans (hc k hlt j hj)
        have HT := Lib.hid (map_take_snoc (lineT 1) body k hlt)
        have HX : Hid (GoodB (body.getD k default) → ∀ i, i < k + 1 → GoodB (body.getD i default)) := by
          intro h1 i hi
          by_cases h : i < k
          · exact hgood.out i h
          · obtain rfl : i = k := by omega
            exact h1
        clear hc hgood
        generalize hDk : [hdT, dfT, zzT] ++ (body.take k).map (lineT 1) = D at *
        have HDk := Lib.hid hDk; clear hDk
        generalize body.getD k default = x at *
        obtain ⟨x0, x1, x2, x3, x4⟩ := x
        obtain ⟨c0, c1, c2, c3, c4⟩ := cc
        simp only at c0 c1 c2 c3 c4
        have hwr := hB.out.size
        have hbr : b < wr.heap.size := by omega
        obtain ⟨r1, HR1⟩ : ∃ r, Hid (isF 4 ⟨x0, x1, x2, x3, x4⟩ ⟨#[35]⟩ = r) := ⟨_, rfl⟩
        obtain ⟨r2, HR2⟩ : ∃ r, Hid (isF 4 ⟨x0, x1, x2, x3, x4⟩ ⟨#[40]⟩ = r) := ⟨_, rfl⟩
        go_wp2_with fail
        refine (is_is ⟨x0, x1, x2, x3, x4⟩ _ _ _ HR1).mono ?_
        rintro e w3 ⟨rfl, hw3⟩
        have hs3 := hw3.size
        have HB3 : Hid (Below w.heap.size w w3) := hB.out.trans (hw3.mono hwr)
        have HO3 := Lib.hid (own_below hown.out hw3)
        have d0 := (hw3.cell (p := ⟨b, off + k * 5, none⟩) hbr).trans c0
        have d1 := (hw3.cell (p := ⟨b, off + k * 5 + 1, none⟩) hbr).trans c1
        have d2 := (hw3.cell (p := ⟨b, off + k * 5 + 2, none⟩) hbr).trans c2
        have d3 := (hw3.cell (p := ⟨b, off + k * 5 + 3, none⟩) hbr).trans c3
        have d4 := (hw3.cell (p := ⟨b, off + k * 5 + 4, none⟩) hbr).trans c4
        have hbr3 : b < w3.heap.size := by omega
        clear hw3 c0 c1 c2 c3 c4
        go_wp2_with fail
        refine (is_is ⟨x0, x1, x2, x3, x4⟩ _ _ _ HR2).mono ?_
        rintro e w4 ⟨rfl, hw4⟩
        have hs4 := hw4.size
        have HB4 : Hid (Below w.heap.size w w4) := HB3.out.trans (hw4.mono HB3.out.size)
        have HO4 := Lib.hid (own_below HO3.out hw4)
        have e0 := (hw4.cell (p := ⟨b, off + k * 5, none⟩) hbr3).trans d0
        have e1 := (hw4.cell (p := ⟨b, off + k * 5 + 1, none⟩) hbr3).trans d1
        have e2 := (hw4.cell (p := ⟨b, off + k * 5 + 2, none⟩) hbr3).trans d2
        have e3 := (hw4.cell (p := ⟨b, off + k * 5 + 3, none⟩) hbr3).trans d3
        have e4 := (hw4.cell (p := ⟨b, off + k * 5 + 4, none⟩) hbr3).trans d4
        have hw4z : w.heap.size ≤ w4.heap.size := HB4.out.size
        clear hw4 d0 d1 d2 d3 d4
        cases r1 with
        | true =>
          go_wp2
          go_ret
          exact ⟨rfl, HB4.out⟩
        | false =>
          cases r2 with
          | true =>
            go_wp2
            go_ret
            exact ⟨rfl, HB4.out⟩
          | false =>
            by_cases h0 : x0 = 0
            · subst h0
              go_wp2
              go_ret
              exact ⟨rfl, HB4.out⟩
            by_cases h1 : x0 = 1
            · subst h1
              by_cases h2 : x3 = ⟨#[122, 122]⟩
              · subst h2
                go_wp2
                go_ret
                exact ⟨rfl, HB4.out⟩
              · have HY := Lib.hid (HX.out ⟨HR1.out, HR2.out, h0, by simp [usesB, zzB, h2]⟩)
                have hz := (tl_lit x3 [122, 122]).trans (decide_eq_false h2)
                clear h2 HX h0
                go_wp2_with (at_builtin; go_must (refine wpList_push rfl _ _ rfl w.heap.size _ (3 + k) _ rfl ((HO4.out.alloc _).alloc _) (w4.heap.size + 1) 1 x1 1 x3 x4 rfl (heap_new1 _ _ _) (by omega) (by simp <;> omega) ?c4))
                case c4 =>
                  intro g cap w5 h1 h2 h3
                  have HO5 : Hid (w5.ownsRow w.heap.size 25 5 (.slice (some ⟨g, 0, none⟩) (3 + k + 1) cap) (3 + (k + 1)) (fl ([hdT, dfT, zzT] ++ (body.take (k + 1)).map (lineT 1)))) := by rw [HT.out, ← List.append_assoc, HDk.out]; exact h1
                  have HB5 : Hid (Below w.heap.size w w5) := ((HB4.out.alloc hw4z _).alloc (by simp <;> omega) _).grown h2 (by simp <;> omega) (fun g hg => (HO4.out.lt g hg).1)
                  clear h1 h2 h3
                  go_wp2
                  go_roundw
                  case rel => exact ⟨k + 1, by omega, by go_num, HO5, HY, HB5⟩
                  case measure => simp [intOf]; omega
            · have HY := Lib.hid (HX.out ⟨HR1.out, HR2.out, h0, by simp [usesB, h1]⟩)
              clear HX
              go_wp2_with (at_builtin; go_must (refine wpList_push rfl _ _ rfl w.heap.size _ (3 + k) _ rfl ((HO4.out.alloc _).alloc _) (w4.heap.size + 1) x0 x1 1 x3 x4 rfl (heap_new1 _ _ _) (by omega) (by simp <;> omega) ?c4))
              case c4 =>
                intro g cap w5 h1 h2 h3
                have HO5 : Hid (w5.ownsRow w.heap.size 25 5 (.slice (some ⟨g, 0, none⟩) (3 + k + 1) cap) (3 + (k + 1)) (fl ([hdT, dfT, zzT] ++ (body.take (k + 1)).map (lineT 1)))) := by rw [HT.out, ← List.append_assoc, HDk.out]; exact h1
                have HB5 : Hid (Below w.heap.size w w5) := ((HB4.out.alloc hw4z _).alloc (by simp <;> omega) _).grown h2 (by simp <;> omega) (fun g hg => (HO4.out.lt g hg).1)
                clear h1 h2 h3
                go_wp2
                go_roundw
                case rel => exact ⟨k + 1, by omega, by go_num, HO5, HY, HB5⟩
                case measure => simp [intOf]; omega
      · obtain rfl : k = body.length := by omega
        rw [List.take_length] at hown
        clear hlt hk
        generalize hD0 : [hdT, dfT, zzT] ++ body.map (lineT 1) = D0 at *
        have HD0 := Lib.hid hD0; clear hD0
        obtain ⟨n0, hn0, hn0l⟩ : ∃ n0, Hid (n0 = 3 + body.length) ∧ n0 ≤ 18 := ⟨_, rfl, by omega⟩
        rw [← hn0.out] at hown
        have hBz := hB.out.size
        obtain ⟨wo, rfl⟩ : ∃ wo : World, wo = wr := ⟨_, rfl⟩
        go_wp2_with fail
        go_loopw [6, 11, 12] (fun d pl i wr => ∃ (k nd n2 : Nat), k ≤ l.length ∧ i = .int .i64 k ∧ nd = n0 + k ∧ n2 ≤ 16 * k ∧ Hid (wr.ownsRow w.heap.size 25 5 d nd (fl (D0 ++ (l.take k).map (lineT 2)))) ∧ Hid (wr.ownsRow w.heap.size 25 5 pl n2 (fl (plL zzB body ((l.take k).map (lineT 2))))) ∧ Hid (∀ g, pl.ownBlock = some g → d.ownBlock ≠ some g) ∧ Hid (∀ i, i < k → isF 4 (l.getD i default) ⟨#[35]⟩ = false) ∧ Hid (Below w.heap.size w wr)) (fun _ _ i _ => l.length - (intOf i).toNat)
        case atStart => exact ⟨0, n0, 0, Nat.zero_le _, rfl, rfl, by omega, Lib.hid (show World.ownsRow wo w.heap.size 25 5 _ n0 (fl (D0 ++ [])) by rw [List.append_nil]; exact hown.out), World.ownsRow_nil _ _ _ _, fun g hg => by simp [Value.ownBlock] at hg, fun i h => absurd h (by omega), hB⟩
        case round =>
          obtain ⟨k, nd, n2, hk, rfl, hnd, hn2, hod, hop, hdis, hno, hB2⟩ := hrel
          by_cases hlt : k < l.length
          · obtain ⟨b, off, rfl, hb, hc⟩ := HA.out (by omega)
            have cc := tk_cells (w := wr) (b := b) (off := off + k * 5) fun j hj => (hB2.out.cell (p := ⟨b, off + k * 5 + j, none⟩) hb).trans (hc k hlt j hj)
            have HT := Lib.hid (map_take_snoc (lineT 2) l k hlt)
            have HX : Hid (isF 4 (l.getD k default) ⟨#[35]⟩ = false → ∀ i, i < k + 1 → isF 4 (l.getD i default) ⟨#[35]⟩ = false) := by
              intro h1 i hi
              by_cases h : i < k
              · exact hno.out i h
              · obtain rfl : i = k := by omega
                exact h1
            clear hc hno
            generalize hDk : D0 ++ (l.take k).map (lineT 2) = D at *
            generalize hPk : plL zzB body ((l.take k).map (lineT 2)) = P at *
            have HDk := Lib.hid hDk; have HPk := Lib.hid hPk; clear hDk hPk
            generalize l.getD k default = x at *
            obtain ⟨x0, x1, x2, x3, x4⟩ := x
            obtain ⟨c0, c1, c2, c3, c4⟩ := cc
            simp only at c0 c1 c2 c3 c4
            have hwr := hB2.out.size
            obtain ⟨r1, HR1⟩ : ∃ r, Hid (isF 4 ⟨x0, x1, 2, x3, x4⟩ ⟨#[35]⟩ = r) := ⟨_, rfl⟩
            have HND := Lib.hid hnd; clear hnd
            have hnd2 : nd ≤ 600 := by have := HND.out; omega
            go_wp2_with fail
            generalize hW2 : World.alloc wr _ = W2
            have HG : Hid (Below wr.heap.size wr W2) := by rw [← hW2]; exact (Below.refl _ _).alloc (Nat.le_refl _) _
            have hs2 : wr.heap.size < W2.heap.size := by rw [← hW2]; simp [go_sem]
            have t0 : W2.cell? ⟨wr.heap.size, 0, none⟩ = some (.int .i64 x0) := by rw [← hW2]; simp [go_sem]
            have t1 : W2.cell? ⟨wr.heap.size, 1, none⟩ = some (.int .i64 x1) := by rw [← hW2]; simp [go_sem]
            have t2 : W2.cell? ⟨wr.heap.size, 2, none⟩ = some (.int .i64 2) := by rw [← hW2]; simp [go_sem]
            have t3 : W2.cell? ⟨wr.heap.size, 3, none⟩ = some (.string x3) := by rw [← hW2]; simp [go_sem]
            have t4 : W2.cell? ⟨wr.heap.size, 4, none⟩ = some (.int .i64 x4) := by rw [← hW2]; simp [go_sem]
            clear hW2 c0 c1 c2 c3 c4
            refine (is_is ⟨x0, x1, 2, x3, x4⟩ _ _ _ HR1).mono ?_
            rintro e w3 ⟨rfl, hw3⟩
            have hs3 := hw3.size
            have HB23 : Hid (Below wr.heap.size wr w3) := HG.out.trans (hw3.mono (by omega))
            have HB3 : Hid (Below w.heap.size w w3) := hB2.out.trans (HB23.out.mono hwr)
            have q0 := (hw3.cell (p := ⟨wr.heap.size, 0, none⟩) hs2).trans t0
            have q1 := (hw3.cell (p := ⟨wr.heap.size, 1, none⟩) hs2).trans t1
            have q2 := (hw3.cell (p := ⟨wr.heap.size, 2, none⟩) hs2).trans t2
            have q3 := (hw3.cell (p := ⟨wr.heap.size, 3, none⟩) hs2).trans t3
            have q4 := (hw3.cell (p := ⟨wr.heap.size, 4, none⟩) hs2).trans t4
            have hw3z : w.heap.size ≤ w3.heap.size := HB3.out.size
            clear hw3 t0 t1 t2 t3 t4
            cases r1 with
            | true =>
              go_wp2
              go_ret
              exact ⟨rfl, HB3.out⟩
            | false =>
              have HY := Lib.hid (HX.out HR1.out)
              have HOD3 := Lib.hid (own_below hod.out HB23.out)
              have HOP3 := Lib.hid (own_below hop.out HB23.out)
              have HLT : Hid (∀ g, u6.ownBlock = some g → g < wr.heap.size) := fun g hg => (hod.out.lt g hg).2
              have HLTP : Hid (∀ g, u11.ownBlock = some g → g < wr.heap.size) := fun g hg => (hop.out.lt g hg).2
              clear hod hop HX
              go_wp2_with (at_builtin; go_must (refine wpList_push rfl _ _ rfl w.heap.size _ nd D rfl (HOD3.out.alloc _) w3.heap.size x0 x1 2 x3 x4 rfl (heap_new' _ _) (by omega) (by simp <;> omega) ?c4))
              case c4 =>
                intro g cap w5 h1 h2 h3
                have HO5 : Hid (w5.ownsRow w.heap.size 25 5 (.slice (some ⟨g, 0, none⟩) (nd + 1) cap) (nd + 1) (fl (D0 ++ (l.take (k + 1)).map (lineT 2)))) := by rw [HT.out, ← List.append_assoc, HDk.out]; exact h1
                have HB5 : Hid (Below w.heap.size w w5) := (HB3.out.alloc hw3z _).grown h2 (by simp <;> omega) (fun g hg => (HOD3.out.lt g hg).1)
                have hfar : ∀ q, w5.cell? ⟨wr.heap.size, q, none⟩ = w3.cell? ⟨wr.heap.size, q, none⟩ := fun q => (h2.cell_far ⟨wr.heap.size, q, none⟩ (by simp <;> omega) (fun e => by have := HLT.out _ e.symm; simp at this)).trans (World.cell?_of_block (a := ⟨wr.heap.size, q, none⟩) (Below.heap_alloc _ _ _ (by show wr.heap.size < _; omega)))
                have p0 := (hfar 0).trans q0
                have p1 := (hfar 1).trans q1
                have p2 := (hfar 2).trans q2
                have p3 := (hfar 3).trans q3
                have p4 := (hfar 4).trans q4
                have HOP5 : Hid (w5.ownsRow w.heap.size 25 5 u11 n2 (fl P)) := (HOP3.out.alloc _).kept h2 (by
                  cases hu : u11.ownBlock with
                  | none => exact .inl rfl
                  | some g' => exact .inr (fun e => hdis.out g' hu e.symm))
                have HDG : Hid (∀ g', u11.ownBlock = some g' → g ≠ g') := fun g' hg' e => by
                  subst e
                  rcases h3 with h3 | h3
                  · exact hdis.out g hg' h3
                  · have := HLTP.out g hg'
                    omega
                have hsz5 : wr.heap.size < w5.heap.size := by have := h2.size; simp at this; omega
                have hw5z : w.heap.size ≤ w5.heap.size := HB5.out.size
                clear h1 h2 h3 hfar q0 q1 q2 q3 q4
                by_cases hux : usesB zzB ⟨x0, x1, 2, x3, x4⟩ = true
                · obtain ⟨hxa, hxb⟩ := of_decide_eq_true hux
                  simp only at hxa hxb
                  unfold zzB at hxb
                  subst hxa; subst hxb
                  have HSB5 := Lib.hid (HSB.out.keep HB5.out)
                  go_wp2_with (at_builtin; go_must (refine wpList_app rfl _ _ rfl w.heap.size u11 n2 P rfl HOP5.out (.slice ab body.length cb) body rfl HSB5.out HNB.out (by omega) hw5z ?c5))
                  case c5 =>
                    intro v6 w6 h1 h2 h3
                    have HO6 : Hid (w6.ownsRow w.heap.size 25 5 (.slice (some ⟨g, 0, none⟩) (nd + 1) cap) (nd + 1) (fl (D0 ++ (l.take (k + 1)).map (lineT 2)))) := HO5.out.kept h2 (.inr (fun e => HDG.out g (by rw [← e]; rfl) rfl))
                    have HP6 : Hid (w6.ownsRow w.heap.size 25 5 v6 (n2 + body.length) (fl (plL zzB body ((l.take (k + 1)).map (lineT 2))))) := by
                      rw [HT.out, plL_app, plL_one, HPk.out]
                      have hpf : plF zzB body (lineT 2 ⟨1, x1, x2, ⟨#[122, 122]⟩, x4⟩) = body := by unfold plF; exact if_pos hux
                      rw [hpf]; exact h1
                    have HD6 : Hid (∀ g', (v6 : Value).ownBlock = some g' → (Value.slice (some ⟨g, 0, none⟩) (nd + 1) cap).ownBlock ≠ some g') := fun g' hg' e => by
                      have e2 : g = g' := by simpa [Value.ownBlock] using e
                      rcases h3 g' hg' with h | h
                      · exact HDG.out g' h e2
                      · have := (HO5.out.lt g rfl).2; omega
                    have HB6 : Hid (Below w.heap.size w w6) := HB5.out.grown h2 hw5z (fun g hg => (HOP5.out.lt g hg).1)
                    clear h1 h2 h3
                    go_wp2
                    go_roundw
                    case rel => exact ⟨k + 1, nd + 1, n2 + body.length, by omega, by go_num, by have := HND.out; omega, by omega, HO6, HP6, HD6, HY, HB6⟩
                    case measure => simp [intOf]; omega
                · have hux : usesB zzB ⟨x0, x1, 2, x3, x4⟩ = false := by simpa using hux
                  by_cases h1 : x0 = 1
                  · subst h1
                    have h2 : ¬ x3 = ⟨#[122, 122]⟩ := fun e => by
                      subst e
                      simp [usesB, zzB] at hux
                    have hz := (tl_lit x3 [122, 122]).trans (decide_eq_false h2)
                    clear h2
                    have HUX := Lib.hid hux; clear hux
                    go_wp2_with (at_builtin; go_must (refine wpList_push rfl _ _ rfl w.heap.size u11 n2 P rfl (HOP5.out.alloc _) w5.heap.size 1 x1 2 x3 x4 rfl (heap_new' _ _) (by omega) (by simp <;> omega) ?c5))
                    case c5 =>
                      have hux := HUX.out
                      intro g2 cap2 w6 h1 h2 h3
                      have HO6 : Hid (w6.ownsRow w.heap.size 25 5 (.slice (some ⟨g, 0, none⟩) (nd + 1) cap) (nd + 1) (fl (D0 ++ (l.take (k + 1)).map (lineT 2)))) := (HO5.out.alloc _).kept h2 (.inr (fun e => HDG.out g (by rw [← e]; rfl) rfl))
                      have HP6 : Hid (w6.ownsRow w.heap.size 25 5 (.slice (some ⟨g2, 0, none⟩) (n2 + 1) cap2) (n2 + 1) (fl (plL zzB body ((l.take (k + 1)).map (lineT 2))))) := by
                        rw [HT.out, plL_app, plL_one, HPk.out]
                        have hpf : plF zzB body (lineT 2 ⟨1, x1, x2, x3, x4⟩) = [⟨1, x1, 2, x3, x4⟩] := by unfold plF; exact if_neg (show ¬ usesB zzB ⟨1, x1, 2, x3, x4⟩ = true by rw [hux]; decide)
                        rw [hpf]; exact h1
                      have HD6 : Hid (∀ g', ((.slice (some ⟨g2, 0, none⟩) (n2 + 1) cap2) : Value).ownBlock = some g' → (Value.slice (some ⟨g, 0, none⟩) (nd + 1) cap).ownBlock ≠ some g') := fun g' hg' e => by
                        have e2 : g = g' := by simpa [Value.ownBlock] using e
                        rcases (show u11.ownBlock = some g' ∨ w5.heap.size ≤ g' by
                            have e3 : g2 = g' := by simpa [Value.ownBlock] using hg'
                            rw [← e3]; exact h3.imp id (fun h => by omega)) with h | h
                        · exact HDG.out g' h e2
                        · have := (HO5.out.lt g rfl).2; omega
                      have HB6 : Hid (Below w.heap.size w w6) := (HB5.out.alloc hw5z _).grown h2 (by simp <;> omega) (fun g hg => (HOP5.out.lt g hg).1)
                      clear h1 h2 h3
                      go_wp2
                      go_roundw
                      case rel => exact ⟨k + 1, nd + 1, n2 + 1, by omega, by go_num, by have := HND.out; omega, by omega, HO6, HP6, HD6, HY, HB6⟩
                      case measure => simp [intOf]; omega
                  · have HUX := Lib.hid hux; clear hux
                    go_wp2_with (at_builtin; go_must (refine wpList_push rfl _ _ rfl w.heap.size u11 n2 P rfl (HOP5.out.alloc _) w5.heap.size x0 x1 2 x3 x4 rfl (heap_new' _ _) (by omega) (by simp <;> omega) ?c5))
                    case c5 =>
                      have hux := HUX.out
                      intro g2 cap2 w6 h1 h2 h3
                      have HO6 : Hid (w6.ownsRow w.heap.size 25 5 (.slice (some ⟨g, 0, none⟩) (nd + 1) cap) (nd + 1) (fl (D0 ++ (l.take (k + 1)).map (lineT 2)))) := (HO5.out.alloc _).kept h2 (.inr (fun e => HDG.out g (by rw [← e]; rfl) rfl))
                      have HP6 : Hid (w6.ownsRow w.heap.size 25 5 (.slice (some ⟨g2, 0, none⟩) (n2 + 1) cap2) (n2 + 1) (fl (plL zzB body ((l.take (k + 1)).map (lineT 2))))) := by
                        rw [HT.out, plL_app, plL_one, HPk.out]
                        have hpf : plF zzB body (lineT 2 ⟨x0, x1, x2, x3, x4⟩) = [⟨x0, x1, 2, x3, x4⟩] := by unfold plF; exact if_neg (show ¬ usesB zzB ⟨x0, x1, 2, x3, x4⟩ = true by rw [hux]; decide)
                        rw [hpf]; exact h1
                      have HD6 : Hid (∀ g', ((.slice (some ⟨g2, 0, none⟩) (n2 + 1) cap2) : Value).ownBlock = some g' → (Value.slice (some ⟨g, 0, none⟩) (nd + 1) cap).ownBlock ≠ some g') := fun g' hg' e => by
                        have e2 : g = g' := by simpa [Value.ownBlock] using e
                        rcases (show u11.ownBlock = some g' ∨ w5.heap.size ≤ g' by
                            have e3 : g2 = g' := by simpa [Value.ownBlock] using hg'
                            rw [← e3]; exact h3.imp id (fun h => by omega)) with h | h
                        · exact HDG.out g' h e2
                        · have := (HO5.out.lt g rfl).2; omega
                      have HB6 : Hid (Below w.heap.size w w6) := (HB5.out.alloc hw5z _).grown h2 (by simp <;> omega) (fun g hg => (HOP5.out.lt g hg).1)
                      clear h1 h2 h3
                      go_wp2
                      go_roundw
                      case rel => exact ⟨k + 1, nd + 1, n2 + 1, by omega, by go_num, by have := HND.out; omega, by omega, HO6, HP6, HD6, HY, HB6⟩
                      case measure => simp [intOf]; omega
          · obtain rfl : k = l.length := by omega
            rw [List.take_length] at hod hop
            obtain ⟨ad, cd, rfl⟩ := own_slice hod.out
            obtain ⟨ap, cp, rfl⟩ := own_slice hop.out
            have hright := HR.out
            unfold rightF at hright
            obtain ⟨hL0, hR1⟩ := of_decide_eq_true hright
            have hlast : (l.getD (l.length - 1) default).kind = 0 := (hR1 (l.length - 1) (by omega)).2 (by omega)
            have HSD : Hid (Sl wr 5 TkD.enc (.slice ad nd cd) (hdT :: dfT :: zzT :: (body.map (lineT 1) ++ l.map (lineT 2)))) := by
              have h1 := sl_of_own hod.out
              rw [← HD0.out, List.append_assoc] at h1
              exact h1
            have HSP := Lib.hid (sl_of_own hop.out)
            have HKEY := Lib.hid (alk_of_key (key_all body l hL0 hlast))
            have HGB := hgood
            have hwr := hB2.out.size
            have HNO := hno
            clear hright hR1 hlast hod hop hno hgood hlt hk hnd hn2 hdis
            have hm := once_mac body l (.slice ad nd cd) wr hL0 hl5 hb15 HSD.out HR.out HGB.out HNO.out
            generalize exL zzB (body.map (lineT 1)) ((l.map (lineT 2)).take ((l.map (lineT 2)).length - 1)) ++ [(l.map (lineT 2)).getD ((l.map (lineT 2)).length - 1) default] = RA at hm HKEY
            generalize plL zzB body (l.map (lineT 2)) = PB at HSP HKEY
            have HMM := Lib.hid hm
            clear hm
            go_wp2_with fail
            refine HMM.out.mono ?_
            rintro e w2 ⟨va, rfl, hsa, hba⟩
            have HSA := Lib.hid hsa
            have HB2 : Hid (Below w.heap.size w w2) := hB2.out.trans (hba.mono hwr)
            have HSP2 := Lib.hid (HSP.out.keep hba)
            clear hsa hba
            obtain ⟨a9, c9, hva, _⟩ := sl_open HSA.out
            subst hva
            go_wp2_with fail
            refine (same_true _ _ _ _ true _ HSA.out HSP2.out HKEY.out.1 HKEY.out.2).mono ?_
            rintro e w3 ⟨rfl, hb3⟩
            have HB3 : Hid (Below w.heap.size w w3) := HB2.out.trans (hb3.mono HB2.out.size)
            clear hb3
            go_wp2
            go_ret
            exact ⟨rfl, HB3.out⟩
/-- The walk, as the row's proof asks for it. -/
theorem prepOnce.walk {H : Type} {enc : TypeId × Value → H} (W : World) (base : Nat) (v0 v1 : Value) {d0 d1 : DataW H} {p0 p1 : List MemPlace} (hv0 : Value.okWide Try.prog W .any base 22 v0) (h0 : DataW.Trod enc Try.prog W 0 (fun _ => true) true 22 v0 d0 p0) (hv1 : Value.okWide Try.prog W .any base 22 v1) (h1 : DataW.Trod enc Try.prog W 0 (fun _ => true) true 22 v1 d1 p1) :
    Calls Try.prog 3 #[v0, v1] W fun e w' => e = .returned (.bool true) ∧ Below W.heap.size W w' := by
  obtain ⟨b, hb, _, hn⟩ := rows_of hv0 h0
  obtain ⟨l, hl, _, _⟩ := rows_of hv1 h1
  exact once_walk b l v0 v1 W hb hn hl

end Go.Proofs.Ytaliplbbmhfenaa
