/-
  done, where one macro without parameters is known: each use of it gives its body's tokens.
-/
import Derived.Test.YtaliplbbmhfenaaM
namespace Go.Proofs.Ytaliplbbmhfenaa
open Go.MapKept Go.ChangeShapes Go.WideShapes Go.ChangeAt Go.RowKit Go.Deep Go.Joins Go.Instr
theorem sl_ne {w : World} {b off n c wb kb : Nat} {inl : Bool} {op o : Value} {us : Int} {l : List TkD} (h : Sl w 5 TkD.enc (.slice (some ⟨b, off, none⟩) n c) l) (h0 : 0 < l.length) (hw : Wk w wb inl kb op us o) : b ≠ wb := by
  rintro rfl
  obtain ⟨a, cap, e, _, _, hc⟩ := h
  injection e with e1 _ _
  subst e1
  obtain ⟨b', off', e, _, hc⟩ := hc h0
  injection e with e
  injection e with e1 e2 _
  subst e1; subst e2
  have h1 := hc 0 h0 0 (by omega)
  have h2 := hc 0 h0 4 (by omega)
  rw [cell_of_row w b _ _ _ _ hw] at h1 h2
  match off with
  | 0 => simp [TkD.enc] at h1
  | m + 1 =>
    rw [Array.getElem?_eq_none (by simp)] at h2
    simp at h2
theorem Sl.outs {w w' : World} {wb kb : Nat} {inl : Bool} {op o v : Value} {us : Int} {l : List TkD} (h : Sl w 5 TkD.enc v l) (hw : Wk w wb inl kb op us o) (ho : OutsP (fun k => k = wb) w w') : Sl w' 5 TkD.enc v l := by
  have h' := h
  obtain ⟨a, cap, rfl, h2, h3, h4⟩ := h
  refine ⟨a, cap, rfl, h2, h3, fun hp => ?_⟩
  obtain ⟨b, off, rfl, hb, hc⟩ := h4 hp
  have hne := sl_ne h' hp hw
  exact ⟨b, off, rfl, Nat.lt_of_lt_of_le hb ho.size, fun i hi j hj => (World.cell?_of_block (a := ⟨b, off + i * 5 + j, none⟩) (ho.block b hb hne)).trans (hc i hi j hj)⟩
theorem Wk.drew {w : World} {wb : Nat} {inl : Bool} {kb : Nat} {op : Value} {us : Int} {o : Value} (h : Wk w wb inl kb op us o) : Wk w.drew wb inl kb op us o := h
def usesB (zz : ByteArray) (t : TkD) : Bool := decide (t.kind = 1 ∧ t.text = zz)
def exF (zz : ByteArray) (B : List TkD) (t : TkD) : List TkD := if usesB zz t then B.map (put_ t.at' t.line) else [t]
def exL (zz : ByteArray) (B : List TkD) (l : List TkD) : List TkD := l.flatMap (exF zz B)
def usL (zz : ByteArray) (l : List TkD) : Nat := (l.filter (usesB zz)).length
theorem exL_app (zz : ByteArray) (B a b : List TkD) : exL zz B (a ++ b) = exL zz B a ++ exL zz B b := by simp [exL]
theorem exL_one (zz : ByteArray) (B : List TkD) (t : TkD) : exL zz B [t] = exF zz B t := by simp [exL]
theorem usL_app (zz : ByteArray) (a b : List TkD) : usL zz (a ++ b) = usL zz a + usL zz b := by simp [usL]
theorem ex_le (zz : ByteArray) (B l : List TkD) (k : Nat) : (exL zz B (l.take k)).length ≤ (exL zz B l).length ∧ usL zz (l.take k) ≤ usL zz l := by
  have h1 := congrArg List.length (exL_app zz B (l.take k) (l.drop k))
  have h2 := usL_app zz (l.take k) (l.drop k)
  rw [List.take_append_drop] at h1 h2
  rw [List.length_append] at h1
  omega
def knF (zz : ByteArray) (m : MacD) : ByteArray → Option MacD := fun s => if s = zz then some m else none
set_option maxRecDepth 100000 in
set_option maxHeartbeats 16000000 in
theorem do_once (zz : ByteArray) (l B : List TkD) (v : Value) (pb db wb kb bc : Nat) (ba : Option Addr) (op o : Value) (us : Int) (es : Array MapEntry) (clock : Nat) (w : World) (hs : Sl w 5 TkD.enc v l) (hB : Sl w 5 TkD.enc (.slice ba B.length bc) B)
    (hp : w.cell? ⟨pb, 0, none⟩ = some (.pointer (some ⟨wb, 0, none⟩))) (hd : w.cell? ⟨db, 0, none⟩ = some (.func (.func 36) #[] #[.pointer (some ⟨pb, 0, none⟩), .pointer (some ⟨db, 0, none⟩)]))
    (hw : Wk w wb false kb op us o) (hm : w.heap[kb]? = some (.map es clock)) (hf : Kno es (knF zz ⟨false, none, 0, 0, ba, B.length, bc⟩)) (hpl : ∀ t ∈ B, t.kind = 1 → t.text ≠ zz)
    (hus : 0 ≤ us) (hus2 : us + usL zz l ≤ 4000) (hlen : (exL zz B l).length ≤ 8192) (hBl : B.length ≤ 8192) (hll : l.length ≤ 8192) :
    Calls Try.prog 36 #[v, .int .i64 0, .pointer (some ⟨pb, 0, none⟩), .pointer (some ⟨db, 0, none⟩)] w (DonePost w wb false kb op (us + usL zz l) o (exL zz B l)) := by
  obtain ⟨aa, ca, rfl, ma, HA⟩ := sl_open hs
  have hca : l.length ≤ ca := by obtain ⟨_, _, e, h, _⟩ := hs; injection e with e1 e2 e3; omega
  have hcm : ca ≤ 9223372036854775807 := by obtain ⟨_, _, e, _, h, _⟩ := hs; injection e with e1 e2 e3; subst e3; unfold maxLen at h; omega
  have hpb : pb < w.heap.size := World.block_lt_of_cell? w _ hp
  have hdb : db < w.heap.size := World.block_lt_of_cell? w _ hd
  have hwb := hw.lt
  have hkb : kb < w.heap.size := (Array.getElem?_eq_some_iff.1 hm).1
  have npb : pb ≠ wb := by rintro rfl; rw [hw.c0] at hp; simp at hp
  have ndb : db ≠ wb := by rintro rfl; rw [hw.c0] at hd; simp at hd
  have nkb : kb ≠ wb := by rintro rfl; unfold Wk at hw; rw [hw] at hm; simp at hm
  have HP := Lib.hid hp; have HD := Lib.hid hd; have HW := Lib.hid hw; have HM := Lib.hid hm; have HF := Lib.hid hf; have HL := Lib.hid hpl; have HS := Lib.hid hs; have HB := Lib.hid hB
  clear hp hd hw hm hf hpl hs hB
  go_enter Try.func36, Try.ntmps36
  go_wp2
  go_loopw [0, 7] (fun s r wr => ∃ (k : Nat) (a : Option Addr) (c : Nat), k ≤ l.length ∧ s = .slice a (l.length - k) c ∧ l.length - k ≤ c ∧ c ≤ 9223372036854775807 ∧ (k < l.length → ∃ b off, aa = some ⟨b, off, none⟩ ∧ a = some ⟨b, off + k * 5, none⟩) ∧ Hid (wr.ownsRow w.heap.size 25 5 r (exL zz B (l.take k)).length (fl (exL zz B (l.take k)))) ∧ Hid (Wk wr wb false kb op (us + usL zz (l.take k)) o) ∧ Hid (OutsP (fun k => k = wb) w wr)) (fun s _ _ => match s with | .slice _ n _ => n | _ => 0)
  case atStart => exact ⟨0, aa, ca, Nat.zero_le _, rfl, by omega, by omega, fun h => by obtain ⟨b, off, h1, -⟩ := HA.out h; exact ⟨b, off, h1, by simpa using h1⟩, World.ownsRow_nil _ _ _ _, Lib.hid (show Wk w wb false kb op (us + ((0 : Nat) : Int)) o by simpa using HW.out), OutsP.refl _ _⟩
  case round =>
    obtain ⟨k, a, c, hk, rfl, hc1, hc2, ha, hown, hwk, hout⟩ := hrel
    by_cases hlt : k < l.length
    · obtain ⟨b, off, rfl, rfl⟩ := ha hlt
      obtain ⟨_, _, e, _, hcells⟩ := sl_open (HS.out.outs HW.out hout.out)
      injection e with e1 e2 e3
      subst e1; subst e3
      obtain ⟨_, _, e, hb, hc⟩ := hcells.out (by omega)
      injection e with e; injection e with e1 e2; subst e1; subst e2
      have cc := tk_cells (w := wr) (b := b) (off := off + k * 5) fun j hj => hc k hlt j hj
      have HT := Lib.hid (take_snoc l k hlt)
      have hle1 := (ex_le zz B l (k + 1)).1
      have hle2 := (ex_le zz B l (k + 1)).2
      rw [HT.out, exL_app, exL_one, List.length_append] at hle1
      rw [HT.out, usL_app] at hle2
      have HE : Hid (exL zz B (l.take (k + 1)) = exL zz B (l.take k) ++ exF zz B (l.getD k default)) := by rw [HT.out, exL_app, exL_one]; exact rfl
      have HU : Hid (usL zz (l.take (k + 1)) = usL zz (l.take k) + usL zz [l.getD k default]) := by rw [HT.out, usL_app]; exact rfl
      clear hc hcells
      generalize l.getD k default = x at *
      generalize hEk : exL zz B (l.take k) = E at *
      generalize hUk : usL zz (l.take k) = U at *
      have HEk := Lib.hid hEk; have HUk := Lib.hid hUk
      clear hEk hUk
      obtain ⟨x0, x1, x2, x3, x4⟩ := x
      obtain ⟨c0, c1, c2, c3, c4⟩ := cc
      simp only at c0 c1 c2 c3 c4
      obtain ⟨fa, hfa, hfl⟩ := HF.out x3
      obtain ⟨mb, pa, pn, pc, qa, qn, qc, is, hform, his⟩ := lkM_form (knF zz ⟨false, none, 0, 0, ba, B.length, bc⟩ x3)
      have HFORM := Lib.hid hform
      have hsz := hout.out.size
      have hmr : wr.heap[kb]? = some (.map es clock) := (hout.out.block kb hkb nkb).trans HM.out
      have hmW : ∀ W : World, Below wr.heap.size wr W → (Instr.lookup 37 (.map (some kb)) (.string x3) true).run Try.prog W = .ok (.tuple #[.agg #[.bool mb, .slice pa pn pc, .slice qa qn qc], .bool is]) W := by
        intro W hW
        rw [lk_run W kb es clock x3 fa (by rw [hW.block kb (by omega)]; exact hmr) hfa, hfl, hform]
      have p0 : wr.cell? ⟨pb, 0, none⟩ = some (.pointer (some ⟨wb, 0, none⟩)) := (World.cell?_of_block (a := ⟨pb, 0, none⟩) (hout.out.block pb hpb npb)).trans HP.out
      have k0 := hwk.out.c1
      have hpbr : pb < wr.heap.size := by omega
      have hwbr : wb < wr.heap.size := by omega
      clear hfa hfl hform ha hmr
      have hone : c = 1 → l.length - k = 1 := by omega
      by_cases hcap : c = 1
      · have hk1 := hone hcap
        subst hcap
        clear hone
        go_wp2
        generalize hW1 : World.alloc wr _ = W1
        have hg : Below wr.heap.size wr W1 := by rw [← hW1]; go_grown
        have hs1 : W1.heap.size = wr.heap.size + 1 := by rw [← hW1]; simp [go_sem]
        have t0 : W1.cell? ⟨wr.heap.size, 0, none⟩ = some (.int .i64 x0) := by rw [← hW1]; simp [go_sem]
        have t1 : W1.cell? ⟨wr.heap.size, 1, none⟩ = some (.int .i64 x1) := by rw [← hW1]; simp [go_sem]
        have t2 : W1.cell? ⟨wr.heap.size, 2, none⟩ = some (.int .i64 x2) := by rw [← hW1]; simp [go_sem]
        have t3 : W1.cell? ⟨wr.heap.size, 3, none⟩ = some (.string x3) := by rw [← hW1]; simp [go_sem]
        have t4 : W1.cell? ⟨wr.heap.size, 4, none⟩ = some (.int .i64 x4) := by rw [← hW1]; simp [go_sem]
        have HO1 : Hid (W1.ownsRow w.heap.size 25 5 u7 E.length (fl E)) := by rw [← hW1]; exact hown.out.alloc _
        clear hW1 hown
        have p1 := (hg.cell (p := ⟨pb, 0, none⟩) hpbr).trans p0
        have k1 := (hg.cell (p := ⟨wb, 1, none⟩) hwbr).trans k0
        have l1 := hmW W1.drew hg.drew
        have l2 := hmW (W1.alloc (.cells #[.bool false, .slice none 0 0, .slice none 0 0] 58)).drew ((hg.alloc (by omega) _).drew)
        have HWK1 := Lib.hid (hwk.out.keep (hg.block wb hwbr))
        clear hmW c0 c1 c2 c3 c4 p0 k0
        have hs2 : wr.heap.size < W1.heap.size := by omega
        have hp2 : pb < W1.heap.size := by omega
        have hw2 : wb < W1.heap.size := by omega
        have HG := Lib.hid hg; have HS1 := Lib.hid hs1; clear hg hs1
        by_cases hx0 : usesB zz ⟨x0, x1, x2, x3, x4⟩ = true
        · obtain ⟨hxa, hxb⟩ := of_decide_eq_true hx0
          simp only at hxa hxb
          have hform := HFORM.out
          rw [hxb, knF, if_pos rfl] at hform
          simp only [lkM, MacD.val] at hform
          injection hform with hform
          simp at hform
          obtain ⟨⟨e1, ⟨e2, e3, e4⟩, ⟨e5, e6, e7⟩⟩, e8⟩ := hform
          subst e1; subst e2; subst e3; subst e4; subst e5; subst e6; subst e7; subst e8; subst hxa
          have HZ := Lib.hid hxb
          clear hxb
          have hex : exF zz B ⟨1, x1, x2, x3, x4⟩ = B.map (put_ x1 x2) := by unfold exF; rw [if_pos hx0]
          have hus1 : usL zz [⟨1, x1, x2, x3, x4⟩] = 1 := by unfold usL; rw [List.filter_cons_of_pos hx0]; rfl
          rw [hex, List.length_map] at hle1
          rw [hus1] at hle2
          rw [hex] at HE
          rw [hus1] at HU
          clear hex hus1 hx0
          have k3 := HWK1.out.c3
          have z3 := HWK1.out.free 3
          have hub0 : 0 ≤ us + (U : Int) := by omega
          have hub1 : us + (U : Int) + 1 ≤ 4000 := by omega
          generalize hun : us + (U : Int) = u at *
          have HUN := Lib.hid hun; clear hun
          go_region
          all_goals
            go_wp2_with fail
            generalize hW3 : World.drew _ = W3
            have HG3 : Hid (OutsP (fun k => k = wb) W1 W3) := by rw [← hW3]; exact (((OutsP.refl (fun k => k = wb) W1).setCell (p := ⟨wb, 3, none⟩) (.inl rfl) _).alloc _).drew
            have HW3 : Hid (Wk W3 wb false kb op (u + 1) o) := by rw [← hW3]; exact ((HWK1.out.set3 (u + 1)).keep (Below.heap_alloc _ _ _ (by simpa [World.setCell] using hw2))).drew
            have HO3 : Hid (W3.ownsRow w.heap.size 25 5 u7 E.length (fl E)) := by rw [← hW3]; exact ((ownsRow_setCell_other HO1.out (a := ⟨wb, 3, none⟩) (own_ne HO1.out HWK1.out) _).alloc _).drew
            clear hW3 t0 t1 t2 t3 t4 p1 k1 l1 l2 k3 z3
            have HU3 : Hid (OutsP (fun k => k = wb) w W3) := (hout.out.trans (OutsP.of_below HG.out) (fun _ h => .inl h)).trans HG3.out (fun _ h => .inl h)
            refine (filled_any B wb bc false ba ⟨1, x1, x2, x3, x4⟩ _ HW3.out.c0 (HB.out.outs HW.out HU3.out) hBl).mono ?_
            rintro e w4 ⟨v4, rfl, hown4, hB4⟩
            have HU4 : Hid (OutsP (fun k => k = wb) w w4) := HU3.out.trans (OutsP.of_below hB4) (fun _ h => .inl h)
            have HW4 := Lib.hid (HW3.out.keep (hB4.block wb HW3.out.lt))
            have HO4 := Lib.hid (own_below HO3.out hB4)
            obtain ⟨a4, c4, rfl⟩ := own_slice hown4
            have HS4 : Hid (Sl w4 5 TkD.enc (.slice a4 B.length c4) (B.map (put_ x1 x2))) := sl_of_own hown4
            have d4 : w4.cell? ⟨db, 0, none⟩ = some (.func (.func 36) #[] #[.pointer (some ⟨pb, 0, none⟩), .pointer (some ⟨db, 0, none⟩)]) := (World.cell?_of_block (a := ⟨db, 0, none⟩) (HU4.out.block db hdb ndb)).trans HD.out
            have HP4 : Hid (w4.cell? ⟨pb, 0, none⟩ = some (.pointer (some ⟨wb, 0, none⟩))) := (World.cell?_of_block (a := ⟨pb, 0, none⟩) (HU4.out.block pb hpb npb)).trans HP.out
            have HM4 := Lib.hid ((HU4.out.block kb hkb nkb).trans HM.out)
            have hBl2 : (B.map (put_ x1 x2)).length ≤ 8192 := by rw [List.length_map]; exact hBl
            have hwsz := HU3.out.size
            clear hown4 hB4
            go_wp2_with fail
            refine (do_plain (B.map (put_ x1 x2)) _ 1 pb db wb kb es clock _ w4 HS4.out hBl2 HP4.out HW4.out.c1 HM4.out HF.out (fun t ht h1 => by
              obtain ⟨y, hy, rfl⟩ := List.mem_map.1 ht
              show knF zz _ y.text = none
              unfold knF
              rw [if_neg (HL.out y hy h1)])).mono ?_
            rintro e w5 ⟨v5, rfl, hown5, hB5⟩
            have HO5 := Lib.hid (own_below HO4.out hB5)
            have HW5 := Lib.hid (HW4.out.keep (hB5.block wb HW4.out.lt))
            have HU5 : Hid (OutsP (fun k => k = wb) w w5) := HU4.out.trans (OutsP.of_below hB5) (fun _ h => .inl h)
            have HS5 := Lib.hid (sl_of_own hown5)
            have HN5 := Lib.hid (sn_of_own hown5)
            have hw5z := HU5.out.size
            clear hown5 hB5 d4
            go_wp2_with (at_builtin; go_must (refine wpList_append_tk rfl _ _ rfl w.heap.size u7 E.length E rfl HO5.out _ (B.map (put_ x1 x2)) rfl HS5.out HN5.out (by rw [List.length_map]; omega) hw5z ?c4))
            case c4 =>
              intro v6 w6 hown6 hgrow
              try rw [List.length_map] at hown6
              have HO6 : Hid (w6.ownsRow w.heap.size 25 5 v6 (exL zz B (l.take (k + 1))).length (fl (exL zz B (l.take (k + 1))))) := by
                rw [HE.out, List.length_append, List.length_map]; exact hown6
              have HU6 : Hid (OutsP (fun k => k = wb) w w6) := HU5.out.grown hgrow (fun g hg => .inr (HO5.out.lt g hg).1)
              have HW6 : Hid (Wk w6 wb false kb op (us + usL zz (l.take (k + 1))) o) := by
                have h1 := HW5.out.keep (hgrow.block wb HW5.out.lt (own_ne HO5.out HW5.out).symm)
                rw [HU.out]
                have h2 : us + ((U + 1 : Nat) : Int) = u + 1 := by have := HUN.out; omega
                rw [h2]; exact h1
              obtain ⟨a6, c6, rfl⟩ := own_slice hown6
              clear hown6 hgrow
              go_wp2
              go_roundw
              case rel => exact ⟨k + 1, some ⟨b, off + k * 5, none⟩, 0, by omega, by rw [show l.length - (k + 1) = 0 by omega], by omega, by omega, fun h => absurd h (by omega), HO6, HW6, HU6⟩
              case measure => simp; omega
        · have hxf : usesB zz ⟨x0, x1, x2, x3, x4⟩ = false := by simpa using hx0
          have hex : exF zz B ⟨x0, x1, x2, x3, x4⟩ = [⟨x0, x1, x2, x3, x4⟩] := by unfold exF; rw [if_neg hx0]
          have hus1 : usL zz [⟨x0, x1, x2, x3, x4⟩] = 0 := by unfold usL; rw [List.filter_cons_of_neg hx0]; rfl
          have HI : Hid (x0 = 1 → is = false) := fun h => his (by
            unfold knF
            rw [if_neg (fun h2 => hx0 (by unfold usesB; exact decide_eq_true ⟨h, h2⟩))])
          rw [hex] at HE hle1
          rw [hus1] at HU hle2
          simp only [List.length_singleton] at hle1
          clear hex hus1 hx0 hxf his
          go_region
          all_goals
            by_cases hx0 : x0 = 1
            · have hi := HI.out hx0
              subst hx0; subst hi
              clear HI
              go_wp2_with (at_builtin; go_must (refine wpList_append_tk rfl _ _ rfl w.heap.size _ E.length E rfl ((HO1.out.alloc _).alloc _).drew _ [⟨1, x1, x2, x3, x4⟩] rfl (sl_one _ _ (by simp) _ _ _ _ _).drew (sn_some _ _ _) (by simp <;> omega) (by simp <;> omega) ?c4))
              case c4 =>
                intro v' w3 hown' hgrow
                have HO3 : Hid (w3.ownsRow w.heap.size 25 5 v' (exL zz B (l.take (k + 1))).length (fl (exL zz B (l.take (k + 1))))) := by
                  rw [HE.out, List.length_append]; exact hown'
                have HU3 : Hid (OutsP (fun k => k = wb) w w3) := (((((hout.out.trans (OutsP.of_below HG.out) (fun _ h => .inl h)).alloc _).alloc _).drew).grown hgrow (fun g hg => .inr (HO1.out.lt g hg).1))
                have HW3 : Hid (Wk w3 wb false kb op (us + usL zz (l.take (k + 1))) o) := by
                  rw [HU.out]
                  exact HWK1.out.keep ((hgrow.block wb (by simp <;> omega) (own_ne HO1.out HWK1.out).symm).trans ((Below.heap_alloc _ _ _ (by simp <;> omega)).trans (Below.heap_alloc _ _ _ hw2)))
                obtain ⟨a', c', rfl⟩ := own_slice hown'
                clear hown' hgrow
                go_wp2
                go_roundw
                case rel => exact ⟨k + 1, some ⟨b, off + k * 5, none⟩, 0, by omega, by rw [show l.length - (k + 1) = 0 by omega], by omega, by omega, fun h => absurd h (by omega), HO3, HW3, HU3⟩
                case measure => simp; omega
            · clear HI
              go_wp2_with (at_builtin; go_must (refine wpList_append_tk rfl _ _ rfl w.heap.size _ E.length E rfl ((HO1.out.alloc _).alloc _).drew _ [⟨x0, x1, x2, x3, x4⟩] rfl (sl_one _ _ (by simp) _ _ _ _ _).drew (sn_some _ _ _) (by simp <;> omega) (by simp <;> omega) ?c4))
              case c4 =>
                intro v' w3 hown' hgrow
                have HO3 : Hid (w3.ownsRow w.heap.size 25 5 v' (exL zz B (l.take (k + 1))).length (fl (exL zz B (l.take (k + 1))))) := by
                  rw [HE.out, List.length_append]; exact hown'
                have HU3 : Hid (OutsP (fun k => k = wb) w w3) := (((((hout.out.trans (OutsP.of_below HG.out) (fun _ h => .inl h)).alloc _).alloc _).drew).grown hgrow (fun g hg => .inr (HO1.out.lt g hg).1))
                have HW3 : Hid (Wk w3 wb false kb op (us + usL zz (l.take (k + 1))) o) := by
                  rw [HU.out]
                  exact HWK1.out.keep ((hgrow.block wb (by simp <;> omega) (own_ne HO1.out HWK1.out).symm).trans ((Below.heap_alloc _ _ _ (by simp <;> omega)).trans (Below.heap_alloc _ _ _ hw2)))
                obtain ⟨a', c', rfl⟩ := own_slice hown'
                clear hown' hgrow
                go_wp2
                go_roundw
                case rel => exact ⟨k + 1, some ⟨b, off + k * 5, none⟩, 0, by omega, by rw [show l.length - (k + 1) = 0 by omega], by omega, by omega, fun h => absurd h (by omega), HO3, HW3, HU3⟩
                case measure => simp; omega
      · clear hone
        go_wp2
        generalize hW1 : World.alloc wr _ = W1
        have hg : Below wr.heap.size wr W1 := by rw [← hW1]; go_grown
        have hs1 : W1.heap.size = wr.heap.size + 1 := by rw [← hW1]; simp [go_sem]
        have t0 : W1.cell? ⟨wr.heap.size, 0, none⟩ = some (.int .i64 x0) := by rw [← hW1]; simp [go_sem]
        have t1 : W1.cell? ⟨wr.heap.size, 1, none⟩ = some (.int .i64 x1) := by rw [← hW1]; simp [go_sem]
        have t2 : W1.cell? ⟨wr.heap.size, 2, none⟩ = some (.int .i64 x2) := by rw [← hW1]; simp [go_sem]
        have t3 : W1.cell? ⟨wr.heap.size, 3, none⟩ = some (.string x3) := by rw [← hW1]; simp [go_sem]
        have t4 : W1.cell? ⟨wr.heap.size, 4, none⟩ = some (.int .i64 x4) := by rw [← hW1]; simp [go_sem]
        have HO1 : Hid (W1.ownsRow w.heap.size 25 5 u7 E.length (fl E)) := by rw [← hW1]; exact hown.out.alloc _
        clear hW1 hown
        have p1 := (hg.cell (p := ⟨pb, 0, none⟩) hpbr).trans p0
        have k1 := (hg.cell (p := ⟨wb, 1, none⟩) hwbr).trans k0
        have l1 := hmW W1.drew hg.drew
        have l2 := hmW (W1.alloc (.cells #[.bool false, .slice none 0 0, .slice none 0 0] 58)).drew ((hg.alloc (by omega) _).drew)
        have HWK1 := Lib.hid (hwk.out.keep (hg.block wb hwbr))
        clear hmW c0 c1 c2 c3 c4 p0 k0
        have hs2 : wr.heap.size < W1.heap.size := by omega
        have hp2 : pb < W1.heap.size := by omega
        have hw2 : wb < W1.heap.size := by omega
        have HG := Lib.hid hg; have HS1 := Lib.hid hs1; clear hg hs1
        by_cases hx0 : usesB zz ⟨x0, x1, x2, x3, x4⟩ = true
        · obtain ⟨hxa, hxb⟩ := of_decide_eq_true hx0
          simp only at hxa hxb
          have hform := HFORM.out
          rw [hxb, knF, if_pos rfl] at hform
          simp only [lkM, MacD.val] at hform
          injection hform with hform
          simp at hform
          obtain ⟨⟨e1, ⟨e2, e3, e4⟩, ⟨e5, e6, e7⟩⟩, e8⟩ := hform
          subst e1; subst e2; subst e3; subst e4; subst e5; subst e6; subst e7; subst e8; subst hxa
          have HZ := Lib.hid hxb
          clear hxb
          have hex : exF zz B ⟨1, x1, x2, x3, x4⟩ = B.map (put_ x1 x2) := by unfold exF; rw [if_pos hx0]
          have hus1 : usL zz [⟨1, x1, x2, x3, x4⟩] = 1 := by unfold usL; rw [List.filter_cons_of_pos hx0]; rfl
          rw [hex, List.length_map] at hle1
          rw [hus1] at hle2
          rw [hex] at HE
          rw [hus1] at HU
          clear hex hus1 hx0
          have k3 := HWK1.out.c3
          have z3 := HWK1.out.free 3
          have hub0 : 0 ≤ us + (U : Int) := by omega
          have hub1 : us + (U : Int) + 1 ≤ 4000 := by omega
          generalize hun : us + (U : Int) = u at *
          have HUN := Lib.hid hun; clear hun
          go_region
          all_goals
            go_wp2_with fail
            generalize hW3 : World.drew _ = W3
            have HG3 : Hid (OutsP (fun k => k = wb) W1 W3) := by rw [← hW3]; exact (((OutsP.refl (fun k => k = wb) W1).setCell (p := ⟨wb, 3, none⟩) (.inl rfl) _).alloc _).drew
            have HW3 : Hid (Wk W3 wb false kb op (u + 1) o) := by rw [← hW3]; exact ((HWK1.out.set3 (u + 1)).keep (Below.heap_alloc _ _ _ (by simpa [World.setCell] using hw2))).drew
            have HO3 : Hid (W3.ownsRow w.heap.size 25 5 u7 E.length (fl E)) := by rw [← hW3]; exact ((ownsRow_setCell_other HO1.out (a := ⟨wb, 3, none⟩) (own_ne HO1.out HWK1.out) _).alloc _).drew
            clear hW3 t0 t1 t2 t3 t4 p1 k1 l1 l2 k3 z3
            have HU3 : Hid (OutsP (fun k => k = wb) w W3) := (hout.out.trans (OutsP.of_below HG.out) (fun _ h => .inl h)).trans HG3.out (fun _ h => .inl h)
            refine (filled_any B wb bc false ba ⟨1, x1, x2, x3, x4⟩ _ HW3.out.c0 (HB.out.outs HW.out HU3.out) hBl).mono ?_
            rintro e w4 ⟨v4, rfl, hown4, hB4⟩
            have HU4 : Hid (OutsP (fun k => k = wb) w w4) := HU3.out.trans (OutsP.of_below hB4) (fun _ h => .inl h)
            have HW4 := Lib.hid (HW3.out.keep (hB4.block wb HW3.out.lt))
            have HO4 := Lib.hid (own_below HO3.out hB4)
            obtain ⟨a4, c4, rfl⟩ := own_slice hown4
            have HS4 : Hid (Sl w4 5 TkD.enc (.slice a4 B.length c4) (B.map (put_ x1 x2))) := sl_of_own hown4
            have d4 : w4.cell? ⟨db, 0, none⟩ = some (.func (.func 36) #[] #[.pointer (some ⟨pb, 0, none⟩), .pointer (some ⟨db, 0, none⟩)]) := (World.cell?_of_block (a := ⟨db, 0, none⟩) (HU4.out.block db hdb ndb)).trans HD.out
            have HP4 : Hid (w4.cell? ⟨pb, 0, none⟩ = some (.pointer (some ⟨wb, 0, none⟩))) := (World.cell?_of_block (a := ⟨pb, 0, none⟩) (HU4.out.block pb hpb npb)).trans HP.out
            have HM4 := Lib.hid ((HU4.out.block kb hkb nkb).trans HM.out)
            have hBl2 : (B.map (put_ x1 x2)).length ≤ 8192 := by rw [List.length_map]; exact hBl
            have hwsz := HU3.out.size
            clear hown4 hB4
            go_wp2_with fail
            refine (do_plain (B.map (put_ x1 x2)) _ 1 pb db wb kb es clock _ w4 HS4.out hBl2 HP4.out HW4.out.c1 HM4.out HF.out (fun t ht h1 => by
              obtain ⟨y, hy, rfl⟩ := List.mem_map.1 ht
              show knF zz _ y.text = none
              unfold knF
              rw [if_neg (HL.out y hy h1)])).mono ?_
            rintro e w5 ⟨v5, rfl, hown5, hB5⟩
            have HO5 := Lib.hid (own_below HO4.out hB5)
            have HW5 := Lib.hid (HW4.out.keep (hB5.block wb HW4.out.lt))
            have HU5 : Hid (OutsP (fun k => k = wb) w w5) := HU4.out.trans (OutsP.of_below hB5) (fun _ h => .inl h)
            have HS5 := Lib.hid (sl_of_own hown5)
            have HN5 := Lib.hid (sn_of_own hown5)
            have hw5z := HU5.out.size
            clear hown5 hB5 d4
            go_wp2_with (at_builtin; go_must (refine wpList_append_tk rfl _ _ rfl w.heap.size u7 E.length E rfl HO5.out _ (B.map (put_ x1 x2)) rfl HS5.out HN5.out (by rw [List.length_map]; omega) hw5z ?c4))
            case c4 =>
              intro v6 w6 hown6 hgrow
              try rw [List.length_map] at hown6
              have HO6 : Hid (w6.ownsRow w.heap.size 25 5 v6 (exL zz B (l.take (k + 1))).length (fl (exL zz B (l.take (k + 1))))) := by
                rw [HE.out, List.length_append, List.length_map]; exact hown6
              have HU6 : Hid (OutsP (fun k => k = wb) w w6) := HU5.out.grown hgrow (fun g hg => .inr (HO5.out.lt g hg).1)
              have HW6 : Hid (Wk w6 wb false kb op (us + usL zz (l.take (k + 1))) o) := by
                have h1 := HW5.out.keep (hgrow.block wb HW5.out.lt (own_ne HO5.out HW5.out).symm)
                rw [HU.out]
                have h2 : us + ((U + 1 : Nat) : Int) = u + 1 := by have := HUN.out; omega
                rw [h2]; exact h1
              obtain ⟨a6, c6, rfl⟩ := own_slice hown6
              clear hown6 hgrow
              go_wp2
              go_roundw
              case rel => exact ⟨k + 1, _, _, by omega, rfl, by omega, by omega, fun h => ⟨b, off, rfl, by rw [Nat.add_mul, Nat.one_mul, ← Nat.add_assoc]⟩, HO6, HW6, HU6⟩
              case measure => simp; omega
        · have hxf : usesB zz ⟨x0, x1, x2, x3, x4⟩ = false := by simpa using hx0
          have hex : exF zz B ⟨x0, x1, x2, x3, x4⟩ = [⟨x0, x1, x2, x3, x4⟩] := by unfold exF; rw [if_neg hx0]
          have hus1 : usL zz [⟨x0, x1, x2, x3, x4⟩] = 0 := by unfold usL; rw [List.filter_cons_of_neg hx0]; rfl
          have HI : Hid (x0 = 1 → is = false) := fun h => his (by
            unfold knF
            rw [if_neg (fun h2 => hx0 (by unfold usesB; exact decide_eq_true ⟨h, h2⟩))])
          rw [hex] at HE hle1
          rw [hus1] at HU hle2
          simp only [List.length_singleton] at hle1
          clear hex hus1 hx0 hxf his
          go_region
          all_goals
            by_cases hx0 : x0 = 1
            · have hi := HI.out hx0
              subst hx0; subst hi
              clear HI
              go_wp2_with (at_builtin; go_must (refine wpList_append_tk rfl _ _ rfl w.heap.size _ E.length E rfl ((HO1.out.alloc _).alloc _).drew _ [⟨1, x1, x2, x3, x4⟩] rfl (sl_one _ _ (by simp) _ _ _ _ _).drew (sn_some _ _ _) (by simp <;> omega) (by simp <;> omega) ?c4))
              case c4 =>
                intro v' w3 hown' hgrow
                have HO3 : Hid (w3.ownsRow w.heap.size 25 5 v' (exL zz B (l.take (k + 1))).length (fl (exL zz B (l.take (k + 1))))) := by
                  rw [HE.out, List.length_append]; exact hown'
                have HU3 : Hid (OutsP (fun k => k = wb) w w3) := (((((hout.out.trans (OutsP.of_below HG.out) (fun _ h => .inl h)).alloc _).alloc _).drew).grown hgrow (fun g hg => .inr (HO1.out.lt g hg).1))
                have HW3 : Hid (Wk w3 wb false kb op (us + usL zz (l.take (k + 1))) o) := by
                  rw [HU.out]
                  exact HWK1.out.keep ((hgrow.block wb (by simp <;> omega) (own_ne HO1.out HWK1.out).symm).trans ((Below.heap_alloc _ _ _ (by simp <;> omega)).trans (Below.heap_alloc _ _ _ hw2)))
                obtain ⟨a', c', rfl⟩ := own_slice hown'
                clear hown' hgrow
                go_wp2
                go_roundw
                case rel => exact ⟨k + 1, _, _, by omega, rfl, by omega, by omega, fun h => ⟨b, off, rfl, by rw [Nat.add_mul, Nat.one_mul, ← Nat.add_assoc]⟩, HO3, HW3, HU3⟩
                case measure => simp; omega
            · clear HI
              go_wp2_with (at_builtin; go_must (refine wpList_append_tk rfl _ _ rfl w.heap.size _ E.length E rfl ((HO1.out.alloc _).alloc _).drew _ [⟨x0, x1, x2, x3, x4⟩] rfl (sl_one _ _ (by simp) _ _ _ _ _).drew (sn_some _ _ _) (by simp <;> omega) (by simp <;> omega) ?c4))
              case c4 =>
                intro v' w3 hown' hgrow
                have HO3 : Hid (w3.ownsRow w.heap.size 25 5 v' (exL zz B (l.take (k + 1))).length (fl (exL zz B (l.take (k + 1))))) := by
                  rw [HE.out, List.length_append]; exact hown'
                have HU3 : Hid (OutsP (fun k => k = wb) w w3) := (((((hout.out.trans (OutsP.of_below HG.out) (fun _ h => .inl h)).alloc _).alloc _).drew).grown hgrow (fun g hg => .inr (HO1.out.lt g hg).1))
                have HW3 : Hid (Wk w3 wb false kb op (us + usL zz (l.take (k + 1))) o) := by
                  rw [HU.out]
                  exact HWK1.out.keep ((hgrow.block wb (by simp <;> omega) (own_ne HO1.out HWK1.out).symm).trans ((Below.heap_alloc _ _ _ (by simp <;> omega)).trans (Below.heap_alloc _ _ _ hw2)))
                obtain ⟨a', c', rfl⟩ := own_slice hown'
                clear hown' hgrow
                go_wp2
                go_roundw
                case rel => exact ⟨k + 1, _, _, by omega, rfl, by omega, by omega, fun h => ⟨b, off, rfl, by rw [Nat.add_mul, Nat.one_mul, ← Nat.add_assoc]⟩, HO3, HW3, HU3⟩
                case measure => simp; omega
    · go_wp2
      go_ret
      have : k = l.length := by omega
      subst this
      rw [List.take_length] at hown hwk
      exact ⟨_, rfl, hown.out, hwk.out, hout.out⟩
end Go.Proofs.Ytaliplbbmhfenaa
