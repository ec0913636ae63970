/-
  Contract of good's uses. Conditions: the model is laid as data; its expressions may be; the list's places are some.
-/
import Derived.Test.YtblpajbacdbgpaaBA
import Derived.Test.YtblpajbacdbgpaaX
import Derived.ScopeJumps
namespace Go.Proofs.Ytblpajbacdbgpaa
open Go.ChangeShapes Go.WideShapes Go.ChangeAt Go.RowKit Go.Deep Go.Joins
theorem Try.info4 : (Try.prog.info? 4).map (fun i => (i.zero, i.size, i.bytes)) = some (some (.bool false), 1, 1) := by kernel_rfl
theorem own_keep {base : Nat} {w w' : World} {v : Value} {l : List Int} (h : Own base w v l) (hB : Below w.heap.size w w') : Own base w' v l := by
  refine ⟨h.1, ?_⟩
  rcases h.2 with h2 | ⟨g, cap, cur, rfl, hb, hg, r⟩
  · exact .inl h2
  · exact .inr ⟨g, cap, cur, rfl, hb, (hB.block g (Array.getElem?_eq_some_iff.1 hg).1).trans hg, r⟩
theorem wp_scope_head3 {P : Program} {a : Act} {w : World} {Q : Exit → Act → World → Prop} {A B C rest : Code} (l : Nat) (J : Act → World → Prop) (μ : Act → World → Nat)
    (hf : findLabel (A.seq (B.seq (C.seq ((Code.label l).seq rest)))) l = some (Code.skip.seq rest))
    (first : ∀ R : Code, (∀ a w, J a w → R.wp P (Exit.jump l J Q) a w) → (A.seq (B.seq (C.seq ((Code.label l).seq R)))).wp P (Exit.jump l J Q) a w)
    (pass : ∀ a w, J a w → rest.wp P (Exit.jump l (fun a' w' => J a' w' ∧ μ a' w' < μ a w) Q) a w) :
    (Code.scope (A.seq (B.seq (C.seq ((Code.label l).seq rest))))).wp P Q a w := by
  refine wp_scope_jumps l J μ hf (first rest fun a w hJ => wp_mono (pass a w hJ) ?_) (fun a w hJ => wp_seq (wp_skip (pass a w hJ)))
  intro e a' w' h
  cases e with
  | goto l' => exact ⟨h.1, h.2.1⟩
  | normal => exact h
  | exit i => exact h
  | ret => exact h
  | panic c => exact h
  | outgrown => exact h
theorem seen_made {w wm : World} {n : Nat} (h : wm.ownsRow w.heap.size 4 1 (.slice (some ⟨w.heap.size, 0, none⟩) n n) n (madeCells (Value.bool false).cells (n * 1)).toList) : SeenAt wm w.heap.size (List.replicate n false) := by
  rcases h.2 with ⟨h0, _⟩ | ⟨g, cap, cur, h1, -, h3, -, -, h4, h5⟩
  · simp at h0
  · simp only [Value.slice.injEq, Option.some.injEq, Addr.mk.injEq] at h1
    obtain ⟨⟨rfl, -, -⟩, -, rfl⟩ := h1
    unfold SeenAt
    rw [h3]
    have e1 : cur.toList = List.replicate n (.bool false) := by
      have e2 : (madeCells (Value.bool false).cells (n * 1)).toList = List.replicate (n * 1) (.bool false) := toList_madeCells_one _ _
      rw [e2, List.take_of_length_le (by simp; omega)] at h5
      rw [h5, Nat.mul_one]
    have e3 : cur = (List.map Value.bool (List.replicate n false)).toArray := by
      rw [List.map_replicate, ← e1]
    rw [e3]
/-- What holds of the list and the marks wherever the run is at the label. -/
def UsAt (M : MoD) (i run : Int) (w : World) (N : Nat) (R : Bool) (at_ : Nat) (v : Value) (wr : World) : Prop :=
  ∃ (L : List Int) (seen : List Bool), at_ ≤ L.length ∧ L.length + potF M seen ≤ N ∧ seen.length = M.exprs.length ∧ SeenAt wr w.heap.size seen ∧ Own (w.heap.size + 1) wr v L ∧ (∀ k ∈ L, inB M.exprs.length k = true) ∧
    usesF M i run (N - at_ + 1) seen (L.drop at_) = R ∧ Below w.heap.size w wr
def UsJ (M : MoD) (i run : Int) (w : World) (N : Nat) (R : Bool) (b : Nat) (al : Option Addr) (nl cl : Nat) : Act → World → Prop := fun a' wr => ∃ (at_ : Nat) (v : Value), UsAt M i run w N R at_ v wr ∧ ∃ (u12 u13 u14 u15 u16 u17 u18 u19 u20 u21 u22 u23 u24 u25 u26 u27 u28 u29 u30 u31 u32 u33 u34 u35 u36 u37 u38 u39 u40 u41 u42 u43 u44 u45 u46 u47 u48 u49 u50 u51 u52 u53 u54 u55 u56 u57 u58 u59 u60 u61 u62 u63 u64 u65 u66 u67 u68 u69 u70 u71 u72 u73 u74 u75 u76 u77 u78 u79 u80 u81 u82 u83 u84 u85 u86 u87 u88 u89 u90 u91 u92 u93 u94 u95 u96 u97 u98 u99 u100 u101 : Value),
  a' = { tmps := #[.pointer (some ⟨b, 0, none⟩), .int .i64 i, .slice al nl cl, .int .i64 run, undef, undef, undef, undef, .bool false, .slice (some ⟨w.heap.size, 0, none⟩) M.exprs.length M.exprs.length, v, .int .i64 at_, u12, u13, u14, u15, u16, u17, u18, u19, u20, u21, u22, u23, u24, u25, u26, u27, u28, u29, u30, u31, u32, u33, u34, u35, u36, u37, u38, u39, u40, u41, u42, u43, u44, u45, u46, u47, u48, u49, u50, u51, u52, u53, u54, u55, u56, u57, u58, u59, u60, u61, u62, u63, u64, u65, u66, u67, u68, u69, u70, u71, u72, u73, u74, u75, u76, u77, u78, u79, u80, u81, u82, u83, u84, u85, u86, u87, u88, u89, u90, u91, u92, u93, u94, u95, u96, u97, u98, u99, u100, u101], defers := [] }
set_option maxHeartbeats 4000000 in
set_option maxRecDepth 100000 in
theorem uses_any (M : MoD) (w0 : World) (hM : M.ok w0) (b : Nat) (i run : Int) (lv : Value) (l : List Int) (w : World) (hB : Below w0.heap.size w0 w) (hk : Ck w b M) (hX : GoodX M)
    (hi : 0 ≤ i ∧ i < M.procs.length) (hl : Sl w 1 iEnc lv l) (hn : Sn lv) (hlz : l.length ≤ 1048579) (hin : ∀ k ∈ l, inB M.exprs.length k = true) :
    Calls Try.prog 25 #[.pointer (some ⟨b, 0, none⟩), .int .i64 i, lv, .int .i64 run] w fun e w' => e = .returned (.bool (usesF M i run (l.length + potF M (List.replicate M.exprs.length false) + 1) (List.replicate M.exprs.length false) l)) ∧ Below w.heap.size w w' := by
  obtain ⟨i0, hi0, hz0, hz1, hz2⟩ := info_parts Try.info3
  obtain ⟨i4, hi4, hy0, hy1, hy2⟩ := info_parts Try.info4
  have hxz := hM.xz
  have HSL := Lib.hid hl
  have HSN := Lib.hid hn
  have HIN := Lib.hid hin
  obtain ⟨ax, cx, hxv, -, -, hcx⟩ := hM.xv
  have c6 := hk.c6
  have c5 := hk.c5
  rw [hxv] at c6
  have hbl := hk.lt
  have hpot := pot_le M w0 hM (List.replicate M.exprs.length false)
  obtain ⟨N, hN⟩ : ∃ N, N = l.length + potF M (List.replicate M.exprs.length false) := ⟨_, rfl⟩
  have hNz : N ≤ 2300000000000 := by omega
  rw [← hN]
  have HN := Lib.hid hN
  clear hN hpot
  obtain ⟨al, cl, rfl, -, -, -⟩ := hl
  clear hn hin
  obtain ⟨R, hR⟩ : ∃ R, usesF M i run (N + 1) (List.replicate M.exprs.length false) l = R := ⟨_, rfl⟩
  rw [hR]
  have HR := Lib.hid hR
  clear hR
  have HCX := Lib.hid hcx
  have HC6 := Lib.hid c6
  have HC5 := Lib.hid c5
  have HXO := Lib.hid hM.exprs
  clear hcx hxv
  go_enter Try.func25, Try.ntmps25
  go_wp2_with fail
  refine wp_scope_head3 0 (UsJ M i run w N R b al l.length cl) (fun a' _ => N - (intOf (a'.tmps.getD 11 undef)).toNat) rfl ?_ ?_
  · intro RR hRR
    go_wp2_with (with_reducible refine wpList_make_full _ rfl (.tmp 19) (.tmp 19) 65 rfl w.heap.size 4 i4 (.bool false) 1 Try.underlying65 hi4 hy0 hy1 .i64 .i64 M.exprs.length M.exprs.length M.exprs.length rfl rfl rfl rfl (by rw [hy2]; omega) (by unfold maxLen; omega) (Nat.le_refl _) ?_)
    intro wm hmade hgm
    have HS := Lib.hid (seen_made (by rw [Nat.mul_one]; exact hmade))
    have hBm : Below w.heap.size w wm := (Below.refl _ _).grown hgm (Nat.le_refl _) (fun k hk => by cases hk)
    have hgl := HS.out.lt
    have hbm := hBm.size
    clear hmade hgm
    go_wp2_with (at_builtin; refine wpList_append_sl (enc := iEnc) (v := .slice none 0 0) (n := 0) (xs := []) (v2 := .slice al l.length cl) (l2 := l) rfl _ _ 35 rfl (w.heap.size + 1) 3 i0 _ 8 Try.underlying35 hi0 hz0 hz1 hz2 rfl rfl (World.ownsRow_nil _ _ _ _) rfl (HSL.out.keep hBm) HSN.out one_ints (by unfold maxLen; omega) (by omega) hgl ?_)
    intro v' w1 hown hgrow
    have HO : Hid (Own (w.heap.size + 1) w1 v' l) := by
      unfold Hid Own
      simpa using hown
    have hB1 : Below w.heap.size w w1 := hBm.grown hgrow hbm (fun k hk => by cases hk)
    have HS1 : Hid (SeenAt w1 w.heap.size (List.replicate M.exprs.length false)) := (hgrow.block _ hgl (by intro h; cases h)).trans HS.out
    clear hown hgrow
    go_wp2_with fail
    rename_i K hK
    refine wp_label ?_
    refine hK _ _ (hRR _ _ ⟨0, v', ⟨l, _, Nat.zero_le _, by rw [HN.out]; exact Nat.le_refl _, by simp, HS1, HO, HIN.out, HR.out, hB1⟩, _, _, _, _, _, _, _, _, _, _, _, _, _, _, _, _, _, _, _, _, _, _, _, _, _, _, _, _, _, _, _, _, _, _, _, _, _, _, _, _, _, _, _, _, _, _, _, _, _, _, _, _, _, _, _, _, _, _, _, _, _, _, _, _, _, _, _, _, _, _, _, _, _, _, _, _, _, _, _, _, _, _, _, _, _, _, _, _, _, _, rfl⟩)
  · rintro a' wr ⟨at_, v, ⟨L, seen, hat, hLN, hsl, hse, hown, hLin, hres, hBr⟩, u12, u13, u14, u15, u16, u17, u18, u19, u20, u21, u22, u23, u24, u25, u26, u27, u28, u29, u30, u31, u32, u33, u34, u35, u36, u37, u38, u39, u40, u41, u42, u43, u44, u45, u46, u47, u48, u49, u50, u51, u52, u53, u54, u55, u56, u57, u58, u59, u60, u61, u62, u63, u64, u65, u66, u67, u68, u69, u70, u71, u72, u73, u74, u75, u76, u77, u78, u79, u80, u81, u82, u83, u84, u85, u86, u87, u88, u89, u90, u91, u92, u93, u94, u95, u96, u97, u98, u99, u100, u101, rfl⟩
    have hBz := hBr.size
    have hzg := hse.lt
    have HSE := Lib.hid hse
    have HOWN := Lib.hid hown
    have HLIN := Lib.hid hLin
    have HRE := Lib.hid hres
    have hatN : at_ ≤ N := by omega
    clear hse hown hLin hres
    obtain ⟨av0, cv0, rfl, -, -, hcl⟩ := sl_of_own HOWN.out
    have HCL := Lib.hid hcl
    clear hcl
    by_cases hend : at_ = L.length
    · have hR : Hid (R = true) := by
        have := HRE.out
        rw [List.drop_of_length_le (by omega)] at this
        exact this.symm
      have he : ((at_ : Int) == (L.length : Int)) = true := by simp [hend]
      clear hend
      go_wp2_with fail
      simp only [Exit.jump]
      refine bodyPost_ret (v := .bool true) (by simp [results, Try.results25, go_sem]) rfl ⟨retb hR.out.symm, hBr⟩
    · have hlt : at_ < L.length := by omega
      have he : ((at_ : Int) == (L.length : Int)) = false := by simp; omega
      clear hend
      have hka := HLIN.out _ (getD_mem hlt)
      simp only [inB, decide_eq_true_eq] at hka
      obtain ⟨bl, offl, rfl, hbl2, hcl⟩ := HCL.out (by omega)
      have d0 := hcl at_ hlt 0 (by omega)
      simp only [iEnc, Nat.mul_one, Nat.add_zero] at d0
      have HDR : Hid (L.drop at_ = L.getD at_ default :: L.drop (at_ + 1)) := by
        unfold Hid
        rw [List.drop_eq_getElem_cons hlt]
        simp [List.getD_eq_getElem?_getD, hlt]
      clear hcl
      generalize L.getD at_ default = k at *
      obtain ⟨kn, rfl⟩ := Int.eq_ofNat_of_zero_le hka.1
      have hkn : kn < M.exprs.length := by omega
      have hks : kn < seen.length := by omega
      have e1 := HSE.out.cell hks
      have i1 : (0 : Int) ≤ kn := by omega
      have i2 : (kn : Int) < M.exprs.length := by omega
      have i3 : (0 : Int) ≤ at_ := by omega
      have i4' : (at_ : Int) < L.length := by omega
      have ha1 : (at_ : Int) + 1 ≤ 2300000000001 := by omega
      have hfu : N - at_ + 1 = (N - (at_ + 1) + 1) + 1 := by omega
      clear hka
      cases hsk : seen.getD kn false
      · rw [hsk] at e1
        have HPOT := Lib.hid (pot_set M hsl hkn hsk)
        have HSK := Lib.hid hsk
        have HR2 : Hid ((if (badU M i run kn || farU M i kn) = true then false else usesF M i run (N - (at_ + 1) + 1) (seen.set kn true) (L.drop (at_ + 1) ++ heldF (xAt M kn))) = R) := by
          have := HRE.out
          rw [HDR.out, hfu] at this
          unfold usesF at this
          rw [show ((kn : Int).toNat) = kn from rfl, HSK.out, if_neg (by simp)] at this
          exact this
        clear hsk
        have hfz := HSE.out.free kn
        have hxo := HXO.out _ (getD_mem hkn)
        have hXg := hX kn hkn
        have HLIN2 : Hid (∀ q ∈ L ++ heldF (xAt M kn), inB M.exprs.length q = true) := by
          intro q hq
          rw [List.mem_append] at hq
          rcases hq with hq | hq
          · exact HLIN.out q hq
          · have := held_below hXg q hq
            simp only [inB, decide_eq_true_eq] at this ⊢
            omega
        obtain ⟨bx, offx, hax, hbx, hcx2⟩ := HCX.out (by omega)
        have hbxg : bx < w.heap.size := Nat.lt_of_lt_of_le hbx hB.size
        have hBw0 : Below w0.heap.size w0 wr := hB.trans (hBr.mono hB.size)
        have hW2 : Below w.heap.size w (wr.setCell ⟨w.heap.size, kn, none⟩ (.bool true)) := hBr.setCell (Nat.le_refl _) _
        have hS2 := HSE.out.set kn
        have hO2 : Own (w.heap.size + 1) (wr.setCell ⟨w.heap.size, kn, none⟩ (.bool true)) (.slice (some ⟨bl, offl, none⟩) L.length cv0) L := World.ownsRow.kept HOWN.out (grown_setCell _ _ _ _) (.inr (by intro h; have := (HOWN.out.lt _ h).1; omega))
        go_upto_region 10 with fail
        generalize wr.setCell ⟨w.heap.size, kn, none⟩ (.bool true) = W2 at *
        have HO2 := hO2
        have HO2' := Lib.hid hO2
        have HS2 := Lib.hid hS2
        clear e1 d0 hfz hO2 hS2
        have hBw2 := hW2
        have hz2' := hW2.size
        have hBw02 : Below w0.heap.size w0 W2 := hB.trans (hW2.mono hB.size)
        have f0 := (hBw02.cell (p := ⟨bx, offx + kn * 12 + 0, none⟩) hbx).trans (hcx2 kn hkn 0 (by omega))
        have f1 := (hBw02.cell (p := ⟨bx, offx + kn * 12 + 1, none⟩) hbx).trans (hcx2 kn hkn 1 (by omega))
        have f2 := (hBw02.cell (p := ⟨bx, offx + kn * 12 + 2, none⟩) hbx).trans (hcx2 kn hkn 2 (by omega))
        have f3 := (hBw02.cell (p := ⟨bx, offx + kn * 12 + 3, none⟩) hbx).trans (hcx2 kn hkn 3 (by omega))
        have f4 := (hBw02.cell (p := ⟨bx, offx + kn * 12 + 4, none⟩) hbx).trans (hcx2 kn hkn 4 (by omega))
        have f5 := (hBw02.cell (p := ⟨bx, offx + kn * 12 + 5, none⟩) hbx).trans (hcx2 kn hkn 5 (by omega))
        have f6 := (hBw02.cell (p := ⟨bx, offx + kn * 12 + 6, none⟩) hbx).trans (hcx2 kn hkn 6 (by omega))
        have f7 := (hBw02.cell (p := ⟨bx, offx + kn * 12 + 7, none⟩) hbx).trans (hcx2 kn hkn 7 (by omega))
        have f8 := (hBw02.cell (p := ⟨bx, offx + kn * 12 + 8, none⟩) hbx).trans (hcx2 kn hkn 8 (by omega))
        have f9 := (hBw02.cell (p := ⟨bx, offx + kn * 12 + 9, none⟩) hbx).trans (hcx2 kn hkn 9 (by omega))
        have f10 := (hBw02.cell (p := ⟨bx, offx + kn * 12 + 10, none⟩) hbx).trans (hcx2 kn hkn 10 (by omega))
        have f11 := (hBw02.cell (p := ⟨bx, offx + kn * 12 + 11, none⟩) hbx).trans (hcx2 kn hkn 11 (by omega))
        simp only [ExD.enc, Nat.add_zero] at f0 f1 f2 f3 f4 f5 f6 f7 f8 f9 f10 f11
        have c6r := (hW2.cell (p := ⟨b, 6, none⟩) hbl).trans HC6.out
        have c5r := (hW2.cell (p := ⟨b, 5, none⟩) hbl).trans HC5.out
        have hz21 : w.heap.size + 1 ≤ W2.heap.size := HS2.out.lt
        have HXA : Hid (xAt M kn = M.exprs.getD kn default) := rfl
        rw [HXA.out] at HR2 HLIN2 HPOT
        have HBU : Hid (badU M i run kn = (((M.exprs.getD kn default).op == 39 && ((kn : Int) != run)) || ((i == M.claim) && (((M.exprs.getD kn default).op == 31 || (M.exprs.getD kn default).op == 39) || ((M.exprs.getD kn default).op == 2 && (M.exprs.getD kn default).scope == 1))))) := rfl
        have HFU : Hid (farU M i kn = ((M.exprs.getD kn default).op == 2 && decide ((slotsF M i (M.exprs.getD kn default).scope (M.exprs.getD kn default).ty : Int) < reachF (M.exprs.getD kn default).slot (M.exprs.getD kn default).dims))) := rfl
        have HVS := Lib.hid (var_scope hXg)
        clear hcx2 hXg
        generalize M.exprs.getD kn default = x at *
        have HLEN := Lib.hid (held_len x hxo.az hxo.dz)
        have HRC : Hid (∀ W, Below w.heap.size w W → Calls Try.prog 10 #[.agg #[.int .i64 x.scope, .int .i64 x.slot, .int .i64 x.who, .int .i64 x.ty, x.dv]] W fun e w' => e = .returned (.int .i64 (reachF x.slot x.dims)) ∧ Below W.heap.size W w') :=
          fun W hW => reach_any _ _ _ _ _ _ W (hxo.dv.keep (hB.trans (hW.mono hB.size))) hxo.dims
        have HSC : Hid (x.op = 2 → ∀ W, Below w.heap.size w W → Calls Try.prog 33 #[.pointer (some ⟨b, 0, none⟩), .int .i64 i, .agg #[.int .i64 x.scope, .int .i64 x.slot, .int .i64 x.who, .int .i64 x.ty, x.dv]] W fun e w' => e = .returned (.int .i64 (slotsF M i x.scope x.ty)) ∧ Below W.heap.size W w') :=
          fun h2 W hW => slots_any M w0 hM b i _ _ _ _ _ _ W (hB.trans (hW.mono hB.size)) (hk.keep hW) hxo.dv hi (HVS.out h2).1 (HVS.out h2).2
        have HHE : Hid (∀ W, Below w.heap.size w W → Calls Try.prog 22 #[x.val'] W (HeldPost x W)) := fun W hW => held_any x w0 W hxo (hB.trans (hW.mono hB.size))
        obtain ⟨ad, cd, hvd, -, -, -⟩ := hxo.dv
        obtain ⟨aa, ca, hva, -, -, -⟩ := hxo.av
        obtain ⟨am, cm, hvm, -, -, -⟩ := hxo.mv
        rw [hvd] at f9 HRC HSC
        rw [hva] at f10
        rw [hvm] at f11
        unfold ExD.val' at HHE
        rw [hvd, hva, hvm] at HHE
        clear hvd hva hvm hxo
        subst hax
        go_upto_region 11 with fail
        have hBW3 : Below w.heap.size w (W2.alloc (.cells #[.int .i64 x.op, .int .i64 x.n, .int .i64 x.a, .int .i64 x.b, .int .i64 x.c, .int .i64 x.scope, .int .i64 x.slot, .int .i64 x.who, .int .i64 x.ty, .slice ad x.dims.length cd, .slice aa x.args.length ca, .slice am x.mat.length cm] 68)) := hBw2.alloc hz2' _
        have hW3z : W2.heap.size < (W2.alloc (.cells #[.int .i64 x.op, .int .i64 x.n, .int .i64 x.a, .int .i64 x.b, .int .i64 x.c, .int .i64 x.scope, .int .i64 x.slot, .int .i64 x.who, .int .i64 x.ty, .slice ad x.dims.length cd, .slice aa x.args.length ca, .slice am x.mat.length cm] 68)).heap.size := by simp
        have hB23 : Below W2.heap.size W2 (W2.alloc (.cells #[.int .i64 x.op, .int .i64 x.n, .int .i64 x.a, .int .i64 x.b, .int .i64 x.c, .int .i64 x.scope, .int .i64 x.slot, .int .i64 x.who, .int .i64 x.ty, .slice ad x.dims.length cd, .slice aa x.args.length ca, .slice am x.mat.length cm] 68)) := (Below.refl _ _).alloc (Nat.le_refl _) _
        have k0 : (W2.alloc (.cells #[.int .i64 x.op, .int .i64 x.n, .int .i64 x.a, .int .i64 x.b, .int .i64 x.c, .int .i64 x.scope, .int .i64 x.slot, .int .i64 x.who, .int .i64 x.ty, .slice ad x.dims.length cd, .slice aa x.args.length ca, .slice am x.mat.length cm] 68)).cell? ⟨W2.heap.size, 0, none⟩ = some (.int .i64 x.op) := by simp [go_sem]
        have k1 : (W2.alloc (.cells #[.int .i64 x.op, .int .i64 x.n, .int .i64 x.a, .int .i64 x.b, .int .i64 x.c, .int .i64 x.scope, .int .i64 x.slot, .int .i64 x.who, .int .i64 x.ty, .slice ad x.dims.length cd, .slice aa x.args.length ca, .slice am x.mat.length cm] 68)).cell? ⟨W2.heap.size, 1, none⟩ = some (.int .i64 x.n) := by simp [go_sem]
        have k2 : (W2.alloc (.cells #[.int .i64 x.op, .int .i64 x.n, .int .i64 x.a, .int .i64 x.b, .int .i64 x.c, .int .i64 x.scope, .int .i64 x.slot, .int .i64 x.who, .int .i64 x.ty, .slice ad x.dims.length cd, .slice aa x.args.length ca, .slice am x.mat.length cm] 68)).cell? ⟨W2.heap.size, 2, none⟩ = some (.int .i64 x.a) := by simp [go_sem]
        have k3 : (W2.alloc (.cells #[.int .i64 x.op, .int .i64 x.n, .int .i64 x.a, .int .i64 x.b, .int .i64 x.c, .int .i64 x.scope, .int .i64 x.slot, .int .i64 x.who, .int .i64 x.ty, .slice ad x.dims.length cd, .slice aa x.args.length ca, .slice am x.mat.length cm] 68)).cell? ⟨W2.heap.size, 3, none⟩ = some (.int .i64 x.b) := by simp [go_sem]
        have k4 : (W2.alloc (.cells #[.int .i64 x.op, .int .i64 x.n, .int .i64 x.a, .int .i64 x.b, .int .i64 x.c, .int .i64 x.scope, .int .i64 x.slot, .int .i64 x.who, .int .i64 x.ty, .slice ad x.dims.length cd, .slice aa x.args.length ca, .slice am x.mat.length cm] 68)).cell? ⟨W2.heap.size, 4, none⟩ = some (.int .i64 x.c) := by simp [go_sem]
        have k5 : (W2.alloc (.cells #[.int .i64 x.op, .int .i64 x.n, .int .i64 x.a, .int .i64 x.b, .int .i64 x.c, .int .i64 x.scope, .int .i64 x.slot, .int .i64 x.who, .int .i64 x.ty, .slice ad x.dims.length cd, .slice aa x.args.length ca, .slice am x.mat.length cm] 68)).cell? ⟨W2.heap.size, 5, none⟩ = some (.int .i64 x.scope) := by simp [go_sem]
        have k6 : (W2.alloc (.cells #[.int .i64 x.op, .int .i64 x.n, .int .i64 x.a, .int .i64 x.b, .int .i64 x.c, .int .i64 x.scope, .int .i64 x.slot, .int .i64 x.who, .int .i64 x.ty, .slice ad x.dims.length cd, .slice aa x.args.length ca, .slice am x.mat.length cm] 68)).cell? ⟨W2.heap.size, 6, none⟩ = some (.int .i64 x.slot) := by simp [go_sem]
        have k7 : (W2.alloc (.cells #[.int .i64 x.op, .int .i64 x.n, .int .i64 x.a, .int .i64 x.b, .int .i64 x.c, .int .i64 x.scope, .int .i64 x.slot, .int .i64 x.who, .int .i64 x.ty, .slice ad x.dims.length cd, .slice aa x.args.length ca, .slice am x.mat.length cm] 68)).cell? ⟨W2.heap.size, 7, none⟩ = some (.int .i64 x.who) := by simp [go_sem]
        have k8 : (W2.alloc (.cells #[.int .i64 x.op, .int .i64 x.n, .int .i64 x.a, .int .i64 x.b, .int .i64 x.c, .int .i64 x.scope, .int .i64 x.slot, .int .i64 x.who, .int .i64 x.ty, .slice ad x.dims.length cd, .slice aa x.args.length ca, .slice am x.mat.length cm] 68)).cell? ⟨W2.heap.size, 8, none⟩ = some (.int .i64 x.ty) := by simp [go_sem]
        have k9 : (W2.alloc (.cells #[.int .i64 x.op, .int .i64 x.n, .int .i64 x.a, .int .i64 x.b, .int .i64 x.c, .int .i64 x.scope, .int .i64 x.slot, .int .i64 x.who, .int .i64 x.ty, .slice ad x.dims.length cd, .slice aa x.args.length ca, .slice am x.mat.length cm] 68)).cell? ⟨W2.heap.size, 9, none⟩ = some (.slice ad x.dims.length cd) := by simp [go_sem]
        have k10 : (W2.alloc (.cells #[.int .i64 x.op, .int .i64 x.n, .int .i64 x.a, .int .i64 x.b, .int .i64 x.c, .int .i64 x.scope, .int .i64 x.slot, .int .i64 x.who, .int .i64 x.ty, .slice ad x.dims.length cd, .slice aa x.args.length ca, .slice am x.mat.length cm] 68)).cell? ⟨W2.heap.size, 10, none⟩ = some (.slice aa x.args.length ca) := by simp [go_sem]
        have k11 : (W2.alloc (.cells #[.int .i64 x.op, .int .i64 x.n, .int .i64 x.a, .int .i64 x.b, .int .i64 x.c, .int .i64 x.scope, .int .i64 x.slot, .int .i64 x.who, .int .i64 x.ty, .slice ad x.dims.length cd, .slice aa x.args.length ca, .slice am x.mat.length cm] 68)).cell? ⟨W2.heap.size, 11, none⟩ = some (.slice am x.mat.length cm) := by simp [go_sem]
        generalize W2.alloc (.cells #[.int .i64 x.op, .int .i64 x.n, .int .i64 x.a, .int .i64 x.b, .int .i64 x.c, .int .i64 x.scope, .int .i64 x.slot, .int .i64 x.who, .int .i64 x.ty, .slice ad x.dims.length cd, .slice aa x.args.length ca, .slice am x.mat.length cm] 68) = W3 at *
        have c5w := (hBW3.cell (p := ⟨b, 5, none⟩) hbl).trans HC5.out
        clear f0 f1 f2 f3 f4 f5 f6 f7 f8 f9 f10 f11 c6r c5r
        go_cut [85] (fun s85 wx => s85 = .bool (badU M i run kn) ∧ wx = W3)
        case first =>
          have hop4 : ((x.op == 39) = true ∧ (x.op == 31) = false ∧ (x.op == 2) = false) ∨ ((x.op == 39) = false ∧ (x.op == 31) = true ∧ (x.op == 2) = false) ∨ ((x.op == 39) = false ∧ (x.op == 31) = false ∧ (x.op == 2) = true) ∨ ((x.op == 39) = false ∧ (x.op == 31) = false ∧ (x.op == 2) = false) := by
            simp only [beq_iff_eq, beq_eq_false_iff_ne, ne_eq]; omega
          cases q3 : (i == M.claim)
          all_goals
            rcases hop4 with ⟨q1, q4, q5⟩ | ⟨q1, q4, q5⟩ | ⟨q1, q4, q5⟩ | ⟨q1, q4, q5⟩
            · cases q2 : ((kn : Int) != run)
              all_goals
                go_wp2_with fail
                go_meet
                exact ⟨by rw [HBU.out, q1, q2, q3, q4]; rfl, rfl⟩
            · go_wp2_with fail
              go_meet
              exact ⟨by rw [HBU.out, q1, q3, q4]; rfl, rfl⟩
            · cases q6 : (x.scope == 1)
              all_goals
                go_wp2_with fail
                go_meet
                exact ⟨by rw [HBU.out, q1, q3, q4, q5, q6]; rfl, rfl⟩
            · go_wp2_with fail
              go_meet
              exact ⟨by rw [HBU.out, q1, q3, q4, q5]; rfl, rfl⟩
        case rest =>
          obtain ⟨rfl, hwc⟩ := hcut
          subst hwc
          have hDA : Hid (L.drop (at_ + 1) ++ heldF x = (L ++ heldF x).drop (at_ + 1)) := (List.drop_append_of_le_length (by omega)).symm
          cases hbad : badU M i run kn
          · rw [hbad, Bool.false_or] at HR2
            clear hbad
            cases q5 : (x.op == 2)
            · have HRES : Hid (usesF M i run (N - (at_ + 1) + 1) (seen.set kn true) ((L ++ heldF x).drop (at_ + 1)) = R) := by
                have := HR2.out
                rw [HFU.out, q5, Bool.false_and, if_neg (by simp), hDA.out] at this
                exact this
              have hB24 := hB23
              have hBw4 := hBW3
              have hO4 := own_keep HO2 hB24
              have HOW := Lib.hid hO4
              clear hO4
              go_wp2_with fail
              (with_reducible refine (HHE.out _ hBw4).mono ?_)
              rintro e w5 ⟨v2, rfl, hown2, hB5⟩
              have HV2 := Lib.hid hown2
              have hsz5 := hB5.size
              have hsz24 := hB24.size
              clear hown2
              obtain ⟨a2, c2, rfl⟩ := own_shape HV2.out
              have hlz2 : (heldF x).length ≤ 2097156 := HLEN.out
              have hLz : L.length ≤ 2300000000000 := by omega
              go_wp2_with (at_builtin; refine wpList_append_sl (enc := iEnc) (v := .slice (some ⟨bl, offl, none⟩) L.length cv0) (n := L.length) (xs := L.map fun y => iEnc y 0) (v2 := .slice a2 (heldF x).length c2) (l2 := heldF x) rfl _ _ 35 rfl (w.heap.size + 1) 3 i0 _ 8 Try.underlying35 hi0 hz0 hz1 hz2 rfl rfl (own_keep HOW.out hB5) rfl (sl_of_own HV2.out) (sn_of_own HV2.out) one_ints (by unfold maxLen; omega) (by omega) (by omega) ?_)
              intro v' w6 hown' hgrow
              have HO6 : Hid (Own (w.heap.size + 1) w6 v' (L ++ heldF x)) := by
                unfold Hid Own
                rw [List.length_append, List.map_append]
                exact hown'
              have hB6 : Below (w.heap.size + 1) W2 w6 := (hB24.mono hz21).trans ((hB5.mono (by omega)).grown hgrow (by omega) (fun k' hk' => (HOW.out.lt k' hk').1))
              have hB7 : Below w.heap.size w w6 := hBw2.trans (hB6.mono (by omega))
              have HS6 : Hid (SeenAt w6 w.heap.size (seen.set kn true)) := HS2.out.keep hB6
              clear hown' hgrow
              go_wp2_with fail
              go_step3
              refine ⟨rfl, ⟨at_ + 1, v', ⟨L ++ heldF x, seen.set kn true, by rw [List.length_append]; omega, by have := HPOT.out; rw [List.length_append]; omega, by rw [List.length_set]; exact hsl, HS6.out, HO6.out, HLIN2.out, HRES.out, hB7⟩, _, _, _, _, _, _, _, _, _, _, _, _, _, _, _, _, _, _, _, _, _, _, _, _, _, _, _, _, _, _, _, _, _, _, _, _, _, _, _, _, _, _, _, _, _, _, _, _, _, _, _, _, _, _, _, _, _, _, _, _, _, _, _, _, _, _, _, _, _, _, _, _, _, _, _, _, _, _, _, _, _, _, _, _, _, _, _, _, _, _, rfl⟩, ?_⟩
              simp [intOf]; omega
            · have q5e : x.op = 2 := by simpa using q5
              have HSC2 := Lib.hid (HSC.out q5e)
              clear q5e
              cases hfar : decide ((slotsF M i x.scope x.ty : Int) < reachF x.slot x.dims)
              all_goals
                go_upto_region 14 with fail
                have l5 : ∀ n : Wd (Sb wc), n.w.cell? ⟨W2.heap.size, 5, none⟩ = _ := fun n => n.cell hW3z k5
                have l6 : ∀ n : Wd (Sb wc), n.w.cell? ⟨W2.heap.size, 6, none⟩ = _ := fun n => n.cell hW3z k6
                have l7 : ∀ n : Wd (Sb wc), n.w.cell? ⟨W2.heap.size, 7, none⟩ = _ := fun n => n.cell hW3z k7
                have l8 : ∀ n : Wd (Sb wc), n.w.cell? ⟨W2.heap.size, 8, none⟩ = _ := fun n => n.cell hW3z k8
                have l9 : ∀ n : Wd (Sb wc), n.w.cell? ⟨W2.heap.size, 9, none⟩ = _ := fun n => n.cell hW3z k9
                refine wp_region_quiet_cls (S := Sb wc) (by kernel_rfl) (by kernel_rfl) (Below.refl _ _).drew ?_
                repeat (go_big_quiet_step (first | (go_at_call 10; exact Wd.call _ (HRC.out _ (hBW3.trans (Below.mono (Wd.h _) hBW3.size)))) | (go_at_call 33; exact Wd.call _ (HSC2.out _ (hBW3.trans (Below.mono (Wd.h _) hBW3.size))))))
                refine wpQuiet_nil ?_
                intro w4 hw4
                have hB34 : Below wc.heap.size wc w4 := Wd.out hw4
                clear l5 l6 l7 l8 l9 hw4
                have hBw4 : Below w.heap.size w w4 := hBW3.trans (hB34.mono hBW3.size)
              · have HRES : Hid (usesF M i run (N - (at_ + 1) + 1) (seen.set kn true) ((L ++ heldF x).drop (at_ + 1)) = R) := by
                  have := HR2.out
                  rw [HFU.out, q5, hfar, Bool.true_and, if_neg (by simp), hDA.out] at this
                  exact this
                have hB24 : Below W2.heap.size W2 w4 := hB23.trans (hB34.mono (by omega))
                have r0 := (hB34.cell (p := ⟨W2.heap.size, 0, none⟩) hW3z).trans k0
                have r1 := (hB34.cell (p := ⟨W2.heap.size, 1, none⟩) hW3z).trans k1
                have r2 := (hB34.cell (p := ⟨W2.heap.size, 2, none⟩) hW3z).trans k2
                have r3 := (hB34.cell (p := ⟨W2.heap.size, 3, none⟩) hW3z).trans k3
                have r4 := (hB34.cell (p := ⟨W2.heap.size, 4, none⟩) hW3z).trans k4
                have r5 := (hB34.cell (p := ⟨W2.heap.size, 5, none⟩) hW3z).trans k5
                have r6 := (hB34.cell (p := ⟨W2.heap.size, 6, none⟩) hW3z).trans k6
                have r7 := (hB34.cell (p := ⟨W2.heap.size, 7, none⟩) hW3z).trans k7
                have r8 := (hB34.cell (p := ⟨W2.heap.size, 8, none⟩) hW3z).trans k8
                have r9 := (hB34.cell (p := ⟨W2.heap.size, 9, none⟩) hW3z).trans k9
                have r10 := (hB34.cell (p := ⟨W2.heap.size, 10, none⟩) hW3z).trans k10
                have r11 := (hB34.cell (p := ⟨W2.heap.size, 11, none⟩) hW3z).trans k11
                have hO4 := own_keep HO2 hB24
                have HOW := Lib.hid hO4
                clear hO4
                go_wp2_with fail
                (with_reducible refine (HHE.out _ hBw4).mono ?_)
                rintro e w5 ⟨v2, rfl, hown2, hB5⟩
                have HV2 := Lib.hid hown2
                have hsz5 := hB5.size
                have hsz24 := hB24.size
                clear hown2
                obtain ⟨a2, c2, rfl⟩ := own_shape HV2.out
                have hlz2 : (heldF x).length ≤ 2097156 := HLEN.out
                have hLz : L.length ≤ 2300000000000 := by omega
                go_wp2_with (at_builtin; refine wpList_append_sl (enc := iEnc) (v := .slice (some ⟨bl, offl, none⟩) L.length cv0) (n := L.length) (xs := L.map fun y => iEnc y 0) (v2 := .slice a2 (heldF x).length c2) (l2 := heldF x) rfl _ _ 35 rfl (w.heap.size + 1) 3 i0 _ 8 Try.underlying35 hi0 hz0 hz1 hz2 rfl rfl (own_keep HOW.out hB5) rfl (sl_of_own HV2.out) (sn_of_own HV2.out) one_ints (by unfold maxLen; omega) (by omega) (by omega) ?_)
                intro v' w6 hown' hgrow
                have HO6 : Hid (Own (w.heap.size + 1) w6 v' (L ++ heldF x)) := by
                  unfold Hid Own
                  rw [List.length_append, List.map_append]
                  exact hown'
                have hB6 : Below (w.heap.size + 1) W2 w6 := (hB24.mono hz21).trans ((hB5.mono (by omega)).grown hgrow (by omega) (fun k' hk' => (HOW.out.lt k' hk').1))
                have hB7 : Below w.heap.size w w6 := hBw2.trans (hB6.mono (by omega))
                have HS6 : Hid (SeenAt w6 w.heap.size (seen.set kn true)) := HS2.out.keep hB6
                clear hown' hgrow
                go_wp2_with fail
                go_step3
                refine ⟨rfl, ⟨at_ + 1, v', ⟨L ++ heldF x, seen.set kn true, by rw [List.length_append]; omega, by have := HPOT.out; rw [List.length_append]; omega, by rw [List.length_set]; exact hsl, HS6.out, HO6.out, HLIN2.out, HRES.out, hB7⟩, _, _, _, _, _, _, _, _, _, _, _, _, _, _, _, _, _, _, _, _, _, _, _, _, _, _, _, _, _, _, _, _, _, _, _, _, _, _, _, _, _, _, _, _, _, _, _, _, _, _, _, _, _, _, _, _, _, _, _, _, _, _, _, _, _, _, _, _, _, _, _, _, _, _, _, _, _, _, _, _, _, _, _, _, _, _, _, _, _, _, rfl⟩, ?_⟩
                simp [intOf]; omega
              · have HRF : Hid (R = false) := by
                  have := HR2.out
                  rw [HFU.out, q5, hfar, Bool.true_and, if_pos rfl] at this
                  exact this.symm
                go_wp2_with fail
                simp only [Exit.jump]
                refine bodyPost_ret (v := .bool false) (by simp [results, Try.results25, go_sem]) rfl ⟨retb HRF.out.symm, hBw4⟩
          · have HRF : Hid (R = false) := by
              have := HR2.out
              rw [hbad, Bool.true_or, if_pos rfl] at this
              exact this.symm
            clear hbad
            go_wp2_with fail
            simp only [Exit.jump]
            refine bodyPost_ret (v := .bool false) (by simp [results, Try.results25, go_sem]) rfl ⟨retb HRF.out.symm, hBW3⟩
      · rw [hsk] at e1
        have HR2 : Hid (usesF M i run (N - (at_ + 1) + 1) seen (L.drop (at_ + 1)) = R) := by
          have := HRE.out
          rw [HDR.out, hfu] at this
          unfold usesF at this
          rw [show ((kn : Int).toNat) = kn from rfl, hsk, if_pos rfl] at this
          exact this
        clear hsk
        go_wp2_with fail
        go_step3
        refine ⟨rfl, ⟨at_ + 1, _, ⟨L, seen, by omega, hLN, hsl, HSE.out, HOWN.out, HLIN.out, HR2.out, hBr⟩, _, _, _, _, _, _, _, _, _, _, _, _, _, _, _, _, _, _, _, _, _, _, _, _, _, _, _, _, _, _, _, _, _, _, _, _, _, _, _, _, _, _, _, _, _, _, _, _, _, _, _, _, _, _, _, _, _, _, _, _, _, _, _, _, _, _, _, _, _, _, _, _, _, _, _, _, _, _, _, _, _, _, _, _, _, _, _, _, _, _, rfl⟩, ?_⟩
        simp [intOf]; omega
end Go.Proofs.Ytblpajbacdbgpaa
