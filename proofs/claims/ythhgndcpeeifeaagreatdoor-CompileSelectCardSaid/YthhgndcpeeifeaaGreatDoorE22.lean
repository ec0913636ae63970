/- Part of the proof of CompileForCardSaid. -/
import Derived.Test.YthhgndcpeeifeaaGreatDoorE21
import Derived.ScopeJumps
set_option linter.unusedVariables false
set_option linter.unusedSimpArgs false
set_option linter.unusedSectionVars false
set_option linter.constructorNameAsVariable false
namespace Go.Proofs.Lx6
open Go.ChangeShapes Go.WideShapes Go.ChangeAt Go.RowKit
/-- What holds of the numbers and of memory wherever the run is at the label. -/
def TksAt (s : ByteArray) (w : World) (R : Int × Int) (a ln : Nat) (v : Value) (wr : World) : Prop :=
  ∃ (f : Nat) (pts : List (Nat × Nat)), a ≤ s.size ∧ pts.length ≤ 8191 ∧ ln ≤ a + 1 ∧ s.size < a + f ∧ Path s.data.toList pts a ln ∧ wr.ownsRow (w.heap.size + 1) 164 5 v pts.length (pts.flatMap (tokC s.data.toList)) ∧ R = toksE s.data.toList f a pts.length ∧
    Below (w.heap.size + 1) (w.alloc (.cells (marksL.map fun l => Value.string ⟨l.toArray⟩).toArray 9)) wr
def TksJ (s : ByteArray) (w : World) (R : Int × Int) : Act → World → Prop := fun a' wr => ∃ (a ln : Nat) (v : Value), TksAt s w R a ln v wr ∧ ∃ (u1 u9 u10 u11 u12 u13 u14 u15 u16 u17 u18 u19 u20 u21 u22 u23 u24 u25 u26 u27 u28 u29 u30 u31 u32 u33 u34 u35 u36 u37 u38 u39 u40 u41 u42 u43 u44 u45 u46 u47 u48 u49 u50 u51 u52 u53 u54 u55 u56 u57 u58 u59 u60 u61 u62 u63 u64 u65 u66 u67 u68 u69 u70 u71 u72 u73 u74 u75 u76 u77 : Value), a' = { tmps := #[.string s, u1, .slice none 0 0, .int .i64 0, .int .i64 0, v, .slice (some ⟨w.heap.size, 0, none⟩) 41 41, .int .i64 a, .int .i64 ln, u9, u10, u11, u12, u13, u14, u15, u16, u17, u18, u19, u20, u21, u22, u23, u24, u25, u26, u27, u28, u29, u30, u31, u32, u33, u34, u35, u36, u37, u38, u39, u40, u41, u42, u43, u44, u45, u46, u47, u48, u49, u50, u51, u52, u53, u54, u55, u56, u57, u58, u59, u60, u61, u62, u63, u64, u65, u66, u67, u68, u69, u70, u71, u72, u73, u74, u75, u76, u77], defers := [] }
def marksS : List UInt8 := [33,33,32,63,63,32,45,62,32,58,58,32,43,43,32,45,45,32,60,60,32,62,62,32,60,61,32,62,61,32,61,61,32,33,61,32,38,38,32,124,124,32,46,46,32,33,32,63,32,60,32,62,32,61,32,43,32,45,32,42,32,47,32,37,32,38,32,124,32,94,32,126,32,40,32,41,32,91,32,93,32,123,32,125,32,44,32,59,32,58,32,46,32,64,32,35]
theorem marksS_ascii : ∀ b ∈ marksS, b.toNat < 128 := by decide +kernel
set_option maxHeartbeats 4000000 in
set_option maxRecDepth 20000 in
theorem tokens_some (s : ByteArray) (m : Int) (w : World) (hs : s.size ≤ 65535) (hm : w.cell? ⟨4, 0, none⟩ = some (.int .i64 m)) (htab : Lib.TabIs Tryz.prog w "strings.asciiSpace" .u8 Lib.asciiSpaceTab) (R : Int × Int) (HR : Hid (toksE s.data.toList (s.size + 1) 0 0 = R)) :
    Calls Tryz.prog 25 #[.string s] w (TksPost s.data.toList R w) := by
  have hlen : Hid (s.data.toList.length = s.size) := rfl
  have hsi : (s.size : Int) ≤ 65535 := by omega
  obtain ⟨i0, hi, hz0, hz1, hz2⟩ := info_parts Tryz.info164
  have HF : Hid (∀ t : ByteArray, t.data.toList = marksS → Calls Tryz.prog 55 #[.string t] w fun e w' => e = .returned (.slice (some ⟨w.heap.size, 0, none⟩) 41 41) ∧ w' = w.alloc (.cells (marksL.map fun l => Value.string ⟨l.toArray⟩).toArray 9)) := by
    intro t ht
    have h := Tryz.strings_Fields t w (by show t.data.toList.length < _; rw [ht]; decide) (fun j b hj => marksS_ascii b (by rw [ht] at hj; exact List.mem_of_getElem? hj)) htab
    rw [ht, show Lib.fields marksS = marksL from fields_marks] at h
    exact h
  clear htab
  have HM := Lib.hid hm; clear hm
  go_enter Tryz.func25, Tryz.ntmps25
  go_wp2_with fail
  refine wp_scope_head 0 (TksJ s w R) (fun a' _ => s.size - (intOf (a'.tmps.getD 7 undef)).toNat) rfl ?_ ?_
  · intro RR hRR
    go_wp2_with fail
    refine (HF.out _ (by decide +kernel)).mono ?_
    rintro e w1 ⟨rfl, hw1⟩
    have h1 := Lib.hid hw1; clear hw1
    go_wp2_with fail
    rename_i K hK
    refine wp_label ?_
    refine hK _ _ (hRR _ _ ⟨0, 1, _, ⟨s.size + 1, [], by omega, by show 0 ≤ 8191; omega, by omega, by omega, .nil, World.ownsRow_nil _ _ _ _, HR.out.symm, by rw [h1.out]; exact Below.refl _ _⟩, _, _, _, _, _, _, _, _, _, _, _, _, _, _, _, _, _, _, _, _, _, _, _, _, _, _, _, _, _, _, _, _, _, _, _, _, _, _, _, _, _, _, _, _, _, _, _, _, _, _, _, _, _, _, _, _, _, _, _, _, _, _, _, _, _, _, _, _, _, _, rfl⟩)
  · rintro a' wr ⟨a, ln, v, ⟨f, pts, ha, hc, hln, hf, hpath, hown, hR, hB⟩, u1, u9, u10, u11, u12, u13, u14, u15, u16, u17, u18, u19, u20, u21, u22, u23, u24, u25, u26, u27, u28, u29, u30, u31, u32, u33, u34, u35, u36, u37, u38, u39, u40, u41, u42, u43, u44, u45, u46, u47, u48, u49, u50, u51, u52, u53, u54, u55, u56, u57, u58, u59, u60, u61, u62, u63, u64, u65, u66, u67, u68, u69, u70, u71, u72, u73, u74, u75, u76, u77, rfl⟩
    have hsz0 : w.heap.size + 1 ≤ wr.heap.size := by have := hB.size; simpa [go_sem] using this
    have hBw : Below w.heap.size w wr := ((Below.refl _ w).alloc (Nat.le_refl _) _).trans (hB.mono (by omega))
    have hmb := World.block_lt_of_cell? w _ HM.out
    have HMR : Hid (wr.cell? ⟨4, 0, none⟩ = some (.int .i64 m)) := (bcell hBw _ _ hmb).trans HM.out
    have HKR : Hid (∀ i, i < 41 → wr.cell? ⟨w.heap.size, i, none⟩ = some (.string ⟨(marksL.getD i []).toArray⟩)) := fun i h => (hB.cell (p := ⟨w.heap.size, i, none⟩) (by show w.heap.size < w.heap.size + 1; omega)).trans (marks_cell w i h)
    obtain ⟨ao, cap, rfl⟩ := own_shape hown
    have HO := Lib.hid hown; clear hown
    have HP := Lib.hid hpath; clear hpath
    have HR2 := Lib.hid hR; clear hR
    have HBX := Lib.hid hB; clear hB
    clear hmb
    by_cases hlt : a < s.size
    · obtain ⟨f, rfl⟩ : ∃ f', f = f' + 1 := ⟨f - 1, by omega⟩
      have hai : ((a : Int) == s.size) = false := by rw [beq_eq_false_iff_ne]; omega
      have hai2 : (a : Int) ≤ s.size := by omega
      have hbt := Lib.hid (bt_eq s a hlt)
      have hby := byte_le s a hlt
      have HBK : Hid (∀ W : World, W.cell? ⟨4, 0, none⟩ = some (.int .i64 m) → Calls Tryz.prog 56 #[.string (s.extract a s.size)] W fun e w' => e = .returned (pbV (blankF (s[a].toNat : Int) s.data.toList a)) ∧ W = w') := by
        intro W hW
        have hsz : (s.extract a s.size).size = s.size - a := by simp
        have h := pblank_any (s.extract a s.size) m W (by omega) (by omega) hW
        have e0 : ((s.extract a s.size)[0]'(by omega)) = s[a] := by
          rw [← getb _ 0 (by omega), ← getb s a hlt, Lib.extract_to_end s a]
          simp [List.getD_eq_getElem?_getD]
        rw [e0, Lib.extract_to_end s a, blankF_drop] at h
        exact h
      cases hbl : blankF (s[a].toNat : Int) s.data.toList a with
      | none =>
        have H3 : Hid (R = ((3 : Int), (a : Int))) := HR2.out.trans (toksE_none (by rw [hlen.out]; exact hlt) (by rw [hbt.out]; exact hbl))
        have HBL := Lib.hid hbl; clear hbl
        go_wp2_with fail
        refine (HBK.out _ HMR.out).mono ?_
        rintro e w1 ⟨rfl, rfl⟩
        rw [HBL.out]
        simp only [pbV]
        go_wp2_with fail
        simp only [Exit.jump]
        refine bodyPost_ret (v := .tuple #[.slice none 0 0, .int .i64 3, .int .i64 a]) (by simp [results, Tryz.results25, go_sem]) rfl ?_
        refine ⟨.inl ⟨by rw [H3.out]; show (3 : Int) ≠ 0; decide, by rw [H3.out]⟩, hBw⟩
      | some p =>
        obtain ⟨n, k⟩ := p
        have hle := blankF_le hbl (by rw [hlen.out]; exact hlt)
        rw [hlen.out] at hle
        obtain ⟨hle1, hle2⟩ := hle
        cases n with
        | succ n =>
          have H3 : Hid (R = toksE s.data.toList f (a + (n + 1)) pts.length) := HR2.out.trans (toksE_blank (by rw [hlen.out]; exact hlt) (by rw [hbt.out]; exact hbl))
          have HP2 : Hid (Path s.data.toList pts (a + (n + 1)) (ln + k)) := Path.blank HP.out (by rw [hlen.out]; exact hlt) (by rw [hbt.out]; exact hbl)
          have HBL := Lib.hid hbl; clear hbl
          go_wp2_with fail
          refine (HBK.out _ HMR.out).mono ?_
          rintro e w1 ⟨rfl, rfl⟩
          rw [HBL.out]
          simp only [pbV]
          go_wp2_with fail
          go_step3
          refine ⟨rfl, ⟨a + (n + 1), ln + k, _, ⟨f, pts, by omega, hc, by omega, by omega, HP2.out, HO.out, H3.out, HBX.out⟩, _, _, _, _, _, _, _, _, _, _, _, _, _, _, _, _, _, _, _, _, _, _, _, _, _, _, _, _, _, _, _, _, _, _, _, _, _, _, _, _, _, _, _, _, _, _, _, _, _, _, _, _, _, _, _, _, _, _, _, _, _, _, _, _, _, _, _, _, _, _, rfl⟩, ?_⟩
          simp [intOf]; omega
        | zero =>
          have hTE := @toksE_bad s.data.toList f a pts.length k (by rw [hlen.out]; exact hlt) (by rw [hbt.out]; exact hbl)
          have hTM := @toksE_many s.data.toList f a k (by rw [hlen.out]; exact hlt) (by rw [hbt.out]; exact hbl)
          have hTT := @toksE_tok s.data.toList f a pts.length k (by rw [hlen.out]; exact hlt) (by rw [hbt.out]; exact hbl)
          have hG := @nextF_good s.data.toList a (by rw [hlen.out]; exact hlt)
          have hTP := Path.tok (k := k) HP.out (by rw [hlen.out]; exact hlt) (by rw [hbt.out]; exact hbl)
          have htc : tokC s.data.toList (a, ln) = [.int .i64 (nextF s.data.toList a).kind, .int .i64 a, .int .i64 ln, .string ⟨(nextF s.data.toList a).text.toArray⟩, .int .i64 (nextF s.data.toList a).n] := rfl
          have HNX := Lib.hid (token_any s a w.heap.size m wr hlt hs HMR.out HKR.out)
          have HBL := Lib.hid hbl; clear hbl
          generalize nextF s.data.toList a = r at *
          by_cases he : r.e = 0
          · have hG2 := hG he
            obtain ⟨hg1, hg2, hg3⟩ := hG2
            have hg4 : r.text.length ≤ r.len := by rcases hg3 with ⟨_, _, h⟩ | ⟨_, _, h, _⟩ <;> omega
            clear hg3
            rw [hlen.out] at hg2
            by_cases hc8 : pts.length = 8191
            · have H3 : Hid (R = ((8 : Int), (a : Int))) := HR2.out.trans (by rw [hc8]; exact hTM he)
              have hc9 : ((pts.length : Int) == 8191) = true := by rw [hc8]; rfl
              clear hTE hTM hTT hG hTP hc8
              go_wp2_with fail
              refine (HBK.out _ HMR.out).mono ?_
              rintro e w1 ⟨rfl, rfl⟩
              rw [HBL.out]
              simp only [pbV]
              go_wp2_with fail
              refine HNX.out.mono ?_
              rintro e w1 ⟨⟨k1, n1, en, tx, rfl, hen⟩, hB1⟩
              clear hen
              rw [he]
              have hs1 := hB1.size
              go_wp2_with fail
              simp only [Exit.jump]
              refine bodyPost_ret (v := .tuple #[.slice none 0 0, .int .i64 8, .int .i64 a]) (by simp [results, Tryz.results25, go_sem]) rfl ?_
              refine ⟨.inl ⟨by rw [H3.out]; show (8 : Int) ≠ 0; decide, by rw [H3.out]⟩, (hBw.trans (hB1.mono (by omega))).alloc (by omega) _⟩
            · have H3 : Hid (R = toksE s.data.toList f (a + r.len) (pts.length + 1)) := HR2.out.trans (hTT he hc8)
              have HP2 := Lib.hid (hTP he)
              have hc9 : ((pts.length : Int) == 8191) = false := by rw [beq_eq_false_iff_ne]; omega
              have hc7 : pts.length < 8191 := by omega
              clear hTE hTM hTT hG hTP
              go_wp2_with fail
              refine (HBK.out _ HMR.out).mono ?_
              rintro e w1 ⟨rfl, rfl⟩
              rw [HBL.out]
              simp only [pbV]
              go_wp2_with fail
              refine HNX.out.mono ?_
              rintro e w1 ⟨⟨k1, n1, en, tx, rfl, hen⟩, hB1⟩
              obtain ⟨rfl, rfl, rfl, rfl⟩ := hen he
              clear hen
              rw [he]
              have hs1 := hB1.size
              have HO1 := Lib.hid (own_below HO.out hB1)
              go_wp2_with fail
              refine (clone_any _ _ ?x1).mono ?_
              case x1 => show r.text.length ≤ _; omega
              rintro e w2 ⟨rfl, hB2⟩
              have hs2 : w1.heap.size < w2.heap.size := by have := hB2.size; simp [go_sem] at this; omega
              have hs3 : w1.heap.size ≤ w2.heap.size := Nat.le_of_lt hs2
              have c0 : w2.cell? ⟨w1.heap.size, 0, none⟩ = some (.int .i64 r.kind) := (hB2.cell (p := ⟨w1.heap.size, 0, none⟩) (by simp [go_sem])).trans (by simp [go_sem])
              have c1 : w2.cell? ⟨w1.heap.size, 1, none⟩ = some (.int .i64 a) := (hB2.cell (p := ⟨w1.heap.size, 1, none⟩) (by simp [go_sem])).trans (by simp [go_sem])
              have c2 : w2.cell? ⟨w1.heap.size, 2, none⟩ = some (.int .i64 ln) := (hB2.cell (p := ⟨w1.heap.size, 2, none⟩) (by simp [go_sem])).trans (by simp [go_sem])
              have c3 : w2.cell? ⟨w1.heap.size, 3, none⟩ = some (.string ⟨r.text.toArray⟩) := (hB2.cell (p := ⟨w1.heap.size, 3, none⟩) (by simp [go_sem])).trans (by simp [go_sem])
              have c4 : w2.cell? ⟨w1.heap.size, 4, none⟩ = some (.int .i64 r.n) := (hB2.cell (p := ⟨w1.heap.size, 4, none⟩) (by simp [go_sem])).trans (by simp [go_sem])
              have hfz : ∀ j, w2.frozen? ⟨w1.heap.size, j, none⟩ = false := fun j => (hB2.frozen (p := ⟨w1.heap.size, j, none⟩) (by simp [go_sem])).trans (by simp [go_sem])
              have hB3 : Below w1.heap.size w1 w2 := Below.trans (by go_grown) (hB2.mono (by simp [go_sem]))
              have HBY := Lib.hid (show Below (w.heap.size + 1) (w.alloc (.cells (marksL.map fun l => Value.string ⟨l.toArray⟩).toArray 9)) w1 from HBX.out.trans (hB1.mono hsz0))
              have hsz1 : w.heap.size + 1 ≤ w1.heap.size := by omega
              clear hB2
              go_wp2_with (at_builtin; refine wpList_append_own _ rfl (.tmp 73) (.tmp 75) 76 rfl (w.heap.size + 1) 164 i0 _ 5 48 Tryz.underlying76 hi hz0 hz1 hz2 rfl (by decide) _ pts.length (pts.flatMap (tokC s.data.toList)) rfl (own_below HO1.out (by go_grown)) ⟨_, 0, none⟩ 1 1 [.int .i64 r.kind, .int .i64 a, .int .i64 ln, .string ⟨r.text.toArray⟩, .int .i64 r.n] rfl rfl ?d1 ?d2 ?d3 ?d4 ?d5 ?_)
              case d1 => exact alloc_cells (by simp [go_sem]) _ 164
              case d2 => exact tok_one
              case d3 => unfold maxLen; omega
              case d4 => omega
              case d5 => simp [go_sem]; omega
              intro v' w3 hown' hgrow _
              have hB4 : Below (w.heap.size + 1) (w.alloc (.cells (marksL.map fun l => Value.string ⟨l.toArray⟩).toArray 9)) w3 := below_grown HBY.out hsz1 HO1.out (by go_grown) hgrow
              have HO3 : Hid (w3.ownsRow (w.heap.size + 1) 164 5 v' (pts ++ [(a, ln)]).length ((pts ++ [(a, ln)]).flatMap (tokC s.data.toList))) := by
                have e1 : (pts ++ [(a, ln)]).length = pts.length + 1 := by simp
                have e2 : (pts ++ [(a, ln)]).flatMap (tokC s.data.toList) = pts.flatMap (tokC s.data.toList) ++ [.int .i64 r.kind, .int .i64 a, .int .i64 ln, .string ⟨r.text.toArray⟩, .int .i64 r.n] := by
                  rw [List.flatMap_append, ← htc]; simp
                rw [e1, e2]; exact hown'
              have HBZ := Lib.hid hB4
              clear hown' hgrow hB4 hB3 hB1 c0 c1 c2 c3 c4 hfz
              go_wp2
              try go_step3
              refine ⟨rfl, ⟨a + r.len, ln, _, ⟨f, pts ++ [(a, ln)], by omega, by simp; omega, by omega, by omega, HP2.out, HO3.out, by rw [H3.out]; simp, HBZ.out⟩, _, _, _, _, _, _, _, _, _, _, _, _, _, _, _, _, _, _, _, _, _, _, _, _, _, _, _, _, _, _, _, _, _, _, _, _, _, _, _, _, _, _, _, _, _, _, _, _, _, _, _, _, _, _, _, _, _, _, _, _, _, _, _, _, _, _, _, _, _, _, rfl⟩, ?_⟩
              simp [intOf]; omega
          · have H3 : Hid (R = (r.e, (a : Int))) := HR2.out.trans (hTE he)
            have he2 : (r.e == 0) = false := by rw [beq_eq_false_iff_ne]; exact he
            clear hTE hTM hTT hG hTP
            go_wp2_with fail
            refine (HBK.out _ HMR.out).mono ?_
            rintro e w1 ⟨rfl, rfl⟩
            rw [HBL.out]
            simp only [pbV]
            go_wp2_with fail
            refine HNX.out.mono ?_
            rintro e w1 ⟨⟨k1, n1, en, tx, rfl, hen⟩, hB1⟩
            clear hen
            have hs1 := hB1.size
            go_wp2_with fail
            simp only [Exit.jump]
            refine bodyPost_ret (v := .tuple #[.slice none 0 0, .int .i64 r.e, .int .i64 a]) (by simp [results, Tryz.results25, go_sem]) rfl ?_
            refine ⟨.inl ⟨by rw [H3.out]; exact he, by rw [H3.out]⟩, (hBw.trans (hB1.mono (by omega))).alloc (by omega) _⟩
    · have H3 : Hid (R = (0, 0)) := HR2.out.trans (toksE_end (by rw [hlen.out]; omega))
      obtain rfl : a = s.size := by omega
      have hai : ((s.size : Int) == s.size) = true := beq_self_eq_true _
      go_wp2_with (at_builtin; refine wpList_append_own _ rfl (.tmp 22) (.tmp 26) 76 rfl (w.heap.size + 1) 164 i0 _ 5 48 Tryz.underlying76 hi hz0 hz1 hz2 rfl (by decide) _ pts.length (pts.flatMap (tokC s.data.toList)) rfl (HO.out.alloc _) ⟨wr.heap.size, 0, none⟩ 1 1 [.int .i64 0, .int .i64 s.size, .int .i64 ln, .string ⟨#[]⟩, .int .i64 0] rfl rfl ?c1 ?c2 ?c3 ?c4 ?c5 ?_)
      case c1 => exact alloc_cells rfl _ 164
      case c2 => exact tok_one
      case c3 => unfold maxLen; omega
      case c4 => omega
      case c5 => simp [go_sem]; omega
      intro v' w1 hown' hgrow _
      have hB1 : Below (w.heap.size + 1) (w.alloc (.cells (marksL.map fun l => Value.string ⟨l.toArray⟩).toArray 9)) w1 := below_grown HBX.out hsz0 HO.out (by go_grown) hgrow
      have HO2 := Lib.hid hown'
      clear hown' hgrow
      go_wp2
      simp only [Exit.jump]
      refine bodyPost_ret (v := .tuple #[v', .int .i64 0, .int .i64 0]) (by simp [results, Tryz.results25, go_sem]) rfl ?_
      refine ⟨.inr ⟨H3.out, v', pts, ln, rfl, by rw [hlen.out]; exact HP.out, ?_⟩, ((Below.refl _ w).alloc (Nat.le_refl _) _).trans (hB1.mono (by omega))⟩
      rw [hlen.out]
      obtain ⟨q1, q2⟩ := HO2.out
      refine ⟨q1, ?_⟩
      rcases q2 with q2 | ⟨g, cap, cur, r1, r2, r3⟩
      · exact .inl q2
      · exact .inr ⟨g, cap, cur, r1, by omega, r3⟩
set_option maxHeartbeats 1000000 in
theorem tokens_any (s : ByteArray) (m : Int) (w : World) (hr : (s.size : Int) ≤ 140737488351232) (hm : w.cell? ⟨4, 0, none⟩ = some (.int .i64 m)) (htab : Lib.TabIs Tryz.prog w "strings.asciiSpace" .u8 Lib.asciiSpaceTab) :
    Calls Tryz.prog 25 #[.string s] w (TksPost s.data.toList (toksR s.data.toList) w) := by
  have hlen : s.data.toList.length = s.size := rfl
  unfold toksR
  rw [hlen]
  by_cases h : 65535 < s.size
  · rw [if_pos h]
    have hi : (65535 : Int) < s.size := by omega
    clear hm htab
    go_enter Tryz.func25, Tryz.ntmps25
    go_wp2_with fail
    refine wp_scope_straight ?_
    go_wp2_with fail
    try rw [Exit.noGoto_ret]
    refine bodyPost_ret (v := .tuple #[.slice none 0 0, .int .i64 1, .int .i64 65535]) (by simp [results, Tryz.results25, go_sem]) rfl ?_
    refine ⟨.inl ⟨by show (1 : Int) ≠ 0; decide, rfl⟩, by go_grown⟩
  · rw [if_neg h]
    exact tokens_some s m w (by omega) hm htab _ rfl
end Go.Proofs.Lx6
