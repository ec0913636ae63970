/- Part of the proof of SyntaxLooseCardSaid (LQx MB). -/
import Derived.Test.YthkebhjaaikopaaGreatDoorM37
import Derived.ScopeJumps
set_option maxHeartbeats 8000000
namespace Go.Proofs.YthkebhjaaikopaaGreatDoor.Lx
open Go.ChangeShapes Go.WideShapes Go.ChangeAt Go.RowKit
def uq (s : ByteArray) (w : World) (R : Int × Int) (a ln : Nat) (v : Value) (wr : World) : Prop :=
  ∃ (f : Nat) (pts : List (Nat × Nat)), a ≤ s.size ∧ pts.length ≤ 8191 ∧ ln ≤ a + 1 ∧ s.size < a + f ∧ jg s.data.toList pts a ∧ wr.ownsRow (w.heap.size + 1) 31 5 v pts.length (pts.flatMap (jk s.data.toList)) ∧ R = cj s.data.toList f a pts.length ∧
    Below (w.heap.size + 1) (w.alloc (.cells (az.map fun l => Value.string ⟨l.toArray⟩).toArray 9)) wr
def uC (s : ByteArray) (w : World) (R : Int × Int) : Act → World → Prop := fun a' wr => ∃ (a ln : Nat) (v : Value), uq s w R a ln v wr ∧ ∃ (u1 u9 u10 u11 u12 u13 u14 u15 u16 u17 u18 u19 u20 u21 u22 u23 u24 u25 u26 u27 u28 u29 u30 u31 u32 u33 u34 u35 u36 u37 u38 u39 u40 u41 u42 u43 u44 u45 u46 u47 u48 u49 u50 u51 u52 u53 u54 u55 u56 u57 u58 u59 u60 u61 u62 u63 u64 u65 u66 u67 u68 u69 u70 u71 u72 u73 u74 u75 u76 u77 : Value), a' = { tmps := #[.string s, u1, .slice none 0 0, .int .i64 0, .int .i64 0, v, .slice (some ⟨w.heap.size, 0, none⟩) 41 41, .int .i64 a, .int .i64 ln, u9, u10, u11, u12, u13, u14, u15, u16, u17, u18, u19, u20, u21, u22, u23, u24, u25, u26, u27, u28, u29, u30, u31, u32, u33, u34, u35, u36, u37, u38, u39, u40, u41, u42, u43, u44, u45, u46, u47, u48, u49, u50, u51, u52, u53, u54, u55, u56, u57, u58, u59, u60, u61, u62, u63, u64, u65, u66, u67, u68, u69, u70, u71, u72, u73, u74, u75, u76, u77], defers := [] }
def nv : List UInt8 := [33,33,32,63,63,32,45,62,32,58,58,32,43,43,32,45,45,32,60,60,32,62,62,32,60,61,32,62,61,32,61,61,32,33,61,32,38,38,32,124,124,32,46,46,32,33,32,63,32,60,32,62,32,61,32,43,32,45,32,42,32,47,32,37,32,38,32,124,32,94,32,126,32,40,32,41,32,91,32,93,32,123,32,125,32,44,32,59,32,58,32,46,32,64,32,35]
theorem kH : ∀ b ∈ nv, b.toNat < 128 := by decide +kernel
set_option maxRecDepth 20000 in
theorem lu (s : ByteArray) (m : Int) (w : World) (hs : s.size ≤ 65535) (hm : w.cell? ⟨4, 0, none⟩ = some (.int .i64 m)) (hq : ∀ a (h : a < s.size), (s[a].toNat : Int) ≠ 34 ∧ (s[a].toNat : Int) ≠ 39 ∧ (s[a].toNat : Int) ≠ 47 ∧ (s[a].toNat : Int) ≠ 92) (htab : Lib.TabIs Tryz.prog w "strings.asciiSpace" .u8 Lib.asciiSpaceTab) (R : Int × Int) (HR : Hid (cj s.data.toList (s.size + 1) 0 0 = R)) :
    Calls Tryz.prog 30 #[.string s] w (sL s.data.toList R w) := by
  have HQ := qd hq; clear hq; have hlen : Hid (s.data.toList.length = s.size) := rfl; have hsi : (s.size : Int) ≤ 65535 := by omega
  obtain ⟨i0, hi, hz0, hz1, hz2⟩ := info_parts Tryz.info31; have HF : Hid (∀ t : ByteArray, t.data.toList = nv → Calls Tryz.prog 20 #[.string t] w fun e w' => e = .returned (.slice (some ⟨w.heap.size, 0, none⟩) 41 41) ∧ w' = w.alloc (.cells (az.map fun l => Value.string ⟨l.toArray⟩).toArray 9)) := by
    intro t ht; have h := Tryz.strings_Fields t w (by show t.data.toList.length < _; rw [ht]; decide) (fun j b hj => kH b (by rw [ht] at hj; exact List.mem_of_getElem? hj)) htab; rw [ht, show Lib.fields nv = az from kP] at h; exact h
  clear htab; have HM := qd hm; clear hm; go_enter Tryz.func30, Tryz.ntmps30; go_wp2_with fail; refine ji 0 (uC s w R) (fun a' _ => s.size - (intOf (a'.tmps.getD 7 undef)).toNat) rfl ?_ ?_
  · intro RR hRR; go_wp2_with fail; refine (HF.out _ (by decide +kernel)).mono ?_; rintro e w1 ⟨rfl, hw1⟩; have h1 := qd hw1; clear hw1; go_wp2_with fail; rename_i K hK; refine wp_label ?_; refine hK _ _ (hRR _ _ ⟨0, 1, _, ⟨s.size + 1, [], by omega, by show 0 ≤ 8191; omega, by omega, by omega, .nil, World.ownsRow_nil _ _ _ _, HR.out.symm, by rw [h1.out]; exact Below.refl _ _⟩, _, _, _, _, _, _, _, _, _, _, _, _, _, _, _, _, _, _, _, _, _, _, _, _, _, _, _, _, _, _, _, _, _, _, _, _, _, _, _, _, _, _, _, _, _, _, _, _, _, _, _, _, _, _, _, _, _, _, _, _, _, _, _, _, _, _, _, _, _, _, rfl⟩)
  · rintro a' wr ⟨a, ln, v, ⟨f, pts, ha, hc, hln, hf, hpath, hown, hR, hB⟩, u1, u9, u10, u11, u12, u13, u14, u15, u16, u17, u18, u19, u20, u21, u22, u23, u24, u25, u26, u27, u28, u29, u30, u31, u32, u33, u34, u35, u36, u37, u38, u39, u40, u41, u42, u43, u44, u45, u46, u47, u48, u49, u50, u51, u52, u53, u54, u55, u56, u57, u58, u59, u60, u61, u62, u63, u64, u65, u66, u67, u68, u69, u70, u71, u72, u73, u74, u75, u76, u77, rfl⟩; have hsz0 : w.heap.size + 1 ≤ wr.heap.size := by have := hB.size; simpa [go_sem] using this
    have hBw : Below w.heap.size w wr := ((Below.refl _ w).alloc (Nat.le_refl _) _).trans (hB.mono (by omega)); have hmb := World.block_lt_of_cell? w _ HM.out; have HMR : Hid (wr.cell? ⟨4, 0, none⟩ = some (.int .i64 m)) := (je hBw _ _ hmb).trans HM.out; have HKR : Hid (∀ i, i < 41 → wr.cell? ⟨w.heap.size, i, none⟩ = some (.string ⟨(az.getD i []).toArray⟩)) := fun i h => (hB.cell (p := ⟨w.heap.size, i, none⟩) (by show w.heap.size < w.heap.size + 1; omega)).trans (iH w i h)
    obtain ⟨ao, cap, rfl⟩ := po hown; have HO := qd hown; clear hown; have HP := qd hpath; clear hpath; have HR2 := qd hR; clear hR; have HBX := qd hB; clear hB; clear hmb
    by_cases hlt : a < s.size
    · obtain ⟨f, rfl⟩ : ∃ f', f = f' + 1 := ⟨f - 1, by omega⟩; have hai : ((a : Int) == s.size) = false := by rw [beq_eq_false_iff_ne]; omega
      have hai2 : (a : Int) ≤ s.size := by omega
      have hbt := qd (ck s a hlt); have hby := cy s a hlt; have HBK : Hid (∀ W : World, W.cell? ⟨4, 0, none⟩ = some (.int .i64 m) → Calls Tryz.prog 70 #[.string (s.extract a s.size)] W fun e w' => e = .returned (tz (aP (s[a].toNat : Int) s.data.toList a)) ∧ W = w') := by
        intro W hW; have hsz : (s.extract a s.size).size = s.size - a := by simp
        have e0 : ((s.extract a s.size)[0]'(by omega)) = s[a] := by
          rw [← q8 _ 0 (by omega), ← q8 s a hlt, Lib.extract_to_end s a]; simp [List.getD_eq_getElem?_getD]
        have h := nf (s.extract a s.size) W (by omega) (by rw [e0]; exact (HQ.out a hlt).2.2); rw [e0, Lib.extract_to_end s a, ms] at h; exact h
      cases hbl : aP (s[a].toNat : Int) s.data.toList a with
      | none =>
        have H3 : Hid (R = ((3 : Int), (a : Int))) := HR2.out.trans (il (by rw [hlen.out]; exact hlt) (by rw [hbt.out]; exact hbl)); have HBL := qd hbl; clear hbl; go_wp2_with fail; refine (HBK.out _ HMR.out).mono ?_; rintro e w1 ⟨rfl, rfl⟩; rw [HBL.out]; simp only [tz]; go_wp2_with fail; simp only [Exit.jump]; refine bodyPost_ret (v := .tuple #[.slice none 0 0, .int .i64 3, .int .i64 a]) (by simp [results, Tryz.results30, go_sem]) rfl ?_; refine ⟨.inl ⟨by rw [H3.out]; show (3 : Int) ≠ 0; decide, by rw [H3.out]⟩, hBw⟩
      | some p =>
        obtain ⟨n, k⟩ := p; have hle := jZ hbl (by rw [hlen.out]; exact hlt); rw [hlen.out] at hle; obtain ⟨hle1, hle2⟩ := hle; cases n with
        | succ n =>
          have H3 : Hid (R = cj s.data.toList f (a + (n + 1)) pts.length) := HR2.out.trans (gE (by rw [hlen.out]; exact hlt) (by rw [hbt.out]; exact hbl)); have HP2 : Hid (jg s.data.toList pts (a + (n + 1))) := jg.blank HP.out (by rw [hlen.out]; exact hlt) (by rw [hbt.out]; exact hbl); have HBL := qd hbl; clear hbl; go_wp2_with fail; refine (HBK.out _ HMR.out).mono ?_; rintro e w1 ⟨rfl, rfl⟩; rw [HBL.out]; simp only [tz]; go_wp2_with fail
          go_step3
          refine ⟨rfl, ⟨a + (n + 1), ln + k, _, ⟨f, pts, by omega, hc, by omega, by omega, HP2.out, HO.out, H3.out, HBX.out⟩, _, _, _, _, _, _, _, _, _, _, _, _, _, _, _, _, _, _, _, _, _, _, _, _, _, _, _, _, _, _, _, _, _, _, _, _, _, _, _, _, _, _, _, _, _, _, _, _, _, _, _, _, _, _, _, _, _, _, _, _, _, _, _, _, _, _, _, _, _, _, rfl⟩, ?_⟩; simp [intOf]; omega
        | zero =>
          have hTE := @jw s.data.toList f a pts.length k (by rw [hlen.out]; exact hlt) (by rw [hbt.out]; exact hbl); have hTM := @im s.data.toList f a k (by rw [hlen.out]; exact hlt) (by rw [hbt.out]; exact hbl); have hTT := @ju s.data.toList f a pts.length k (by rw [hlen.out]; exact hlt) (by rw [hbt.out]; exact hbl); have hG := @iE s.data.toList a (by rw [hlen.out]; exact hlt); have hTP := jg.tok (k := k) ln HP.out (by rw [hlen.out]; exact hlt) (by rw [hbt.out]; exact hbl); have htc : jk s.data.toList (a, ln) = [.int .i64 (aI s.data.toList a).kind, .int .i64 a, .int .i64 ln, .string ⟨(aI s.data.toList a).text.toArray⟩, .int .i64 (aI s.data.toList a).n] := rfl; have HNX := qd (o5 s a w.heap.size wr hlt hs (HQ.out a hlt).1 (HQ.out a hlt).2.1 HKR.out); have HBL := qd hbl; clear hbl; generalize aI s.data.toList a = r at *
          by_cases he : r.e = 0
          · have hG2 := hG he; obtain ⟨hg1, hg2, hg3⟩ := hG2; have hg4 : r.text.length ≤ r.len := by rcases hg3 with ⟨_, _, h⟩ | ⟨_, _, h, _⟩ <;> omega
            clear hg3; rw [hlen.out] at hg2
            by_cases hc8 : pts.length = 8191
            · have H3 : Hid (R = ((8 : Int), (a : Int))) := HR2.out.trans (by rw [hc8]; exact hTM he); have hc9 : ((pts.length : Int) == 8191) = true := by rw [hc8]; rfl
              clear hTE hTM hTT hG hTP hc8; go_wp2_with fail; refine (HBK.out _ HMR.out).mono ?_; rintro e w1 ⟨rfl, rfl⟩; rw [HBL.out]; simp only [tz]; go_wp2_with fail; refine HNX.out.mono ?_; rintro e w1 ⟨⟨k1, n1, en, tx, rfl, hen⟩, hB1⟩; clear hen; rw [he]; have hs1 := hB1.size; go_wp2_with fail; simp only [Exit.jump]; refine bodyPost_ret (v := .tuple #[.slice none 0 0, .int .i64 8, .int .i64 a]) (by simp [results, Tryz.results30, go_sem]) rfl ?_; refine ⟨.inl ⟨by rw [H3.out]; show (8 : Int) ≠ 0; decide, by rw [H3.out]⟩, (hBw.trans (hB1.mono (by omega))).alloc (by omega) _⟩
            · have H3 : Hid (R = cj s.data.toList f (a + r.len) (pts.length + 1)) := HR2.out.trans (hTT he hc8); have HP2 := qd (hTP he); have hc9 : ((pts.length : Int) == 8191) = false := by rw [beq_eq_false_iff_ne]; omega
              have hc7 : pts.length < 8191 := by omega
              clear hTE hTM hTT hG hTP; go_wp2_with fail; refine (HBK.out _ HMR.out).mono ?_; rintro e w1 ⟨rfl, rfl⟩; rw [HBL.out]; simp only [tz]; go_wp2_with fail; refine HNX.out.mono ?_; rintro e w1 ⟨⟨k1, n1, en, tx, rfl, hen⟩, hB1⟩; obtain ⟨rfl, rfl, rfl, rfl⟩ := hen he; clear hen; rw [he]; have hs1 := hB1.size; have HO1 := qd (cw HO.out hB1); go_wp2_with fail; refine (dG _ _ ?x1).mono ?_
              case x1 => show r.text.length ≤ _; omega
              rintro e w2 ⟨rfl, hB2⟩; have hs2 : w1.heap.size < w2.heap.size := by have := hB2.size; simp [go_sem] at this; omega
              have hs3 : w1.heap.size ≤ w2.heap.size := Nat.le_of_lt hs2; have c0 : w2.cell? ⟨w1.heap.size, 0, none⟩ = some (.int .i64 r.kind) := (hB2.cell (p := ⟨w1.heap.size, 0, none⟩) (by simp [go_sem])).trans (by simp [go_sem]); have c1 : w2.cell? ⟨w1.heap.size, 1, none⟩ = some (.int .i64 a) := (hB2.cell (p := ⟨w1.heap.size, 1, none⟩) (by simp [go_sem])).trans (by simp [go_sem]); have c2 : w2.cell? ⟨w1.heap.size, 2, none⟩ = some (.int .i64 ln) := (hB2.cell (p := ⟨w1.heap.size, 2, none⟩) (by simp [go_sem])).trans (by simp [go_sem]); have c3 : w2.cell? ⟨w1.heap.size, 3, none⟩ = some (.string ⟨r.text.toArray⟩) := (hB2.cell (p := ⟨w1.heap.size, 3, none⟩) (by simp [go_sem])).trans (by simp [go_sem]); have c4 : w2.cell? ⟨w1.heap.size, 4, none⟩ = some (.int .i64 r.n) := (hB2.cell (p := ⟨w1.heap.size, 4, none⟩) (by simp [go_sem])).trans (by simp [go_sem]); have hfz : ∀ j, w2.frozen? ⟨w1.heap.size, j, none⟩ = false := fun j => (hB2.frozen (p := ⟨w1.heap.size, j, none⟩) (by simp [go_sem])).trans (by simp [go_sem])
              have hB3 : Below w1.heap.size w1 w2 := Below.trans (by go_grown) (hB2.mono (by simp [go_sem])); have HBY := qd (show Below (w.heap.size + 1) (w.alloc (.cells (az.map fun l => Value.string ⟨l.toArray⟩).toArray 9)) w1 from HBX.out.trans (hB1.mono hsz0)); have hsz1 : w.heap.size + 1 ≤ w1.heap.size := by omega
              clear hB2; go_wp2_with (at_builtin; refine wpList_append_own _ rfl (.tmp 73) (.tmp 75) 22 rfl (w.heap.size + 1) 31 i0 _ 5 48 Tryz.underlying22 hi hz0 hz1 hz2 rfl (by decide) _ pts.length (pts.flatMap (jk s.data.toList)) rfl (cw HO1.out (by go_grown)) ⟨_, 0, none⟩ 1 1 [.int .i64 r.kind, .int .i64 a, .int .i64 ln, .string ⟨r.text.toArray⟩, .int .i64 r.n] rfl rfl ?d1 ?d2 ?d3 ?d4 ?d5 ?_)
              case d1 => exact gN (by simp [go_sem]) _ 31
              case d2 => exact om
              case d3 => unfold maxLen; omega
              case d4 => omega
              case d5 => simp [go_sem]; omega
              intro v' w3 hown' hgrow _; have hB4 : Below (w.heap.size + 1) (w.alloc (.cells (az.map fun l => Value.string ⟨l.toArray⟩).toArray 9)) w3 := gM HBY.out hsz1 HO1.out (by go_grown) hgrow; have HO3 : Hid (w3.ownsRow (w.heap.size + 1) 31 5 v' (pts ++ [(a, ln)]).length ((pts ++ [(a, ln)]).flatMap (jk s.data.toList))) := by
                have e1 : (pts ++ [(a, ln)]).length = pts.length + 1 := by simp
                have e2 : (pts ++ [(a, ln)]).flatMap (jk s.data.toList) = pts.flatMap (jk s.data.toList) ++ [.int .i64 r.kind, .int .i64 a, .int .i64 ln, .string ⟨r.text.toArray⟩, .int .i64 r.n] := by
                  rw [List.flatMap_append, ← htc]; simp
                rw [e1, e2]; exact hown'
              have HBZ := qd hB4; clear hown' hgrow hB4 hB3 hB1 c0 c1 c2 c3 c4 hfz; go_wp2
              try go_step3
              refine ⟨rfl, ⟨a + r.len, ln, _, ⟨f, pts ++ [(a, ln)], by omega, by simp; omega, by omega, by omega, HP2.out, HO3.out, by rw [H3.out]; simp, HBZ.out⟩, _, _, _, _, _, _, _, _, _, _, _, _, _, _, _, _, _, _, _, _, _, _, _, _, _, _, _, _, _, _, _, _, _, _, _, _, _, _, _, _, _, _, _, _, _, _, _, _, _, _, _, _, _, _, _, _, _, _, _, _, _, _, _, _, _, _, _, _, _, _, rfl⟩, ?_⟩; simp [intOf]; omega
          · have H3 : Hid (R = (r.e, (a : Int))) := HR2.out.trans (hTE he); have he2 : (r.e == 0) = false := by rw [beq_eq_false_iff_ne]; exact he
            clear hTE hTM hTT hG hTP; go_wp2_with fail; refine (HBK.out _ HMR.out).mono ?_; rintro e w1 ⟨rfl, rfl⟩; rw [HBL.out]; simp only [tz]; go_wp2_with fail; refine HNX.out.mono ?_; rintro e w1 ⟨⟨k1, n1, en, tx, rfl, hen⟩, hB1⟩; clear hen; have hs1 := hB1.size; go_wp2_with fail; simp only [Exit.jump]; refine bodyPost_ret (v := .tuple #[.slice none 0 0, .int .i64 r.e, .int .i64 a]) (by simp [results, Tryz.results30, go_sem]) rfl ?_; refine ⟨.inl ⟨by rw [H3.out]; exact he, by rw [H3.out]⟩, (hBw.trans (hB1.mono (by omega))).alloc (by omega) _⟩
    · have H3 : Hid (R = (0, 0)) := HR2.out.trans (jv (by rw [hlen.out]; omega)); obtain rfl : a = s.size := by omega
      have hai : ((s.size : Int) == s.size) = true := beq_self_eq_true _; go_wp2_with (at_builtin; refine wpList_append_own _ rfl (.tmp 22) (.tmp 26) 22 rfl (w.heap.size + 1) 31 i0 _ 5 48 Tryz.underlying22 hi hz0 hz1 hz2 rfl (by decide) _ pts.length (pts.flatMap (jk s.data.toList)) rfl (HO.out.alloc _) ⟨wr.heap.size, 0, none⟩ 1 1 [.int .i64 0, .int .i64 s.size, .int .i64 ln, .string ⟨#[]⟩, .int .i64 0] rfl rfl ?c1 ?c2 ?c3 ?c4 ?c5 ?_)
      case c1 => exact gN rfl _ 31
      case c2 => exact om
      case c3 => unfold maxLen; omega
      case c4 => omega
      case c5 => simp [go_sem]; omega
      intro v' w1 hown' hgrow _; have hB1 : Below (w.heap.size + 1) (w.alloc (.cells (az.map fun l => Value.string ⟨l.toArray⟩).toArray 9)) w1 := gM HBX.out hsz0 HO.out (by go_grown) hgrow; have HO2 := qd hown'; clear hown' hgrow; go_wp2; simp only [Exit.jump]; refine bodyPost_ret (v := .tuple #[v', .int .i64 0, .int .i64 0]) (by simp [results, Tryz.results30, go_sem]) rfl ?_; refine ⟨.inr ⟨H3.out, v', pts, ln, rfl, by rw [hlen.out]; exact HP.out, ?_⟩, ((Below.refl _ w).alloc (Nat.le_refl _) _).trans (hB1.mono (by omega))⟩; rw [hlen.out]; obtain ⟨q1, q2⟩ := HO2.out; refine ⟨q1, ?_⟩; rcases q2 with q2 | ⟨g, cap, cur, r1, r2, r3⟩
      · exact .inl q2
      · exact .inr ⟨g, cap, cur, r1, by omega, r3⟩
end Go.Proofs.YthkebhjaaikopaaGreatDoor.Lx
namespace Go.Proofs.YthkebhjaaikopaaGreatDoor
open Go.ChangeShapes Go.WideShapes Go.ChangeAt Go.RowKit Go.Deep Go.Joins Go.Instr
def dJ : List UInt8 := [98, 121, 116, 101, 32, 120, 32, 61, 32, 49]
def eO (a b c d e : Nat) : List ay := [⟨1, 0, a, ⟨#[98, 121, 116, 101]⟩, 0⟩, ⟨1, 5, b, ⟨#[120]⟩, 0⟩, ⟨4, 7, c, ⟨#[61]⟩, 0⟩, ⟨2, 9, d, ⟨#[49]⟩, 1⟩, ⟨0, 10, e, ⟨#[]⟩, 0⟩]
theorem iq {p n k : Nat} (q : Nat) (h : Lx.aP (Lx.bt dJ p) dJ p = some (n + 1, k)) (hq : Lx.aP (Lx.bt dJ p) dJ p = some (q, 0)) : n + 1 = q := by
 rw [hq] at h; injection h with h; injection h with h _; exact h.symm
theorem ng {l : List UInt8} {pts : List (Nat × Nat)} {p : Nat} (h : Lx.jg l pts p) (hl : l = dJ) : (p, pts.map Prod.fst) ∈ [(0, []), (4, [0]), (5, [0]), (6, [0, 5]), (7, [0, 5]), (8, [0, 5, 7]), (9, [0, 5, 7]), (10, [0, 5, 7, 9])] := by
 induction h with
 | nil => simp
 | @blank pts p n k h1 hp hb ih =>
  subst hl; have := ih; simp only [List.mem_cons, Prod.mk.injEq, List.not_mem_nil, or_false] at this; rcases this with ⟨rfl, h⟩ | ⟨rfl, h⟩ | ⟨rfl, h⟩ | ⟨rfl, h⟩ | ⟨rfl, h⟩ | ⟨rfl, h⟩ | ⟨rfl, h⟩ | ⟨rfl, h⟩
  · exact absurd (iq 0 hb (by decide +kernel)) (by omega)
  · rw [iq 1 hb (by decide +kernel), h]; simp
  · exact absurd (iq 0 hb (by decide +kernel)) (by omega)
  · rw [iq 1 hb (by decide +kernel), h]; simp
  · exact absurd (iq 0 hb (by decide +kernel)) (by omega)
  · rw [iq 1 hb (by decide +kernel), h]; simp
  · exact absurd (iq 0 hb (by decide +kernel)) (by omega)
  · simp [dJ] at hp
 | @tok pts p k ln h1 hp hb he ih =>
  subst hl; have := ih; simp only [List.mem_cons, Prod.mk.injEq, List.not_mem_nil, or_false] at this; rcases this with ⟨rfl, h⟩ | ⟨rfl, h⟩ | ⟨rfl, h⟩ | ⟨rfl, h⟩ | ⟨rfl, h⟩ | ⟨rfl, h⟩ | ⟨rfl, h⟩ | ⟨rfl, h⟩
  · rw [show (Lx.aI dJ 0).len = 4 by decide +kernel, List.map_append, h]; simp
  · rw [show Lx.aP (Lx.bt dJ 4) dJ 4 = some (1, 0) by decide +kernel] at hb; cases hb
  · rw [show (Lx.aI dJ 5).len = 1 by decide +kernel, List.map_append, h]; simp
  · rw [show Lx.aP (Lx.bt dJ 6) dJ 6 = some (1, 0) by decide +kernel] at hb; cases hb
  · rw [show (Lx.aI dJ 7).len = 1 by decide +kernel, List.map_append, h]; simp
  · rw [show Lx.aP (Lx.bt dJ 8) dJ 8 = some (1, 0) by decide +kernel] at hb; cases hb
  · rw [show (Lx.aI dJ 9).len = 1 by decide +kernel, List.map_append, h]; simp
  · simp [dJ] at hp
theorem pE (m : Int) (w : World) (hm : w.cell? ⟨4, 0, none⟩ = some (.int .i64 m)) (htab : Lib.TabIs Tryz.prog w "strings.asciiSpace" .u8 Lib.asciiSpaceTab) :
  Calls Tryz.prog 30 #[.string ⟨#[98, 121, 116, 101, 32, 120, 32, 61, 32, 49]⟩] w fun e w' => ∃ (v : Value) (a b c d f : Nat), e = .returned (.tuple #[v, .int .i64 0, .int .i64 0]) ∧ Sl w' 5 ay.enc v (eO a b c d f) ∧ Below w.heap.size w w' := by
 refine (Lx.lu ⟨#[98, 121, 116, 101, 32, 120, 32, 61, 32, 49]⟩ m w (by decide) hm (fun a h => (by decide +kernel : ∀ a : Fin 10, ((((⟨#[98, 121, 116, 101, 32, 120, 32, 61, 32, 49]⟩ : ByteArray)[a.val]'a.2).toNat : Int) ≠ 34 ∧ (((⟨#[98, 121, 116, 101, 32, 120, 32, 61, 32, 49]⟩ : ByteArray)[a.val]'a.2).toNat : Int) ≠ 39 ∧ (((⟨#[98, 121, 116, 101, 32, 120, 32, 61, 32, 49]⟩ : ByteArray)[a.val]'a.2).toNat : Int) ≠ 47 ∧ (((⟨#[98, 121, 116, 101, 32, 120, 32, 61, 32, 49]⟩ : ByteArray)[a.val]'a.2).toNat : Int) ≠ 92)) ⟨a, h⟩) htab (0, 0) (by show Lx.cj dJ 11 0 0 = (0, 0); decide +kernel)).mono ?_; rintro e w' ⟨h | ⟨_, v, pts, ln, rfl, hp, ho⟩, hB⟩
 · exact absurd rfl h.1
 have h1 := ng hp rfl; simp only [List.mem_cons, Prod.mk.injEq, List.not_mem_nil, or_false] at h1; have h2 : pts.map Prod.fst = [0, 5, 7, 9] := by
  rcases h1 with ⟨h, _⟩ | ⟨h, _⟩ | ⟨h, _⟩ | ⟨h, _⟩ | ⟨h, _⟩ | ⟨h, _⟩ | ⟨h, _⟩ | ⟨_, h⟩
  all_goals first | exact h | exact absurd h (by decide)
 clear h1 hp; obtain ⟨⟨p0, a⟩, l1, rfl, rfl, h4⟩ := List.map_eq_cons_iff.1 h2; obtain ⟨⟨p1, b⟩, l2, rfl, rfl, h5⟩ := List.map_eq_cons_iff.1 h4; obtain ⟨⟨p2, c⟩, l3, rfl, rfl, h6⟩ := List.map_eq_cons_iff.1 h5; obtain ⟨⟨p3, d⟩, l4, rfl, rfl, h7⟩ := List.map_eq_cons_iff.1 h6; obtain rfl := List.map_eq_nil_iff.1 h7; refine ⟨v, a, b, c, d, ln, rfl, ek (base := w.heap.size) (E := 31) ?_, hB⟩; have h3 : eF 5 ay.enc (eO a b c d ln) = [(0, a), (5, b), (7, c), (9, d)].flatMap (Lx.jk dJ) ++ [.int .i64 0, .int .i64 (10 : Nat), .int .i64 ln, .string ⟨#[]⟩, .int .i64 0] := by
  have q0 : Lx.aI dJ 0 = ⟨0, 1, [98, 121, 116, 101], 0, 4⟩ := by kernel_rfl
  have q1 : Lx.aI dJ 5 = ⟨0, 1, [120], 0, 1⟩ := by kernel_rfl
  have q2 : Lx.aI dJ 7 = ⟨0, 4, [61], 0, 1⟩ := by kernel_rfl
  have q3 : Lx.aI dJ 9 = ⟨0, 2, [49], 1, 1⟩ := by kernel_rfl
  simp only [List.flatMap_cons, List.flatMap_nil, Lx.jk, q0, q1, q2, q3]; rfl
 unfold Ow; rw [h3]; exact ho
end Go.Proofs.YthkebhjaaikopaaGreatDoor
