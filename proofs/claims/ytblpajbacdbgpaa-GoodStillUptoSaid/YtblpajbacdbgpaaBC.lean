/-
  Contract of good's way. Conditions: the model is laid as data; its expressions may be.
-/
import Derived.Test.YtblpajbacdbgpaaBB
import Derived.Test.YtblpajbacdbgpaaY
namespace Go.Proofs.Ytblpajbacdbgpaa
open Go.ChangeShapes Go.WideShapes Go.ChangeAt Go.RowKit Go.Deep Go.Joins
noncomputable def usesW (M : MoD) (i run : Int) (l : List Int) : Bool := usesF M i run (l.length + potF M (List.replicate M.exprs.length false) + 1) (List.replicate M.exprs.length false) l
def aL (x : TrD) : List Int := if 0 ≤ x.a then [x.a] else []
def bL (x : TrD) : List Int := if 0 ≤ x.b then [x.b] else []
def runW (x : TrD) : Int := if x.kind = 1 then x.a else if x.kind = 2 then x.b else -1
def badW (M : MoD) (i : Int) (x : TrD) : Bool := !statementF M x || ((i == M.claim) && (x.kind != 1) && (x.kind != 3) && (x.kind != 7) && (x.kind != 8))
noncomputable def wayF (M : MoD) (i : Int) (x : TrD) : Bool := if badW M i x = true then false else usesW M i (runW x) ((x.args ++ aL x) ++ bL x)
theorem empty_args {x : TrD} {n : Bool} (h : emptyF x n = true) : x.args = [] := by
  unfold emptyF at h
  simp only [Bool.and_eq_true, beq_iff_eq] at h
  have : x.args.length = 0 := by omega
  exact List.length_eq_zero_iff.1 this
theorem stmt_below {M : MoD} {x : TrD} (h : statementF M x = true) : ∀ k ∈ (x.args ++ aL x) ++ bL x, inB M.exprs.length k = true := by
  have key : (∀ k ∈ x.args, inB M.exprs.length k = true) ∧ (inB M.exprs.length x.a = true ∨ x.a = -1) ∧ (inB M.exprs.length x.b = true ∨ x.b = -1) := by
    unfold statementF at h
    split at h
    · simp only [Bool.and_eq_true, beq_iff_eq] at h
      exact ⟨by rw [empty_args h.2]; simp, .inl h.1.1, .inr h.1.2⟩
    · split at h
      · simp only [Bool.and_eq_true, targetF] at h
        exact ⟨by rw [empty_args h.2]; simp, .inl h.1.1.1.1, .inl h.1.2⟩
      · split at h
        · simp only [Bool.and_eq_true, beq_iff_eq] at h
          exact ⟨List.all_eq_true.1 h.1.1.1.2, .inr h.1.1.1.1.1, .inr h.1.1.1.1.2⟩
        · split at h
          · simp only [Bool.and_eq_true, beq_iff_eq] at h
            exact ⟨List.all_eq_true.1 h.1.1.1.2, .inl h.1.1.1.1.1.1.1, .inr h.1.1.1.1.1.1.2⟩
          · split at h
            · simp only [Bool.and_eq_true, beq_iff_eq] at h
              have ht := h.1.1.1.2
              unfold takenF matchedF at ht
              simp only [Bool.and_eq_true] at ht
              exact ⟨List.all_eq_true.1 ht.1.1.2, .inl h.1.1.1.1.1, .inr h.1.1.1.1.2⟩
            · split at h
              · simp only [Bool.and_eq_true, beq_iff_eq] at h
                exact ⟨by rw [empty_args h.2]; simp, .inr h.1.1, .inr h.1.2⟩
              · split at h
                · simp only [Bool.and_eq_true, targetF, beq_iff_eq] at h
                  exact ⟨by rw [empty_args h.2]; simp, .inl h.1.1.1.1.1.1, .inr h.1.1.1.2⟩
                · simp at h
  obtain ⟨k1, k2, k3⟩ := key
  intro k hk
  rw [List.mem_append, List.mem_append] at hk
  rcases hk with (hk | hk) | hk
  · exact k1 k hk
  · unfold aL at hk
    split at hk
    · simp at hk
      rw [hk]
      rcases k2 with k2 | k2
      · exact k2
      · omega
    · simp at hk
  · unfold bL at hk
    split at hk
    · simp at hk
      rw [hk]
      rcases k3 with k3 | k3
      · exact k3
      · omega
    · simp at hk
theorem own_sl {base : Nat} {w : World} {v : Value} {l : List Int} (h : Own base w v l) : Sl w 1 iEnc v l := sl_of_own h
theorem own_sn {base : Nat} {w : World} {v : Value} {l : List Int} (h : Own base w v l) : Sn v := sn_of_own h
/-- What way leans on. -/
structure WyE (M : MoD) (b : Nat) (i : Int) (x : TrD) (w : World) : Prop where
  st : ∀ W, Below w.heap.size w W → Calls Try.prog 32 #[.pointer (some ⟨b, 0, none⟩), x.st] W fun e w' => e = .returned (.bool (statementF M x)) ∧ Below W.heap.size W w'
  us : ∀ W lv l run, Below w.heap.size w W → Sl W 1 iEnc lv l → Sn lv → l.length ≤ 1048579 → (∀ k ∈ l, inB M.exprs.length k = true) → Calls Try.prog 25 #[.pointer (some ⟨b, 0, none⟩), .int .i64 i, lv, .int .i64 run] W fun e w' => e = .returned (.bool (usesW M i run l)) ∧ Below W.heap.size W w'
theorem wyE (M : MoD) (w0 : World) (hM : M.ok w0) (b : Nat) (i : Int) (x : TrD) (w : World) (hB : Below w0.heap.size w0 w) (hk : Ck w b M) (hX : GoodX M) (hi : 0 ≤ i ∧ i < M.procs.length) (hx : x.ok w0) : WyE M b i x w where
  st W hW := statement_any M w0 hM b x W (hB.trans (hW.mono hB.size)) (hk.keep hW) hx
  us W lv l run hW hl hn hz hin := uses_any M w0 hM b i run lv l W (hB.trans (hW.mono hB.size)) (hk.keep hW) hX hi hl hn hz hin
set_option maxHeartbeats 4000000 in
set_option maxRecDepth 100000 in
theorem way_any (M : MoD) (w0 : World) (hM : M.ok w0) (b : Nat) (i : Int) (x : TrD) (w : World) (hB : Below w0.heap.size w0 w) (hk : Ck w b M) (hX : GoodX M) (hi : 0 ≤ i ∧ i < M.procs.length) (hx : x.ok w0) :
    Calls Try.prog 24 #[.pointer (some ⟨b, 0, none⟩), .int .i64 i, x.st] w fun e w' => e = .returned (.bool (wayF M i x)) ∧ Below w.heap.size w w' := by
  obtain ⟨i0, hi0, hz0, hz1, hz2⟩ := info_parts Try.info3
  have HE := Lib.hid (wyE M w0 hM b i x w hB hk hX hi hx)
  have HST := Lib.hid HE.out.st
  have HUS := Lib.hid HE.out.us
  have c5 := hk.c5
  have hbl := hk.lt
  have HAV := Lib.hid hx.av
  have HAN := Lib.hid hx.an
  obtain ⟨aa, ca, hva, -, -, -⟩ := hx.av
  obtain ⟨am, cm, hvm, -, -, -⟩ := hx.mv
  have haz := hx.az
  have HBw := Lib.hid hB
  have hsz := hB.size
  unfold TrD.st at HST ⊢
  rw [hva, hvm] at HST ⊢
  rw [hva] at HAV HAN
  clear hva hvm HE hM hk hX hi hx hB
  go_enter Try.func24, Try.ntmps24
  go_upto_region 1 with fail
  generalize hbx : w.alloc (.cells #[.int .i64 x.kind, .int .i64 x.a, .int .i64 x.b, .int .i64 x.n, .slice aa x.args.length ca, .slice am x.mat.length cm, .string x.text] 71) = W0 at *
  have hW0 : Below w.heap.size w W0 := by rw [← hbx]; exact (Below.refl _ _).alloc (Nat.le_refl _) _
  have hz0' : w.heap.size < W0.heap.size := by rw [← hbx]; simp
  have k0 : W0.cell? ⟨w.heap.size, 0, none⟩ = some (.int .i64 x.kind) := by rw [← hbx]; simp [go_sem]
  have k1 : W0.cell? ⟨w.heap.size, 1, none⟩ = some (.int .i64 x.a) := by rw [← hbx]; simp [go_sem]
  have k2 : W0.cell? ⟨w.heap.size, 2, none⟩ = some (.int .i64 x.b) := by rw [← hbx]; simp [go_sem]
  have k3 : W0.cell? ⟨w.heap.size, 3, none⟩ = some (.int .i64 x.n) := by rw [← hbx]; simp [go_sem]
  have k4 : W0.cell? ⟨w.heap.size, 4, none⟩ = some (.slice aa x.args.length ca) := by rw [← hbx]; simp [go_sem]
  have k5 : W0.cell? ⟨w.heap.size, 5, none⟩ = some (.slice am x.mat.length cm) := by rw [← hbx]; simp [go_sem]
  have k6 : W0.cell? ⟨w.heap.size, 6, none⟩ = some (.string x.text) := by rw [← hbx]; simp [go_sem]
  clear hbx
  go_cut [41] (fun s41 wx => s41 = .bool (badW M i x) ∧ Below W0.heap.size W0 wx)
  case first =>
    go_wp2_with fail
    (with_reducible refine (HST.out _ hW0).mono ?_)
    rintro e w1 ⟨rfl, hB1⟩
    have r0 := (hB1.cell (p := ⟨w.heap.size, 0, none⟩) hz0').trans k0
    have c5w := ((hW0.trans (hB1.mono hW0.size)).cell (p := ⟨b, 5, none⟩) hbl).trans c5
    clear k0 k1 k2 k3 k4 k5 k6 c5
    cases hs : statementF M x
    · go_wp2_with fail
      go_meet
      exact ⟨by unfold badW; rw [hs]; rfl, hB1⟩
    · cases q : (i == M.claim)
      · go_wp2_with fail
        go_meet
        exact ⟨by unfold badW; rw [hs, q]; rfl, hB1⟩
      · cases q1 : (x.kind != 1)
        · go_wp2_with fail
          go_meet
          exact ⟨by unfold badW; rw [hs, q, q1]; rfl, hB1⟩
        · cases q3 : (x.kind != 3)
          · go_wp2_with fail
            go_meet
            exact ⟨by unfold badW; rw [hs, q, q1, q3]; rfl, hB1⟩
          · cases q7 : (x.kind != 7)
            · go_wp2_with fail
              go_meet
              exact ⟨by unfold badW; rw [hs, q, q1, q3, q7]; rfl, hB1⟩
            · cases q8 : (x.kind != 8)
              all_goals
                go_wp2_with fail
                go_meet
                exact ⟨by unfold badW; rw [hs, q, q1, q3, q7, q8]; rfl, hB1⟩
  case rest =>
    obtain ⟨rfl, hBW⟩ := hcut
    have hBw : Below w.heap.size w wc := hW0.trans (hBW.mono hW0.size)
    have hzc := hBw.size
    have hzc2 : w.heap.size < wc.heap.size := by have := hBW.size; omega
    have r0 := (hBW.cell (p := ⟨w.heap.size, 0, none⟩) hz0').trans k0
    have r1 := (hBW.cell (p := ⟨w.heap.size, 1, none⟩) hz0').trans k1
    have r2 := (hBW.cell (p := ⟨w.heap.size, 2, none⟩) hz0').trans k2
    have r4 := (hBW.cell (p := ⟨w.heap.size, 4, none⟩) hz0').trans k4
    cases hbad : badW M i x
    · have hst : statementF M x = true := by
        unfold badW at hbad
        cases h : statementF M x
        · rw [h] at hbad; simp at hbad
        · rfl
      have HIN := Lib.hid (stmt_below hst)
      have HW : Hid (wayF M i x = usesW M i (runW x) ((x.args ++ aL x) ++ bL x)) := by unfold Hid wayF; rw [hbad, if_neg (by simp)]
      clear hst hbad
      have K0 := Lib.hid k0
      have K1 := Lib.hid k1
      have K2 := Lib.hid k2
      clear k0 k1 k2 k3 k4 k5 k6 c5
      have hkk : ((x.kind == 1) = true ∧ Hid (runW x = x.a)) ∨ ((x.kind == 1) = false ∧ (x.kind == 2) = true ∧ Hid (runW x = x.b)) ∨ ((x.kind == 1) = false ∧ (x.kind == 2) = false ∧ Hid (runW x = -1)) := by
        by_cases h1 : x.kind = 1
        · exact .inl ⟨by simpa using h1, by unfold Hid runW; rw [if_pos h1]⟩
        · by_cases h2 : x.kind = 2
          · exact .inr (.inl ⟨by simpa using h1, by simpa using h2, by unfold Hid runW; rw [if_neg h1, if_pos h2]⟩)
          · exact .inr (.inr ⟨by simpa using h1, by simpa using h2, by unfold Hid runW; rw [if_neg h1, if_neg h2]⟩)
      by_cases ha : 0 ≤ x.a
      · have HAL : Hid (aL x = [x.a]) := by unfold Hid aL; rw [if_pos ha]
        by_cases hb : 0 ≤ x.b
        · have HBL : Hid (bL x = [x.b]) := by unfold Hid bL; rw [if_pos hb]
          rcases hkk with ⟨q1, HRW⟩ | ⟨q1, q2, HRW⟩ | ⟨q1, q2, HRW⟩
          all_goals
            go_wp2_with (at_builtin; refine wpList_append_sl (enc := iEnc) (v := .slice none 0 0) (n := 0) (xs := []) (v2 := .slice aa x.args.length ca) (l2 := x.args) rfl _ _ 35 rfl (w.heap.size + 1) 3 i0 _ 8 Try.underlying35 hi0 hz0 hz1 hz2 rfl rfl (World.ownsRow_nil _ _ _ _) rfl (HAV.out.keep (HBw.out.trans (hBw.mono hsz))) HAN.out one_ints (by unfold maxLen; omega) (by omega) hzc2 ?_)
            intro v1 w1 hown hgrow
            have HO1 : Hid (Own (w.heap.size + 1) w1 v1 x.args) := by
              unfold Hid Own
              simpa using hown
            have hD1 : Below (w.heap.size + 1) W0 w1 := (hBW.mono hz0').grown hgrow hzc2 (fun k hk => by cases hk)
            have hB1 : Below w.heap.size w w1 := hW0.trans (hD1.mono (by omega))
            have hz1' := hD1.size
            have hy1 : w.heap.size + 1 ≤ w1.heap.size := by omega
            have s01 := (hD1.cell (p := ⟨w.heap.size, 0, none⟩) (Nat.lt_succ_self _)).trans K0.out
            have s11 := (hD1.cell (p := ⟨w.heap.size, 1, none⟩) (Nat.lt_succ_self _)).trans K1.out
            have s21 := (hD1.cell (p := ⟨w.heap.size, 2, none⟩) (Nat.lt_succ_self _)).trans K2.out
            clear hown hgrow
            obtain ⟨av1, cv1, rfl⟩ := own_shape HO1.out
            go_wp2_with (at_builtin; refine wpList_append_sl (enc := iEnc) (v := .slice av1 (x.args).length cv1) (n := (x.args).length) (xs := (x.args).map fun y => iEnc y 0) (v2 := .slice (some ⟨w1.heap.size, 0, none⟩) 1 1) (l2 := [x.a]) rfl _ _ 35 rfl (w.heap.size + 1) 3 i0 _ 8 Try.underlying35 hi0 hz0 hz1 hz2 rfl rfl (HO1.out.alloc _) rfl (sl_at rfl) sn_some one_ints (by unfold maxLen; simp; omega) (by simp; omega) (by simp; omega) ?_)
            intro v2 w2 hown hgrow
            have HO2 : Hid (Own (w.heap.size + 1) w2 v2 (x.args ++ [x.a])) := by
              unfold Hid Own
              rw [List.length_append, List.map_append]
              exact hown
            have hD2 : Below (w.heap.size + 1) W0 w2 := (hD1.alloc hy1 _).grown hgrow (by simp; omega) (fun k hk => (HO1.out.lt k hk).1)
            have hB2 : Below w.heap.size w w2 := hW0.trans (hD2.mono (by omega))
            have hz2' := hD2.size
            have hy2 : w.heap.size + 1 ≤ w2.heap.size := by omega
            have s02 := (hD2.cell (p := ⟨w.heap.size, 0, none⟩) (Nat.lt_succ_self _)).trans K0.out
            have s12 := (hD2.cell (p := ⟨w.heap.size, 1, none⟩) (Nat.lt_succ_self _)).trans K1.out
            have s22 := (hD2.cell (p := ⟨w.heap.size, 2, none⟩) (Nat.lt_succ_self _)).trans K2.out
            clear hown hgrow
            obtain ⟨L2, hL2⟩ : ∃ L2, L2 = x.args ++ [x.a] := ⟨_, rfl⟩
            have hl2 : L2.length ≤ 1048578 := by rw [hL2, List.length_append]; simp; omega
            rw [← hL2] at HO2
            have HL2 := Lib.hid hL2
            clear hL2
            obtain ⟨av2, cv2, rfl⟩ := own_shape HO2.out
            go_wp2_with (at_builtin; refine wpList_append_sl (enc := iEnc) (v := .slice av2 (L2).length cv2) (n := (L2).length) (xs := (L2).map fun y => iEnc y 0) (v2 := .slice (some ⟨w2.heap.size, 0, none⟩) 1 1) (l2 := [x.b]) rfl _ _ 35 rfl (w.heap.size + 1) 3 i0 _ 8 Try.underlying35 hi0 hz0 hz1 hz2 rfl rfl (HO2.out.alloc _) rfl (sl_at rfl) sn_some one_ints (by unfold maxLen; simp; omega) (by simp; omega) (by simp; omega) ?_)
            intro v3 w3 hown hgrow
            have HO3 : Hid (Own (w.heap.size + 1) w3 v3 (L2 ++ [x.b])) := by
              unfold Hid Own
              rw [List.length_append, List.map_append]
              exact hown
            have hD3 : Below (w.heap.size + 1) W0 w3 := (hD2.alloc hy2 _).grown hgrow (by simp; omega) (fun k hk => (HO2.out.lt k hk).1)
            have hB3 : Below w.heap.size w w3 := hW0.trans (hD3.mono (by omega))
            have hz3' := hD3.size
            have hy3 : w.heap.size + 1 ≤ w3.heap.size := by omega
            have s03 := (hD3.cell (p := ⟨w.heap.size, 0, none⟩) (Nat.lt_succ_self _)).trans K0.out
            have s13 := (hD3.cell (p := ⟨w.heap.size, 1, none⟩) (Nat.lt_succ_self _)).trans K1.out
            have s23 := (hD3.cell (p := ⟨w.heap.size, 2, none⟩) (Nat.lt_succ_self _)).trans K2.out
            clear hown hgrow
            rw [HL2.out] at HO3
            rw [HAL.out, HBL.out] at HIN
            go_wp2_with fail
            (with_reducible refine (HUS.out _ _ (x.args ++ [x.a] ++ [x.b]) _ hB3 (own_sl HO3.out) (own_sn HO3.out) (by first | omega | (simp; omega)) (by intro k hk; exact HIN.out k (by simpa using hk))).mono ?_)
            rintro e wz ⟨rfl, hBz⟩
            have hBf : Below w.heap.size w wz := hB3.trans (hBz.mono hB3.size)
            clear hBz
            go_wp2
            go_ret
            exact ⟨retb (by rw [HW.out, HRW.out, HAL.out, HBL.out]; simp), hBf⟩
        · have HBL : Hid (bL x = []) := by unfold Hid bL; rw [if_neg hb]
          have hb2 : x.b < 0 := by omega
          rcases hkk with ⟨q1, HRW⟩ | ⟨q1, q2, HRW⟩ | ⟨q1, q2, HRW⟩
          all_goals
            go_wp2_with (at_builtin; refine wpList_append_sl (enc := iEnc) (v := .slice none 0 0) (n := 0) (xs := []) (v2 := .slice aa x.args.length ca) (l2 := x.args) rfl _ _ 35 rfl (w.heap.size + 1) 3 i0 _ 8 Try.underlying35 hi0 hz0 hz1 hz2 rfl rfl (World.ownsRow_nil _ _ _ _) rfl (HAV.out.keep (HBw.out.trans (hBw.mono hsz))) HAN.out one_ints (by unfold maxLen; omega) (by omega) hzc2 ?_)
            intro v1 w1 hown hgrow
            have HO1 : Hid (Own (w.heap.size + 1) w1 v1 x.args) := by
              unfold Hid Own
              simpa using hown
            have hD1 : Below (w.heap.size + 1) W0 w1 := (hBW.mono hz0').grown hgrow hzc2 (fun k hk => by cases hk)
            have hB1 : Below w.heap.size w w1 := hW0.trans (hD1.mono (by omega))
            have hz1' := hD1.size
            have hy1 : w.heap.size + 1 ≤ w1.heap.size := by omega
            have s01 := (hD1.cell (p := ⟨w.heap.size, 0, none⟩) (Nat.lt_succ_self _)).trans K0.out
            have s11 := (hD1.cell (p := ⟨w.heap.size, 1, none⟩) (Nat.lt_succ_self _)).trans K1.out
            have s21 := (hD1.cell (p := ⟨w.heap.size, 2, none⟩) (Nat.lt_succ_self _)).trans K2.out
            clear hown hgrow
            obtain ⟨av1, cv1, rfl⟩ := own_shape HO1.out
            go_wp2_with (at_builtin; refine wpList_append_sl (enc := iEnc) (v := .slice av1 (x.args).length cv1) (n := (x.args).length) (xs := (x.args).map fun y => iEnc y 0) (v2 := .slice (some ⟨w1.heap.size, 0, none⟩) 1 1) (l2 := [x.a]) rfl _ _ 35 rfl (w.heap.size + 1) 3 i0 _ 8 Try.underlying35 hi0 hz0 hz1 hz2 rfl rfl (HO1.out.alloc _) rfl (sl_at rfl) sn_some one_ints (by unfold maxLen; simp; omega) (by simp; omega) (by simp; omega) ?_)
            intro v2 w2 hown hgrow
            have HO2 : Hid (Own (w.heap.size + 1) w2 v2 (x.args ++ [x.a])) := by
              unfold Hid Own
              rw [List.length_append, List.map_append]
              exact hown
            have hD2 : Below (w.heap.size + 1) W0 w2 := (hD1.alloc hy1 _).grown hgrow (by simp; omega) (fun k hk => (HO1.out.lt k hk).1)
            have hB2 : Below w.heap.size w w2 := hW0.trans (hD2.mono (by omega))
            have hz2' := hD2.size
            have hy2 : w.heap.size + 1 ≤ w2.heap.size := by omega
            have s02 := (hD2.cell (p := ⟨w.heap.size, 0, none⟩) (Nat.lt_succ_self _)).trans K0.out
            have s12 := (hD2.cell (p := ⟨w.heap.size, 1, none⟩) (Nat.lt_succ_self _)).trans K1.out
            have s22 := (hD2.cell (p := ⟨w.heap.size, 2, none⟩) (Nat.lt_succ_self _)).trans K2.out
            clear hown hgrow
            rw [HAL.out, HBL.out] at HIN
            go_wp2_with fail
            (with_reducible refine (HUS.out _ _ (x.args ++ [x.a]) _ hB2 (own_sl HO2.out) (own_sn HO2.out) (by first | omega | (simp; omega)) (by intro k hk; exact HIN.out k (by simpa using hk))).mono ?_)
            rintro e wz ⟨rfl, hBz⟩
            have hBf : Below w.heap.size w wz := hB2.trans (hBz.mono hB2.size)
            clear hBz
            go_wp2
            go_ret
            exact ⟨retb (by rw [HW.out, HRW.out, HAL.out, HBL.out]; simp), hBf⟩
      · have HAL : Hid (aL x = []) := by unfold Hid aL; rw [if_neg ha]
        have ha2 : x.a < 0 := by omega
        by_cases hb : 0 ≤ x.b
        · have HBL : Hid (bL x = [x.b]) := by unfold Hid bL; rw [if_pos hb]
          rcases hkk with ⟨q1, HRW⟩ | ⟨q1, q2, HRW⟩ | ⟨q1, q2, HRW⟩
          all_goals
            go_wp2_with (at_builtin; refine wpList_append_sl (enc := iEnc) (v := .slice none 0 0) (n := 0) (xs := []) (v2 := .slice aa x.args.length ca) (l2 := x.args) rfl _ _ 35 rfl (w.heap.size + 1) 3 i0 _ 8 Try.underlying35 hi0 hz0 hz1 hz2 rfl rfl (World.ownsRow_nil _ _ _ _) rfl (HAV.out.keep (HBw.out.trans (hBw.mono hsz))) HAN.out one_ints (by unfold maxLen; omega) (by omega) hzc2 ?_)
            intro v1 w1 hown hgrow
            have HO1 : Hid (Own (w.heap.size + 1) w1 v1 x.args) := by
              unfold Hid Own
              simpa using hown
            have hD1 : Below (w.heap.size + 1) W0 w1 := (hBW.mono hz0').grown hgrow hzc2 (fun k hk => by cases hk)
            have hB1 : Below w.heap.size w w1 := hW0.trans (hD1.mono (by omega))
            have hz1' := hD1.size
            have hy1 : w.heap.size + 1 ≤ w1.heap.size := by omega
            have s01 := (hD1.cell (p := ⟨w.heap.size, 0, none⟩) (Nat.lt_succ_self _)).trans K0.out
            have s11 := (hD1.cell (p := ⟨w.heap.size, 1, none⟩) (Nat.lt_succ_self _)).trans K1.out
            have s21 := (hD1.cell (p := ⟨w.heap.size, 2, none⟩) (Nat.lt_succ_self _)).trans K2.out
            clear hown hgrow
            obtain ⟨av1, cv1, rfl⟩ := own_shape HO1.out
            go_wp2_with (at_builtin; refine wpList_append_sl (enc := iEnc) (v := .slice av1 (x.args).length cv1) (n := (x.args).length) (xs := (x.args).map fun y => iEnc y 0) (v2 := .slice (some ⟨w1.heap.size, 0, none⟩) 1 1) (l2 := [x.b]) rfl _ _ 35 rfl (w.heap.size + 1) 3 i0 _ 8 Try.underlying35 hi0 hz0 hz1 hz2 rfl rfl (HO1.out.alloc _) rfl (sl_at rfl) sn_some one_ints (by unfold maxLen; simp; omega) (by simp; omega) (by simp; omega) ?_)
            intro v2 w2 hown hgrow
            have HO2 : Hid (Own (w.heap.size + 1) w2 v2 (x.args ++ [x.b])) := by
              unfold Hid Own
              rw [List.length_append, List.map_append]
              exact hown
            have hD2 : Below (w.heap.size + 1) W0 w2 := (hD1.alloc hy1 _).grown hgrow (by simp; omega) (fun k hk => (HO1.out.lt k hk).1)
            have hB2 : Below w.heap.size w w2 := hW0.trans (hD2.mono (by omega))
            have hz2' := hD2.size
            have hy2 : w.heap.size + 1 ≤ w2.heap.size := by omega
            have s02 := (hD2.cell (p := ⟨w.heap.size, 0, none⟩) (Nat.lt_succ_self _)).trans K0.out
            have s12 := (hD2.cell (p := ⟨w.heap.size, 1, none⟩) (Nat.lt_succ_self _)).trans K1.out
            have s22 := (hD2.cell (p := ⟨w.heap.size, 2, none⟩) (Nat.lt_succ_self _)).trans K2.out
            clear hown hgrow
            rw [HAL.out, HBL.out] at HIN
            go_wp2_with fail
            (with_reducible refine (HUS.out _ _ (x.args ++ [x.b]) _ hB2 (own_sl HO2.out) (own_sn HO2.out) (by first | omega | (simp; omega)) (by intro k hk; exact HIN.out k (by simpa using hk))).mono ?_)
            rintro e wz ⟨rfl, hBz⟩
            have hBf : Below w.heap.size w wz := hB2.trans (hBz.mono hB2.size)
            clear hBz
            go_wp2
            go_ret
            exact ⟨retb (by rw [HW.out, HRW.out, HAL.out, HBL.out]; simp), hBf⟩
        · have HBL : Hid (bL x = []) := by unfold Hid bL; rw [if_neg hb]
          have hb2 : x.b < 0 := by omega
          rcases hkk with ⟨q1, HRW⟩ | ⟨q1, q2, HRW⟩ | ⟨q1, q2, HRW⟩
          all_goals
            go_wp2_with (at_builtin; refine wpList_append_sl (enc := iEnc) (v := .slice none 0 0) (n := 0) (xs := []) (v2 := .slice aa x.args.length ca) (l2 := x.args) rfl _ _ 35 rfl (w.heap.size + 1) 3 i0 _ 8 Try.underlying35 hi0 hz0 hz1 hz2 rfl rfl (World.ownsRow_nil _ _ _ _) rfl (HAV.out.keep (HBw.out.trans (hBw.mono hsz))) HAN.out one_ints (by unfold maxLen; omega) (by omega) hzc2 ?_)
            intro v1 w1 hown hgrow
            have HO1 : Hid (Own (w.heap.size + 1) w1 v1 x.args) := by
              unfold Hid Own
              simpa using hown
            have hD1 : Below (w.heap.size + 1) W0 w1 := (hBW.mono hz0').grown hgrow hzc2 (fun k hk => by cases hk)
            have hB1 : Below w.heap.size w w1 := hW0.trans (hD1.mono (by omega))
            have hz1' := hD1.size
            have hy1 : w.heap.size + 1 ≤ w1.heap.size := by omega
            have s01 := (hD1.cell (p := ⟨w.heap.size, 0, none⟩) (Nat.lt_succ_self _)).trans K0.out
            have s11 := (hD1.cell (p := ⟨w.heap.size, 1, none⟩) (Nat.lt_succ_self _)).trans K1.out
            have s21 := (hD1.cell (p := ⟨w.heap.size, 2, none⟩) (Nat.lt_succ_self _)).trans K2.out
            clear hown hgrow
            rw [HAL.out, HBL.out] at HIN
            go_wp2_with fail
            (with_reducible refine (HUS.out _ _ (x.args) _ hB1 (own_sl HO1.out) (own_sn HO1.out) (by first | omega | (simp; omega)) (by intro k hk; exact HIN.out k (by simpa using hk))).mono ?_)
            rintro e wz ⟨rfl, hBz⟩
            have hBf : Below w.heap.size w wz := hB1.trans (hBz.mono hB1.size)
            clear hBz
            go_wp2
            go_ret
            exact ⟨retb (by rw [HW.out, HRW.out, HAL.out, HBL.out]; simp), hBf⟩
    · have HW : Hid (wayF M i x = false) := by unfold Hid wayF; rw [hbad, if_pos rfl]
      clear hbad
      go_wp2
      go_ret
      exact ⟨retb HW.out.symm, hBw⟩
end Go.Proofs.Ytblpajbacdbgpaa
