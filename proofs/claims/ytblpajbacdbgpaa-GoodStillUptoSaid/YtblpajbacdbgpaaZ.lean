/-
  Contract of good's held. Condition: the expression is laid as data.
-/
import Derived.Test.YtblpajbacdbgpaaL
import Derived.Test.YtblpajbacdbgpaaP
import Derived.Deep.RegionHeld3
import Derived.Deep.AppendLies
import Derived.Deep.RegionLaw
namespace Go.Proofs.Ytblpajbacdbgpaa
open Go.ChangeShapes Go.WideShapes Go.ChangeAt Go.RowKit Go.Deep Go.Joins
def ExD.val' (x : ExD) : Value := .agg #[.int .i64 x.op, .int .i64 x.n, .int .i64 x.a, .int .i64 x.b, .int .i64 x.c, .int .i64 x.scope, .int .i64 x.slot, .int .i64 x.who, .int .i64 x.ty, x.dv, x.av, x.mv]
def headL (x : ExD) : List Int := [x.a, x.b, x.c].take (partsF x.op)
def argsL (x : ExD) : List Int := if x.op = 30 ∨ x.op = 39 then x.args else []
def whoL (x : ExD) : List Int := if x.scope = 2 then [x.who] else []
def varL (x : ExD) : List Int := if x.op = 2 then whoL x ++ x.dims.map (·.i) else []
def heldF (x : ExD) : List Int := headL x ++ (argsL x ++ varL x)
/-- A row of the call's own, of integers. -/
def Own (base : Nat) (w : World) (v : Value) (l : List Int) : Prop := w.ownsRow base 3 1 v l.length (l.map fun y => iEnc y 0)
theorem partsF_le' (op : Int) : partsF op ≤ 3 := by unfold partsF; split <;> (try split) <;> (try split) <;> omega
theorem own_grown (W0 : World) (o : Obj) (xs : Array Value) (m base : Nat) (hm : xs.size = m) (hb : base ≤ W0.heap.size) (hml : m ≤ maxLen) :
    ((W0.alloc o).alloc (.cells (xs ++ Builtin.zeroCells #[.int .i64 0] ((Question.appendCap m 0 3).cut (W0.tape (W0.drawn + 1) (Question.appendCap m 0 3)) - m)) 3)).drew.drew.ownsRow base 3 1
      (.slice (some ⟨W0.heap.size + 1, 0, none⟩) m ((Question.appendCap m 0 3).cut (W0.tape (W0.drawn + 1) (Question.appendCap m 0 3)))) m xs.toList := by
  have h1 : m ≤ (Question.appendCap m 0 3).cut (W0.tape (W0.drawn + 1) (Question.appendCap m 0 3)) := grownCap_ge W0.drew m 0 3
  have h2 : (Question.appendCap m 0 3).cut (W0.tape (W0.drawn + 1) (Question.appendCap m 0 3)) ≤ maxLen := grownCap_le_maxLen W0.drew m 0 3 hml
  generalize (Question.appendCap m 0 3).cut (W0.tape (W0.drawn + 1) (Question.appendCap m 0 3)) = c at *
  refine ⟨by simpa using hm, .inr ⟨W0.heap.size + 1, c, xs ++ Builtin.zeroCells #[.int .i64 0] (c - m), rfl, by omega, ?_, h1, h2, ?_, ?_⟩⟩
  · have := heap_alloc_new (W0.alloc o) (.cells (xs ++ Builtin.zeroCells #[.int .i64 0] (c - m)) 3)
    rw [World.size_alloc] at this
    exact this
  · rw [Array.size_append, size_zeroCells, hm]; simp; omega
  · rw [Array.toList_append, Nat.mul_one, ← hm]
    simp
theorem own_shape {base : Nat} {w : World} {v : Value} {l : List Int} (h : Own base w v l) : ∃ ao cap, v = .slice ao l.length cap := by
  rcases h.2 with ⟨rfl, h0⟩ | ⟨g, cap, cur, rfl, _⟩
  · rw [h0]; exact ⟨none, 0, rfl⟩
  · exact ⟨_, cap, rfl⟩
theorem own_mono {base base' : Nat} {w : World} {v : Value} {l : List Int} (h : Own base w v l) (hb : base' ≤ base) : Own base' w v l := by
  refine ⟨h.1, ?_⟩
  rcases h.2 with h0 | ⟨g, cap, cur, h1, h2, h3⟩
  · exact .inl h0
  · exact .inr ⟨g, cap, cur, h1, by omega, h3⟩
theorem one_ints {l : List Int} : ∀ y ∈ l, (iEnc y 0).oneCell' = true := fun _ _ => rfl
theorem sn_some {ad : Addr} {n cap : Nat} : Sn (.slice (some ad) n cap) := fun _ _ h => by simp at h
def HeldPost (x : ExD) (w : World) (e : Ending) (w' : World) : Prop := ∃ v, e = .returned v ∧ Own w.heap.size w' v (heldF x) ∧ Below w.heap.size w w'
set_option maxHeartbeats 4000000 in
set_option maxRecDepth 100000 in
theorem held_any (x : ExD) (w0 w : World) (hx : x.ok w0) (hB : Below w0.heap.size w0 w) :
    Calls Try.prog 22 #[x.val'] w (HeldPost x w) := by
  obtain ⟨i0, hi, hz0, hz1, hz2⟩ := info_parts Try.info3
  have HAV := Lib.hid hx.av
  have HAN := Lib.hid hx.an
  obtain ⟨ad, cd, hvd, -, -, hcd⟩ := hx.dv
  obtain ⟨aa, ca, hva, -, -, -⟩ := hx.av
  obtain ⟨am, cm, hvm, -, -, -⟩ := hx.mv
  have haz := hx.az
  have hdz := hx.dz
  have HD := Lib.hid hcd
  have HBw := Lib.hid hB
  have hsz := hB.size
  unfold ExD.val'
  rw [hva] at HAV HAN
  rw [hvd, hva, hvm]
  clear hvd hva hvm hx hcd hB
  obtain ⟨np, hnp⟩ : ∃ np, partsF x.op = np := ⟨_, rfl⟩
  have hnp3 : np ≤ 3 := by rw [← hnp]; exact partsF_le' _
  have HNP := Lib.hid hnp
  clear hnp
  go_enter Try.func22, Try.ntmps22
  go_upto_region 1 with fail
  generalize hbx : w.alloc (.cells #[.int .i64 x.op, .int .i64 x.n, .int .i64 x.a, .int .i64 x.b, .int .i64 x.c, .int .i64 x.scope, .int .i64 x.slot, .int .i64 x.who, .int .i64 x.ty, .slice ad x.dims.length cd, .slice aa x.args.length ca, .slice am x.mat.length cm] 68) = W0 at *
  have hW0 : Hid (Below w.heap.size w W0) := by rw [← hbx]; exact (Below.refl _ _).alloc (Nat.le_refl _) _
  have hz0' : Hid (W0.heap.size = w.heap.size + 1) := by rw [← hbx]; unfold Hid; simp
  have k0 : W0.cell? ⟨w.heap.size, 0, none⟩ = some (.int .i64 x.op) := by rw [← hbx]; simp [go_sem]
  have k2 : W0.cell? ⟨w.heap.size, 2, none⟩ = some (.int .i64 x.a) := by rw [← hbx]; simp [go_sem]
  have k3 : W0.cell? ⟨w.heap.size, 3, none⟩ = some (.int .i64 x.b) := by rw [← hbx]; simp [go_sem]
  have k4 : W0.cell? ⟨w.heap.size, 4, none⟩ = some (.int .i64 x.c) := by rw [← hbx]; simp [go_sem]
  have k5 : W0.cell? ⟨w.heap.size, 5, none⟩ = some (.int .i64 x.scope) := by rw [← hbx]; simp [go_sem]
  have k7 : W0.cell? ⟨w.heap.size, 7, none⟩ = some (.int .i64 x.who) := by rw [← hbx]; simp [go_sem]
  have k9 : W0.cell? ⟨w.heap.size, 9, none⟩ = some (.slice ad x.dims.length cd) := by rw [← hbx]; simp [go_sem]
  have k10 : W0.cell? ⟨w.heap.size, 10, none⟩ = some (.slice aa x.args.length ca) := by rw [← hbx]; simp [go_sem]
  clear hbx
  go_cut [3] (fun s3 wx => Own (w.heap.size + 1) wx s3 (headL x) ∧ Below W0.heap.size W0 wx)
  case first =>
    have hnp4 : np = 0 ∨ np = 1 ∨ np = 2 ∨ np = 3 := by omega
    rcases hnp4 with rfl | rfl | rfl | rfl
    all_goals
      go_region_held3 (fun w' => w'.cell? ⟨w.heap.size, 0, none⟩ = some (.int .i64 x.op) ∧ w'.cell? ⟨w.heap.size, 2, none⟩ = some (.int .i64 x.a) ∧ w'.cell? ⟨w.heap.size, 3, none⟩ = some (.int .i64 x.b) ∧ w'.cell? ⟨w.heap.size, 4, none⟩ = some (.int .i64 x.c))
        (first | (go_split_ands; refine ⟨?_, ?_, ?_, ?_⟩ <;> assumption) | go_keep)
        (first | (go_at_call 26; (with_reducible refine (parts_any _ _).mono ?_); rintro e w1 ⟨rfl, rfl⟩; rw [HNP.out]))
      all_goals
        clear k0 k2 k3 k4 k5 k7 k9 k10
        go_wp2_with fail
        go_meet
        refine ⟨?_, ?_⟩
        · unfold Own headL
          rw [HNP.out]
          first
            | exact World.ownsRow_nil _ _ _ _
            | exact own_grown W0 _ #[.int .i64 x.a] 1 _ rfl (by have := hz0'.out; omega) (by decide)
            | exact own_grown W0 _ #[.int .i64 x.a, .int .i64 x.b] 2 _ rfl (by have := hz0'.out; omega) (by decide)
            | exact own_grown W0 _ #[.int .i64 x.a, .int .i64 x.b, .int .i64 x.c] 3 _ rfl (by have := hz0'.out; omega) (by decide)
        · first
            | exact ((Below.refl _ _).alloc (Nat.le_refl _) _).drew
            | exact (((Below.refl _ _).alloc (Nat.le_refl _) _).alloc (by simp) _).drew.drew
  case rest =>
    obtain ⟨hown, hBW⟩ := hcut
    have hz := hBW.size
    have hzz := hz0'.out
    have hzc : w.heap.size + 1 ≤ wc.heap.size := by omega
    clear hzz
    have hlt0 : w.heap.size < W0.heap.size := by have := hz0'.out; omega
    have r0 := (hBW.cell (p := ⟨w.heap.size, 0, none⟩) hlt0).trans k0
    have r5 := (hBW.cell (p := ⟨w.heap.size, 5, none⟩) hlt0).trans k5
    have r7 := (hBW.cell (p := ⟨w.heap.size, 7, none⟩) hlt0).trans k7
    have r9 := (hBW.cell (p := ⟨w.heap.size, 9, none⟩) hlt0).trans k9
    have r10 := (hBW.cell (p := ⟨w.heap.size, 10, none⟩) hlt0).trans k10
    have K9 := Lib.hid k9
    have K0 := Lib.hid k0
    clear k0 k2 k3 k4 k5 k7 k9 k10
    have HOW := Lib.hid hown
    clear hown
    have hBw : Hid (Below w.heap.size w wc) := hW0.out.trans (hBW.mono hW0.out.size)
    have hhl : (headL x).length ≤ 3 := by unfold headL; rw [List.length_take]; simp; omega
    obtain ⟨ah, ch, rfl⟩ := own_shape HOW.out
    by_cases hA : x.op = 30 ∨ x.op = 39
    · have HL : Hid (heldF x = headL x ++ x.args) := by
        unfold Hid heldF argsL varL
        rw [if_pos hA, if_neg (by omega), List.append_nil]
      have q2 : (x.op == 2) = false := by simp; omega
      have q30 : (x.op == 30) = true ∨ ((x.op == 30) = false ∧ (x.op == 39) = true) := by
        by_cases h : x.op = 30
        · exact .inl (by simpa using h)
        · exact .inr ⟨by simpa using h, by simp; omega⟩
      clear hA
      rcases q30 with q30 | ⟨q30, q39⟩
      all_goals
        go_wp2_with (at_builtin; refine wpList_append_sl (enc := iEnc) (v := .slice ah (headL x).length ch) (n := (headL x).length) (xs := (headL x).map fun y => iEnc y 0) (v2 := .slice aa x.args.length ca) (l2 := x.args) rfl _ _ 35 rfl (w.heap.size + 1) 3 i0 _ 8 Try.underlying35 hi hz0 hz1 hz2 rfl rfl HOW.out rfl (HAV.out.keep (HBw.out.trans (hBw.out.mono hsz))) HAN.out one_ints (by unfold maxLen; omega) (by omega) hzc ?_)
        intro v' w1 hown' hgrow
        have HO3 : Hid (Own (w.heap.size + 1) w1 v' (heldF x)) := by
          unfold Hid Own
          rw [HL.out, List.length_append, List.map_append]
          exact hown'
        have hB3 : Below W0.heap.size W0 w1 := hBW.grown hgrow hz (fun k' hk' => by have := (HOW.out.lt k' hk').1; have := hz0'.out; omega)
        have hB4 : Below w.heap.size w w1 := hW0.out.trans (hB3.mono hW0.out.size)
        have r0' := (hB3.cell (p := ⟨w.heap.size, 0, none⟩) hlt0).trans K0.out
        clear hown' hgrow
        go_wp2_with fail
        go_ret
        exact ⟨v', rfl, own_mono HO3.out (by omega), hB4⟩
    · have q30 : (x.op == 30) = false := by simp; omega
      have q39 : (x.op == 39) = false := by simp; omega
      by_cases h2 : x.op = 2
      · have q2 : (x.op == 2) = true := by simpa using h2
        by_cases hsc : x.scope = 2
        · have qs : (x.scope == 2) = true := by simpa using hsc
          have HL0 : Hid (heldF x = (headL x ++ [x.who]) ++ x.dims.map (·.i)) := by
            unfold Hid heldF argsL varL whoL
            rw [if_neg hA, if_pos h2, if_pos hsc, List.nil_append, List.append_assoc]
          clear hA h2 hsc
          go_wp2_with (at_builtin; refine wpList_append_sl (enc := iEnc) (v := .slice ah (headL x).length ch) (n := (headL x).length) (xs := (headL x).map fun y => iEnc y 0) (v2 := .slice (some ⟨wc.heap.size, 0, none⟩) 1 1) (l2 := [x.who]) rfl _ _ 35 rfl (w.heap.size + 1) 3 i0 _ 8 Try.underlying35 hi hz0 hz1 hz2 rfl rfl (HOW.out.alloc _) rfl (sl_at rfl) sn_some one_ints (by unfold maxLen; simp; omega) (by simp; omega) (by simp; omega) ?_)
          intro v' w1 hown' hgrow
          have hownC : Own (w.heap.size + 1) w1 v' (headL x ++ [x.who]) := by
            unfold Own
            rw [List.length_append, List.map_append]
            exact hown'
          have hBC : Below W0.heap.size W0 w1 := (hBW.alloc hz _).grown hgrow (by simp; omega) (fun k' hk' => by have := (HOW.out.lt k' hk').1; have := hz0'.out; omega)
          have r0' := (hBC.cell (p := ⟨w.heap.size, 0, none⟩) hlt0).trans K0.out
          have r9' := (hBC.cell (p := ⟨w.heap.size, 9, none⟩) hlt0).trans K9.out
          clear hown' hgrow
          have hhl2 : (headL x ++ [x.who]).length ≤ 4 := by rw [List.length_append]; simp; omega
          have hz2x := hz2
          have HO := Lib.hid hownC
          have hBz := hBC.size
          clear hownC
          go_wp2_with fail
          go_loopg [47, 3] x.dims.length (fun gg i v wr => ∃ k : Nat, k ≤ x.dims.length ∧ gg = x.dims.length - k ∧ i = .int .i64 k ∧ Hid (Own (w.heap.size + 1) wr v ((headL x ++ [x.who]) ++ (x.dims.take k).map (·.i))) ∧ Below W0.heap.size W0 wr)
          case atStart => exact ⟨0, Nat.zero_le _, by omega, rfl, by simpa using HO, hBC⟩
          case round =>
            obtain ⟨k, hk, rfl, rfl, HO2, hB2⟩ := hrel
            have hBw2 : Below w.heap.size w wr := hW0.out.trans (hB2.mono hW0.out.size)
            have hzw2 := hB2.size
            have hz2' := hz0'.out
            have hzr : w.heap.size + 1 ≤ wr.heap.size := by omega
            clear hz2'
            by_cases hlt : k < x.dims.length
            · obtain ⟨bd, offd, rfl, hbd, hcd⟩ := HD.out (by omega)
              have hB00 : Below w0.heap.size w0 wr := HBw.out.trans (hBw2.mono hsz)
              have d0 := (hB00.cell (p := ⟨bd, offd + k * 3 + 0, none⟩) hbd).trans (hcd k hlt 0 (by omega))
              have d1 := (hB00.cell (p := ⟨bd, offd + k * 3 + 1, none⟩) hbd).trans (hcd k hlt 1 (by omega))
              have d2 := (hB00.cell (p := ⟨bd, offd + k * 3 + 2, none⟩) hbd).trans (hcd k hlt 2 (by omega))
              simp only [Dim.enc, Nat.add_zero] at d0 d1 d2
              have HTK : Hid ((headL x ++ [x.who]) ++ (x.dims.take (k + 1)).map (·.i) = ((headL x ++ [x.who]) ++ (x.dims.take k).map (·.i)) ++ [(x.dims.getD k default).i]) := by
                unfold Hid
                rw [List.take_succ_eq_append_getElem hlt, List.map_append, ← List.append_assoc]
                simp [List.getD_eq_getElem?_getD, hlt]
              have hlen : ((headL x ++ [x.who]) ++ (x.dims.take k).map (·.i)).length ≤ 1048580 := by
                rw [List.length_append, List.length_map, List.length_take]; omega
              clear hcd hB00
              generalize x.dims.getD k default = d at *
              generalize (headL x ++ [x.who]) ++ (x.dims.take k).map (·.i) = Lk at *
              obtain ⟨av, cv, rfl⟩ := own_shape HO2.out
              go_wp2_with (at_builtin; refine wpList_append_sl (enc := iEnc) (v := .slice av Lk.length cv) (n := Lk.length) (xs := Lk.map fun y => iEnc y 0) (v2 := .slice (some ⟨wr.heap.size + 1, 0, none⟩) 1 1) (l2 := [d.i]) rfl _ _ 35 rfl (w.heap.size + 1) 3 i0 _ 8 Try.underlying35 hi hz0 hz1 hz2x rfl rfl ((HO2.out.alloc _).alloc _) rfl (sl_at (by simp)) sn_some one_ints (by unfold maxLen; simp; omega) (by simp; omega) (by simp; omega) ?_)
              intro v' w1 hown' hgrow
              have HO3 : Hid (Own (w.heap.size + 1) w1 v' ((headL x ++ [x.who]) ++ (x.dims.take (k + 1)).map (·.i))) := by
                unfold Hid Own
                rw [HTK.out, List.length_append, List.map_append]
                exact hown'
              have hB3 : Below W0.heap.size W0 w1 := ((hB2.alloc hzw2 _).alloc (by simp; omega) _).grown hgrow (by simp; omega) (fun k' hk' => by have := (HO2.out.lt k' hk').1; have := hz0'.out; omega)
              clear hown' hgrow
              go_wp2_with fail
              go_roundg (x.dims.length - (k + 1))
              case measure => omega
              case rel => exact ⟨k + 1, by omega, rfl, by go_num, HO3, hB3⟩
            · have HF0 := HO2.out
              rw [show k = x.dims.length by omega, List.take_length, ← HL0.out] at HF0
              have HF := Lib.hid HF0
              clear HF0
              go_wp2_with fail
              go_ret
              exact ⟨_, rfl, own_mono HF.out (by omega), hBw2⟩
        · have qs : (x.scope == 2) = false := by simpa using hsc
          have HL0 : Hid (heldF x = headL x ++ x.dims.map (·.i)) := by
            unfold Hid heldF argsL varL whoL
            rw [if_neg hA, if_pos h2, if_neg hsc, List.nil_append, List.nil_append]
          clear hA h2 hsc
          have hownC := HOW.out
          have hBC := hBW
          have hz2x := hz2
          have HO := Lib.hid hownC
          have hBz := hBC.size
          clear hownC
          go_wp2_with fail
          go_loopg [47, 3] x.dims.length (fun gg i v wr => ∃ k : Nat, k ≤ x.dims.length ∧ gg = x.dims.length - k ∧ i = .int .i64 k ∧ Hid (Own (w.heap.size + 1) wr v (headL x ++ (x.dims.take k).map (·.i))) ∧ Below W0.heap.size W0 wr)
          case atStart => exact ⟨0, Nat.zero_le _, by omega, rfl, by simpa using HO, hBC⟩
          case round =>
            obtain ⟨k, hk, rfl, rfl, HO2, hB2⟩ := hrel
            have hBw2 : Below w.heap.size w wr := hW0.out.trans (hB2.mono hW0.out.size)
            have hzw2 := hB2.size
            have hz2' := hz0'.out
            have hzr : w.heap.size + 1 ≤ wr.heap.size := by omega
            clear hz2'
            by_cases hlt : k < x.dims.length
            · obtain ⟨bd, offd, rfl, hbd, hcd⟩ := HD.out (by omega)
              have hB00 : Below w0.heap.size w0 wr := HBw.out.trans (hBw2.mono hsz)
              have d0 := (hB00.cell (p := ⟨bd, offd + k * 3 + 0, none⟩) hbd).trans (hcd k hlt 0 (by omega))
              have d1 := (hB00.cell (p := ⟨bd, offd + k * 3 + 1, none⟩) hbd).trans (hcd k hlt 1 (by omega))
              have d2 := (hB00.cell (p := ⟨bd, offd + k * 3 + 2, none⟩) hbd).trans (hcd k hlt 2 (by omega))
              simp only [Dim.enc, Nat.add_zero] at d0 d1 d2
              have HTK : Hid (headL x ++ (x.dims.take (k + 1)).map (·.i) = (headL x ++ (x.dims.take k).map (·.i)) ++ [(x.dims.getD k default).i]) := by
                unfold Hid
                rw [List.take_succ_eq_append_getElem hlt, List.map_append, ← List.append_assoc]
                simp [List.getD_eq_getElem?_getD, hlt]
              have hlen : (headL x ++ (x.dims.take k).map (·.i)).length ≤ 1048580 := by
                rw [List.length_append, List.length_map, List.length_take]; omega
              clear hcd hB00
              generalize x.dims.getD k default = d at *
              generalize headL x ++ (x.dims.take k).map (·.i) = Lk at *
              obtain ⟨av, cv, rfl⟩ := own_shape HO2.out
              go_wp2_with (at_builtin; refine wpList_append_sl (enc := iEnc) (v := .slice av Lk.length cv) (n := Lk.length) (xs := Lk.map fun y => iEnc y 0) (v2 := .slice (some ⟨wr.heap.size + 1, 0, none⟩) 1 1) (l2 := [d.i]) rfl _ _ 35 rfl (w.heap.size + 1) 3 i0 _ 8 Try.underlying35 hi hz0 hz1 hz2x rfl rfl ((HO2.out.alloc _).alloc _) rfl (sl_at (by simp)) sn_some one_ints (by unfold maxLen; simp; omega) (by simp; omega) (by simp; omega) ?_)
              intro v' w1 hown' hgrow
              have HO3 : Hid (Own (w.heap.size + 1) w1 v' (headL x ++ (x.dims.take (k + 1)).map (·.i))) := by
                unfold Hid Own
                rw [HTK.out, List.length_append, List.map_append]
                exact hown'
              have hB3 : Below W0.heap.size W0 w1 := ((hB2.alloc hzw2 _).alloc (by simp; omega) _).grown hgrow (by simp; omega) (fun k' hk' => by have := (HO2.out.lt k' hk').1; have := hz0'.out; omega)
              clear hown' hgrow
              go_wp2_with fail
              go_roundg (x.dims.length - (k + 1))
              case measure => omega
              case rel => exact ⟨k + 1, by omega, rfl, by go_num, HO3, hB3⟩
            · have HF0 := HO2.out
              rw [show k = x.dims.length by omega, List.take_length, ← HL0.out] at HF0
              have HF := Lib.hid HF0
              clear HF0
              go_wp2_with fail
              go_ret
              exact ⟨_, rfl, own_mono HF.out (by omega), hBw2⟩
      · have HL : Hid (heldF x = headL x) := by
          unfold Hid heldF argsL varL
          rw [if_neg hA, if_neg h2, List.append_nil, List.append_nil]
        have q2 : (x.op == 2) = false := by simpa using h2
        clear hA h2
        go_wp2_with fail
        go_ret
        exact ⟨_, rfl, by rw [HL.out]; exact own_mono HOW.out (by omega), hBw.out⟩
end Go.Proofs.Ytblpajbacdbgpaa
