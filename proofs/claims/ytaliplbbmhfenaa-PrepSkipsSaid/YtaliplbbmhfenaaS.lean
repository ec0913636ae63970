/-
  The closure of Macros on a define and tokens behind it.
-/
import Derived.Test.YtaliplbbmhfenaaR
namespace Go.Proofs.Ytaliplbbmhfenaa
open Go.MapKept Go.ChangeShapes Go.WideShapes Go.ChangeAt Go.RowKit Go.Deep Go.Joins Go.Instr
theorem dir_define' (d x : TkD) (B : List TkD) (zz : ByteArray) (b off m q : Nat) (at_ : Int) (wb kb clock : Nat) (o : Value) (us : Int) (w : World) (hq : q = m + 1)
    (hs : Sl w 5 TkD.enc (.slice (some ⟨b, off, none⟩) q q) (d :: x :: B)) (hd : d.kind = 1) (hdt : d.text = ⟨#[100, 101, 102, 105, 110, 101]⟩) (hx : x.kind = 1) (hz : x.text = zz) (hnd : ¬ zz = ⟨#[100, 101, 102, 105, 110, 101, 100]⟩) (hno : ∀ t ∈ B, isF 4 t ⟨#[40]⟩ = false) (hlen : m ≤ 10000)
    (hw : Wk w wb false kb (.slice none 0 0) us o) (hm : w.heap[kb]? = some (.map #[] clock)) :
    Calls Try.prog 17 #[.pointer (some ⟨wb, 0, none⟩), .slice (some ⟨b, off, none⟩) q q, .int .i64 at_] w (DefP w kb clock zz B) := by
  subst hq
  exact dir_define d x B zz b off m (m + 1) at_ wb kb clock o us w hs hd hdt hx hz hnd hno hlen hw hm
theorem own_nmap {w : World} {base kb clock : Nat} {es : Array MapEntry} {v : Value} {n : Nat} {xs : List Value} (h : w.ownsRow base 25 5 v n xs) (hm : w.heap[kb]? = some (.map es clock)) : v.ownBlock ≠ some kb := by
  intro e
  rcases h.2 with ⟨rfl, _⟩ | ⟨g, cap, cur, rfl, _, hh, _⟩
  · simp [Value.ownBlock] at e
  · obtain rfl : g = kb := by simpa [Value.ownBlock] using e
    rw [hm] at hh
    simp at hh
/-- What the closure comes to: tokens told. -/
def ClP (w : World) (base wb kb : Nat) (R : List TkD) (e : Ending) (w' : World) : Prop :=
  e = .returned (.tuple #[]) ∧ ∃ us' o', Wk w' wb false kb (.slice none 0 0) us' o' ∧ w'.ownsRow base 25 5 o' R.length (fl R) ∧ OutsP (fun k => k = wb ∨ k = kb) w w' ∧ ∀ g, o'.ownBlock = some g → w.heap.size ≤ g
/-- Behind the define: so many tokens have been put into the row. -/
def PhB (w wr : World) (base wb kb clock p : Nat) (zz : ByteArray) (B L : List TkD) (r i : Value) : Prop :=
  ∃ (W6 : World) (j ik : Nat) (ba : Option Addr) (bc : Nat) (o' : Value), j ≤ L.length ∧ ik = p + j ∧ i = .int .i64 (ik : Int) ∧ Hid (wr.ownsRow W6.heap.size 25 5 r j (fl (L.take j))) ∧ Hid (Below W6.heap.size W6 wr) ∧ Hid (Wk W6 wb false kb (.slice none 0 0) 0 o') ∧ Hid (W6.ownsRow base 25 5 o' 0 (fl [])) ∧ Hid (∀ g, o'.ownBlock = some g → w.heap.size ≤ g) ∧
    Hid (Sl W6 5 TkD.enc (.slice ba B.length bc) B) ∧ Hid (W6.heap[kb]? = some (.map #[{ key := .string zz, val := (MacD.mk false none 0 0 ba B.length bc).val, born := clock }] (clock + 1))) ∧ Hid (OutsP (fun k => k = wb ∨ k = kb) w W6)
set_option maxRecDepth 100000 in
set_option maxHeartbeats 16000000 in
theorem mac1_once (h d x : TkD) (B L : List TkD) (zz : ByteArray) (b off m p n c : Nat) (tk : TkD) (base wb kb clock : Nat) (w : World)
    (hs : Sl w 5 TkD.enc (.slice (some ⟨b, off, none⟩) n c) (h :: d :: x :: (B ++ L))) (hmB : m = B.length + 1) (hp : p = m + 2) (hn : n = p + L.length)
    (hh : isF 4 h ⟨#[35]⟩ = true) (hd : d.kind = 1) (hdt : d.text = ⟨#[100, 101, 102, 105, 110, 101]⟩) (hx : x.kind = 1) (hz : x.text = zz) (hnd : ¬ zz = ⟨#[100, 101, 102, 105, 110, 101, 100]⟩)
    (hno : ∀ t ∈ B, isF 4 t ⟨#[40]⟩ = false) (hpl : ∀ t ∈ B, t.kind = 1 → t.text ≠ zz) (hl1 : d.line = h.line) (hl2 : x.line = h.line) (hl3 : ∀ t ∈ B, t.line = h.line) (hl4 : ∀ t ∈ L, ¬ t.line = h.line) (hLno : ∀ t ∈ L, isF 4 t ⟨#[35]⟩ = false)
    (hus : usL zz L ≤ 4000) (hlen : (exL zz B L).length ≤ 8192) (hBl : B.length ≤ 4000) (hLl : L.length ≤ 4000)
    (hbase : base ≤ w.heap.size) (hw : Wk w wb false kb (.slice none 0 0) 0 (.slice none 0 0)) (hm : w.heap[kb]? = some (.map #[] clock)) :
    Calls Try.prog 13 #[.pointer (some ⟨wb, 0, none⟩), .slice (some ⟨b, off, none⟩) n c, tk.val] w (ClP w base wb kb (exL zz B L)) := by
  have HTl : Hid ((h :: d :: x :: (B ++ L)).length = n) := by unfold Hid; simp; omega
  have HSm : Hid (Sl w 5 TkD.enc (.slice (some ⟨b, off + 5, none⟩) (m + 1) (m + 1)) (d :: x :: B)) := by
    obtain ⟨a, cap, e, h2, h3, h4⟩ := hs
    injection e with e1 e2 e3
    subst e1; subst e3
    refine ⟨some ⟨b, off + 5, none⟩, m + 1, by simp; omega, by simp; omega, by unfold maxLen; omega, fun hp => ?_⟩
    obtain ⟨b', off', e, hb, hc⟩ := h4 (by simp)
    injection e with e
    injection e with e1 e2 _
    subst e1; subst e2
    refine ⟨b, off + 5, rfl, hb, fun i hi j hj => ?_⟩
    simp at hi
    have := hc (i + 1) (by simp; omega) j hj
    rw [show off + 5 + i * 5 + j = off + (i + 1) * 5 + j by omega, this]
    match i with
    | 0 => rfl
    | 1 => rfl
    | q + 2 => simp [List.getD_eq_getElem?_getD, List.getElem?_append, show q < B.length by omega]
  obtain ⟨_, _, e, _, hA⟩ := sl_open hs
  injection e with e1 e2 e3
  subst e1; subst e3
  obtain ⟨_, _, e, hb, hc⟩ := hA.out (by simp)
  injection e with e; injection e with e1 e4; subst e1; subst e4
  have hnc : n ≤ c := by obtain ⟨_, _, e, h, _⟩ := hs; injection e with e5 e6 e7; subst e7; rw [e6]; exact h
  have hcm : c ≤ 9223372036854775807 := by obtain ⟨_, _, e, _, h, _⟩ := hs; injection e with e5 e6 e7; subst e7; unfold maxLen at h; omega
  have hwb : wb < w.heap.size := hw.lt
  have hkb : kb < w.heap.size := (Array.getElem?_eq_some_iff.1 hm).1
  have nkb : kb ≠ wb := by rintro rfl; unfold Wk at hw; rw [hw] at hm; simp at hm
  have nbw : b ≠ wb := sl_ne hs (by simp) hw
  have nbk : b ≠ kb := by
    rintro rfl
    have := hc 0 (by simp) 0 (by omega)
    simp [World.cell?, hm] at this
  -- the tokens: the head, the define's line, the rest
  have T0 : Hid (w.cell? ⟨b, off, none⟩ = some (.int .i64 h.kind) ∧ w.cell? ⟨b, off + 1, none⟩ = some (.int .i64 h.at') ∧ w.cell? ⟨b, off + 2, none⟩ = some (.int .i64 h.line) ∧ w.cell? ⟨b, off + 3, none⟩ = some (.string h.text) ∧ w.cell? ⟨b, off + 4, none⟩ = some (.int .i64 h.n)) :=
    tk_cells (w := w) (b := b) (off := off) fun j hj => by
      have := hc 0 (by simp) j hj
      simpa using this
  have TL : Hid (∀ i, 1 ≤ i → i < p → w.cell? ⟨b, off + i * 5 + 2, none⟩ = some (.int .i64 h.line)) := by
    intro i h1 h2
    have := hc i (by simp; omega) 2 (by omega)
    rw [this]
    simp only [TkD.enc]
    match i, h1 with
    | 1, _ => simp [hl1]
    | 2, _ => simp [hl2]
    | q + 3, _ =>
      have hq : q < B.length := by omega
      have := hl3 (B.getD q default) (by simp [List.getD_eq_getElem?_getD, hq])
      simp only [List.getD_eq_getElem?_getD, List.getElem?_cons_succ, List.getElem?_append, hq, if_true] at this ⊢
      rw [this]
  have TR : Hid (∀ j, j < L.length → ∀ q, q < 5 → w.cell? ⟨b, off + (p + j) * 5 + q, none⟩ = some ((L.getD j default).enc q)) := by
    intro j hj q hq
    have := hc (p + j) (by simp; omega) q hq
    rw [this]
    have e : p + j = B.length + j + 3 := by omega
    rw [e]
    simp [List.getD_eq_getElem?_getD, List.getElem?_append, show ¬ B.length + j < B.length by omega]
  clear hc hA hs e2 hl1 hl2 hl3
  have HW := Lib.hid hw; have HM := Lib.hid hm; have HN := Lib.hid hno; have HX := Lib.hid hx; have HZ := Lib.hid hz; have HND := Lib.hid hnd; have HH := Lib.hid hh; have HD := Lib.hid hd; have HDT := Lib.hid hdt; have HPL := Lib.hid hpl; have HL4 := Lib.hid hl4; have HLN := Lib.hid hLno; have HMB := Lib.hid hmB; have HPM := Lib.hid hp; have HNP := Lib.hid hn
  have hm1 : 1 ≤ m := by omega
  have hm2 : m ≤ 4001 := by omega
  have hp1 : 3 ≤ p := by omega
  have hp2 : p ≤ n := by omega
  have hn2 : n ≤ 10000 := by omega
  clear hw hm hno hx hz hnd hh hd hdt hpl hl4 hLno hmB hp hn
  unfold TkD.val
  go_enter Try.func13, Try.ntmps13
  go_wp2_with fail
  go_loopw [6, 7] (fun r i wr => (i = .int .i64 0 ∧ r = .slice none 0 0 ∧ Hid (Below w.heap.size w wr)) ∨ PhB w wr base wb kb clock p zz B L r i) (fun _ i _ => n - (intOf i).toNat)
  case atStart => exact .inl ⟨rfl, rfl, Lib.hid ((Below.refl _ _).alloc (Nat.le_refl _) _)⟩
  case round =>
    rcases hrel with ⟨rfl, rfl, hB⟩ | ⟨W6, j, ik, ba, bc, o', hj, hik, rfl, hown, hbw, hwk, ho', hob, hsb, hmb, hout⟩
    · obtain ⟨wo, rfl⟩ : ∃ wo : World, wo = wr := ⟨_, rfl⟩
      have hsz := hB.out.size
      obtain ⟨c0, c1, c2, c3, c4⟩ := T0.out
      have c0 := (hB.out.cell (p := ⟨b, off, none⟩) hb).trans c0
      have c1 := (hB.out.cell (p := ⟨b, off + 1, none⟩) hb).trans c1
      have c2 := (hB.out.cell (p := ⟨b, off + 2, none⟩) hb).trans c2
      have c3 := (hB.out.cell (p := ⟨b, off + 3, none⟩) hb).trans c3
      have c4 := (hB.out.cell (p := ⟨b, off + 4, none⟩) hb).trans c4
      obtain ⟨x0, x1, x2, x3, x4⟩ := h
      simp only at c0 c1 c2 c3 c4
      go_wp2_with fail
      generalize hW2 : World.alloc wo _ = W2
      have HG : Hid (Below wo.heap.size wo W2) := by rw [← hW2]; exact (Below.refl _ _).alloc (Nat.le_refl _) _
      have hs2 : wo.heap.size < W2.heap.size := by rw [← hW2]; simp [go_sem]
      have t0 : W2.cell? ⟨wo.heap.size, 0, none⟩ = some (.int .i64 x0) := by rw [← hW2]; simp [go_sem]
      have t1 : W2.cell? ⟨wo.heap.size, 1, none⟩ = some (.int .i64 x1) := by rw [← hW2]; simp [go_sem]
      have t2 : W2.cell? ⟨wo.heap.size, 2, none⟩ = some (.int .i64 x2) := by rw [← hW2]; simp [go_sem]
      have t3 : W2.cell? ⟨wo.heap.size, 3, none⟩ = some (.string x3) := by rw [← hW2]; simp [go_sem]
      have t4 : W2.cell? ⟨wo.heap.size, 4, none⟩ = some (.int .i64 x4) := by rw [← hW2]; simp [go_sem]
      clear hW2 c0 c1 c2 c3 c4
      have l0 : ∀ n : Wd (Sb W2), n.w.cell? ⟨wo.heap.size, 0, none⟩ = _ := fun n => n.cell hs2 t0
      have l1 : ∀ n : Wd (Sb W2), n.w.cell? ⟨wo.heap.size, 1, none⟩ = _ := fun n => n.cell hs2 t1
      have l2 : ∀ n : Wd (Sb W2), n.w.cell? ⟨wo.heap.size, 2, none⟩ = _ := fun n => n.cell hs2 t2
      have l3 : ∀ n : Wd (Sb W2), n.w.cell? ⟨wo.heap.size, 3, none⟩ = _ := fun n => n.cell hs2 t3
      have l4 : ∀ n : Wd (Sb W2), n.w.cell? ⟨wo.heap.size, 4, none⟩ = _ := fun n => n.cell hs2 t4
      refine wp_region_quiet_cls (S := Sb W2) (by kernel_rfl) (by kernel_rfl) (Below.refl _ _).drew ?_
      repeat (go_big_quiet_step (first | (go_at_call 14; exact Wd.call _ (mark_is ⟨x0, x1, x2, x3, x4⟩ _ _ _ HH))))
      refine wpQuiet_nil ?_
      intro w3 hw3
      have HB3 : Hid (Below W2.heap.size W2 w3) := Wd.out hw3
      clear l0 l1 l2 l3 l4 hw3
      have HBw3 : Hid (Below w.heap.size w w3) := (hB.out.trans (HG.out.mono hsz)).trans (HB3.out.mono (by omega))
      have hs3 := HB3.out.size
      go_wp2_with fail
      refine (tell_nil base wb kb false (.slice none 0 0) 0 (.slice none 0 0) [] #[] clock (fun _ => none) w3 (HW.out.keep (HBw3.out.block wb hwb)) (World.ownsRow_nil _ _ _ _) (Nat.le_trans hbase HBw3.out.size) ((HBw3.out.block kb hkb).trans HM.out) (fun _ => ⟨none, rfl, rfl⟩) (by simp)).mono ?_
      rintro e w4 ⟨rfl, o4, hW4, hO4, hU4, hb4⟩
      have HU4 : Hid (OutsP (fun k => k = wb) w3 w4) := hU4.mono (fun x hx => .inl (by rcases hx with h | h; exact h; simp [Value.ownBlock] at h))
      have HW4 := Lib.hid hW4
      have HO4 := Lib.hid hO4
      have HB4 : Hid (∀ g, o4.ownBlock = some g → w.heap.size ≤ g) := fun g hg => by
        rcases hb4 g hg with h | h
        · simp [Value.ownBlock] at h
        · have := HBw3.out.size; omega
      clear hU4 hW4 hO4 hb4
      have hs4 := HU4.out.size
      have HK4 : Hid (∀ k, k < w.heap.size → k ≠ wb → w4.heap[k]? = w.heap[k]?) := fun k h1 h2 => (HU4.out.block k (by have := HBw3.out.size; omega) h2).trans (HBw3.out.block k h1)
      have hwne : wo.heap.size ≠ wb := by omega
      have u1 : w4.cell? ⟨wo.heap.size, 1, none⟩ = some (.int .i64 x1) := ((World.cell?_of_block (a := ⟨wo.heap.size, 1, none⟩) (HU4.out.block wo.heap.size (by omega) hwne)).trans (HB3.out.cell (p := ⟨wo.heap.size, 1, none⟩) hs2)).trans t1
      have u2 : w4.cell? ⟨wo.heap.size, 2, none⟩ = some (.int .i64 x2) := ((World.cell?_of_block (a := ⟨wo.heap.size, 2, none⟩) (HU4.out.block wo.heap.size (by omega) hwne)).trans (HB3.out.cell (p := ⟨wo.heap.size, 2, none⟩) hs2)).trans t2
      clear t0 t1 t2 t3 t4
      have hbt : wo.heap.size < w4.heap.size := by omega
      have hbb : b < w4.heap.size := by omega
      have hsw4 : w.heap.size ≤ w4.heap.size := by omega
      go_wp2_with fail
      go_loopw [9] (fun kv wr => ∃ k : Nat, 1 ≤ k ∧ k ≤ p ∧ kv = .int .i64 k ∧ Below w4.heap.size w4 wr) (fun kv _ => p - (intOf kv).toNat)
      case atStart => exact ⟨1, by omega, by omega, rfl, Below.refl _ _⟩
      case round =>
        obtain ⟨k, hk1, hk2, rfl, hq⟩ := hrel
        have hqs := hq.size
        have q2 := (hq.cell (p := ⟨wo.heap.size, 2, none⟩) hbt).trans u2
        have hbtq : wo.heap.size < wr.heap.size := by omega
        have hbbq : b < wr.heap.size := by omega
        by_cases hkm : k < p
        · have e2 := (hq.cell (p := ⟨b, off + k * 5 + 2, none⟩) hbb).trans ((World.cell?_of_block (a := ⟨b, off + k * 5 + 2, none⟩) (HK4.out b hb nbw)).trans (TL.out k hk1 hkm))
          have l1 : ∀ n : Wd (Sb wr), n.w.cell? ⟨wo.heap.size, 2, none⟩ = _ := fun n => n.cell hbtq q2
          have l2 : ∀ n : Wd (Sb wr), n.w.cell? ⟨b, off + k * 5 + 2, none⟩ = _ := fun n => n.cell hbbq e2
          have hklt : (k : Int) < (n : Int) := by omega
          have hkn : decide (k < n) = true := decide_eq_true (by omega)
          have hk0 : (0 : Int) ≤ (k : Int) := by omega
          clear q2 e2
          go_wp2_with fail
          refine wp_region_quiet_cls (S := Sb wr) (by kernel_rfl) (by kernel_rfl) (Below.refl _ _).drew ?_
          repeat (go_big_quiet_step (fail))
          refine wpQuiet_nil ?_
          intro w5 hw5
          have hq5 : Below w4.heap.size w4 w5 := hq.trans ((Wd.out hw5 : Below wr.heap.size wr w5).mono hqs)
          clear l1 l2 hw5
          go_wp2
          go_roundw
          case rel => exact ⟨k + 1, by omega, by omega, by go_num, hq5⟩
          case measure => simp [intOf]; omega
        · obtain rfl : k = p := by omega
          clear hkm hk1 hk2
          have l1 : ∀ n : Wd (Sb wr), n.w.cell? ⟨wo.heap.size, 2, none⟩ = _ := fun n => n.cell hbtq q2
          have hk0 : (0 : Int) ≤ (k : Int) := by omega
          by_cases hL0 : L.length = 0
          · have hkltb : decide (k < n) = false := decide_eq_false (by have := HNP.out; omega)
            clear q2
            go_wp2_with fail
            refine wp_region_quiet_cls (S := Sb wr) (by kernel_rfl) (by kernel_rfl) (Below.refl _ _).drew ?_
            repeat (go_big_quiet_step (fail))
            refine wpQuiet_nil ?_
            intro w5 hw5
            have hq5 : Hid (Below w4.heap.size w4 w5) := hq.trans ((Wd.out hw5 : Below wr.heap.size wr w5).mono hqs)
            clear l1  hw5
            have hs5 := hq5.out.size
            have HUw5 : Hid (OutsP (fun k => k = wb) w w5) := ((OutsP.of_below HBw3.out).trans HU4.out (fun x hx => .inl hx)).trans (OutsP.of_below hq5.out) (fun x hx => .inl hx)
            have HW5 := Lib.hid (HW4.out.keep (hq5.out.block wb HW4.out.lt))
            have HM5 := Lib.hid ((HUw5.out.block kb hkb nkb).trans HM.out)
            have HS5 := Lib.hid (HSm.out.outs HW.out HUw5.out)
            have v1 := (hq5.out.cell (p := ⟨wo.heap.size, 1, none⟩) hbt).trans u1
            clear u1 u2
            have hbt5 : wo.heap.size < w5.heap.size := by omega
            go_wp2_with fail
            have n1 : (1 : Int) ≤ (k : Int) := by omega
            have n2 : (k : Int) ≤ (c : Int) := by omega
            have n3 : ¬ k = 1 := by omega
            have n4 : IntKind.i64.wrap 1 = 1 := rfl
            have n5 : (1 : Int).toNat = 1 := rfl
            go_region_law (first | (go_simp; go_at_call 17; refine (dir_define' d x B zz b (off + 5) m (k - 1) x1 wb kb clock o4 0 w5.drew (by have := HPM.out; omega) (by rw [show k - 1 = m + 1 by have := HPM.out; omega]; exact HS5.out.drew) HD.out HDT.out HX.out HZ.out HND.out HN.out (by omega) HW5.out HM5.out).mono ?_; rintro e w6 ⟨rfl, ba, bc, h1, h2, h3⟩))
            all_goals
              have HP : Hid (PhB w w6 base wb kb clock k zz B L (.slice none 0 0) (.int .i64 k)) := by
                refine ⟨w6, 0, k, ba, bc, o4, Nat.zero_le _, rfl, rfl, World.ownsRow_nil _ _ _ _, Below.refl _ _, HW5.out.keep (h3.block wb HW5.out.lt (fun e => nkb e.symm)), ?_, HB4.out, h1, h2, ((HUw5.out.mono (fun x hx => .inl (.inl hx))).drew).trans h3 (fun x hx => .inl (.inr hx))⟩
                have ho5 : w5.ownsRow base 25 5 o4 0 (fl []) := own_below (by simpa using HO4.out) hq5.out
                exact own_outs (w := w5.drew) ho5 h3 (fun g hg e => own_nmap ho5 HM5.out (by rw [hg, e]))
              clear h1 h2 h3 n1 n2 n3 n4 n5
              go_wp2
              go_roundw
              case rel => exact .inr HP.out
              case measure => simp [intOf]; omega
          · obtain ⟨y2, hy2, hne⟩ : ∃ y2, w.cell? ⟨b, off + k * 5 + 2, none⟩ = some (.int .i64 y2) ∧ ¬ y2 = x2 := ⟨(L.getD 0 default).line, TR.out 0 (by omega) 2 (by omega), HL4.out (L.getD 0 default) (by simp [List.getD_eq_getElem?_getD, show 0 < L.length by omega])⟩
            have e2 := (hq.cell (p := ⟨b, off + k * 5 + 2, none⟩) hbb).trans ((World.cell?_of_block (a := ⟨b, off + k * 5 + 2, none⟩) (HK4.out b hb nbw)).trans hy2)
            clear hy2
            have hneb : (y2 == x2) = false := by rw [beq_eq_false_iff_ne]; exact hne
            have l2 : ∀ n : Wd (Sb wr), n.w.cell? ⟨b, off + k * 5 + 2, none⟩ = _ := fun n => n.cell hbbq e2
            have hklt : (k : Int) < (n : Int) := by have := HNP.out; omega
            have hkn : decide (k < n) = true := decide_eq_true (by omega)
            clear q2 e2
            go_wp2_with fail
            refine wp_region_quiet_cls (S := Sb wr) (by kernel_rfl) (by kernel_rfl) (Below.refl _ _).drew ?_
            repeat (go_big_quiet_step (fail))
            refine wpQuiet_nil ?_
            intro w5 hw5
            have hq5 : Hid (Below w4.heap.size w4 w5) := hq.trans ((Wd.out hw5 : Below wr.heap.size wr w5).mono hqs)
            clear l1 l2 hw5
            have hs5 := hq5.out.size
            have HUw5 : Hid (OutsP (fun k => k = wb) w w5) := ((OutsP.of_below HBw3.out).trans HU4.out (fun x hx => .inl hx)).trans (OutsP.of_below hq5.out) (fun x hx => .inl hx)
            have HW5 := Lib.hid (HW4.out.keep (hq5.out.block wb HW4.out.lt))
            have HM5 := Lib.hid ((HUw5.out.block kb hkb nkb).trans HM.out)
            have HS5 := Lib.hid (HSm.out.outs HW.out HUw5.out)
            have v1 := (hq5.out.cell (p := ⟨wo.heap.size, 1, none⟩) hbt).trans u1
            clear u1 u2
            have hbt5 : wo.heap.size < w5.heap.size := by omega
            go_wp2_with fail
            have n1 : (1 : Int) ≤ (k : Int) := by omega
            have n2 : (k : Int) ≤ (c : Int) := by omega
            have n3 : ¬ k = 1 := by omega
            have n4 : IntKind.i64.wrap 1 = 1 := rfl
            have n5 : (1 : Int).toNat = 1 := rfl
            go_region_law (first | (go_simp; go_at_call 17; refine (dir_define' d x B zz b (off + 5) m (k - 1) x1 wb kb clock o4 0 w5.drew (by have := HPM.out; omega) (by rw [show k - 1 = m + 1 by have := HPM.out; omega]; exact HS5.out.drew) HD.out HDT.out HX.out HZ.out HND.out HN.out (by omega) HW5.out HM5.out).mono ?_; rintro e w6 ⟨rfl, ba, bc, h1, h2, h3⟩))
            all_goals
              have HP : Hid (PhB w w6 base wb kb clock k zz B L (.slice none 0 0) (.int .i64 k)) := by
                refine ⟨w6, 0, k, ba, bc, o4, Nat.zero_le _, rfl, rfl, World.ownsRow_nil _ _ _ _, Below.refl _ _, HW5.out.keep (h3.block wb HW5.out.lt (fun e => nkb e.symm)), ?_, HB4.out, h1, h2, ((HUw5.out.mono (fun x hx => .inl (.inl hx))).drew).trans h3 (fun x hx => .inl (.inr hx))⟩
                have ho5 : w5.ownsRow base 25 5 o4 0 (fl []) := own_below (by simpa using HO4.out) hq5.out
                exact own_outs (w := w5.drew) ho5 h3 (fun g hg e => own_nmap ho5 HM5.out (by rw [hg, e]))
              clear h1 h2 h3 n1 n2 n3 n4 n5
              go_wp2
              go_roundw
              case rel => exact .inr HP.out
              case measure => simp [intOf]; omega
    · have hsz := hbw.out.size
      have hs6 := hout.out.size
      have hwb6 := hwk.out.lt
      have hkb6 : kb < W6.heap.size := (Array.getElem?_eq_some_iff.1 hmb.out).1
      have HIK := Lib.hid hik
      have hikn : ik ≤ n := by have := HNP.out; omega
      by_cases hlt : j < L.length
      · have cc := tk_cells (w := wr) (b := b) (off := off + ik * 5) (x := L.getD j default) fun q hq => by
          have h1 := TR.out j hlt q hq
          rw [← hik] at h1
          exact (((hbw.out.cell (p := ⟨b, off + ik * 5 + q, none⟩) (by show b < W6.heap.size; omega)).trans (World.cell?_of_block (a := ⟨b, off + ik * 5 + q, none⟩) (hout.out.block b hb (fun h => by rcases h with h | h; exact nbw h; exact nbk h)))).trans h1)
        have HXX := Lib.hid (HLN.out (L.getD j default) (by simp [List.getD_eq_getElem?_getD, hlt]))
        have HT := Lib.hid (take_snoc L j hlt)
        have hikl : ik < n := by have := HNP.out; omega
        clear hik
        generalize L.getD j default = xx at *
        obtain ⟨x0, x1, x2, x3, x4⟩ := xx
        obtain ⟨c0, c1, c2, c3, c4⟩ := cc
        simp only at c0 c1 c2 c3 c4
        have hik0 : (0 : Int) ≤ (ik : Int) := by omega
        go_wp2_with fail
        generalize hW2 : World.alloc wr _ = W2
        have HG : Hid (Below wr.heap.size wr W2) := by rw [← hW2]; exact (Below.refl _ _).alloc (Nat.le_refl _) _
        have hs2 : wr.heap.size < W2.heap.size := by rw [← hW2]; simp [go_sem]
        have t0 : W2.cell? ⟨wr.heap.size, 0, none⟩ = some (.int .i64 x0) := by rw [← hW2]; simp [go_sem]
        have t1 : W2.cell? ⟨wr.heap.size, 1, none⟩ = some (.int .i64 x1) := by rw [← hW2]; simp [go_sem]
        have t2 : W2.cell? ⟨wr.heap.size, 2, none⟩ = some (.int .i64 x2) := by rw [← hW2]; simp [go_sem]
        have t3 : W2.cell? ⟨wr.heap.size, 3, none⟩ = some (.string x3) := by rw [← hW2]; simp [go_sem]
        have t4 : W2.cell? ⟨wr.heap.size, 4, none⟩ = some (.int .i64 x4) := by rw [← hW2]; simp [go_sem]
        have HO2 : Hid (W2.ownsRow W6.heap.size 25 5 u6 j (fl (L.take j))) := by rw [← hW2]; exact hown.out.alloc _
        clear hW2 c0 c1 c2 c3 c4 hown
        have l0 : ∀ n : Wd (Sb W2), n.w.cell? ⟨wr.heap.size, 0, none⟩ = _ := fun n => n.cell hs2 t0
        have l1 : ∀ n : Wd (Sb W2), n.w.cell? ⟨wr.heap.size, 1, none⟩ = _ := fun n => n.cell hs2 t1
        have l2 : ∀ n : Wd (Sb W2), n.w.cell? ⟨wr.heap.size, 2, none⟩ = _ := fun n => n.cell hs2 t2
        have l3 : ∀ n : Wd (Sb W2), n.w.cell? ⟨wr.heap.size, 3, none⟩ = _ := fun n => n.cell hs2 t3
        have l4 : ∀ n : Wd (Sb W2), n.w.cell? ⟨wr.heap.size, 4, none⟩ = _ := fun n => n.cell hs2 t4
        refine wp_region_quiet_cls (S := Sb W2) (by kernel_rfl) (by kernel_rfl) (Below.refl _ _).drew ?_
        repeat (go_big_quiet_step (first | (go_at_call 14; exact Wd.call _ (mark_is ⟨x0, x1, x2, x3, x4⟩ _ _ _ HXX))))
        refine wpQuiet_nil ?_
        intro w3 hw3
        have HB3 : Hid (Below W2.heap.size W2 w3) := Wd.out hw3
        clear l0 l1 l2 l3 l4 hw3
        have HB23 : Hid (Below W6.heap.size W6 w3) := (hbw.out.trans (HG.out.mono hsz)).trans (HB3.out.mono (by omega))
        go_wp2_with fail
        refine (kept0 wb kb false 0 o' _ (hwk.out.keep (HB23.out.block wb hwb6))).mono ?_
        rintro e w4 ⟨rfl, hw4⟩
        have hs3 := HB3.out.size
        have hs4 := hw4.size
        have HB24 : Hid (Below W2.heap.size W2 w4) := HB3.out.trans (hw4.mono hs3)
        have HB4 : Hid (Below W6.heap.size W6 w4) := HB23.out.trans (hw4.mono HB23.out.size)
        have q0 := (HB24.out.cell (p := ⟨wr.heap.size, 0, none⟩) hs2).trans t0
        have q1 := (HB24.out.cell (p := ⟨wr.heap.size, 1, none⟩) hs2).trans t1
        have q2 := (HB24.out.cell (p := ⟨wr.heap.size, 2, none⟩) hs2).trans t2
        have q3 := (HB24.out.cell (p := ⟨wr.heap.size, 3, none⟩) hs2).trans t3
        have q4 := (HB24.out.cell (p := ⟨wr.heap.size, 4, none⟩) hs2).trans t4
        have HO4 := Lib.hid (own_below HO2.out HB24.out)
        clear t0 t1 t2 t3 t4 hw4
        go_wp2_with (at_builtin; go_must (refine wpList_push rfl _ _ rfl W6.heap.size _ j (L.take j) rfl (HO4.out.alloc _) w4.heap.size x0 x1 x2 x3 x4 rfl (heap_new' _ _) (by omega) (by simp; omega) ?c4))
        case c4 =>
          intro g cap w5 h1 h2 h3
          have HO5 : Hid (w5.ownsRow W6.heap.size 25 5 (.slice (some ⟨g, 0, none⟩) (j + 1) cap) (j + 1) (fl (L.take (j + 1)))) := by rw [HT.out]; exact h1
          have HB5 : Hid (Below W6.heap.size W6 w5) := (HB4.out.alloc (by omega) _).grown h2 (by simp; omega) (fun g hg => (HO4.out.lt g hg).1)
          clear h1 h2 h3
          have HP : Hid (PhB w w5 base wb kb clock p zz B L (.slice (some ⟨g, 0, none⟩) (j + 1) cap) (.int .i64 ((ik + 1 : Nat) : Int))) :=
            ⟨W6, j + 1, ik + 1, ba, bc, o', by omega, by have := HIK.out; omega, rfl, HO5, HB5, hwk, ho', hob, hsb, hmb, hout⟩
          go_wp2
          go_roundw
          case rel => exact .inr HP.out
          case measure => simp [intOf]; omega
      · have hjl : j = L.length := by omega
        have hown' := hown.out
        rw [hjl, List.take_length] at hown'
        have HRW := Lib.hid hown'
        obtain ⟨ar, cr, rfl⟩ := own_slice hown'
        have hikn2 : ik = n := by have := HNP.out; omega
        subst hikn2
        clear hown' hown hlt hjl hik hikn hj
        go_wp2_with fail
        refine (tell_gen (exL zz B L) [] _ _ _ base wb kb false (.slice none 0 0) 0 (0 + usL zz L) o' wr (done_once zz L B _ wb kb bc ba (.slice none 0 0) o' 0 _ (clock + 1) wr (sl_of_own HRW.out) (hsb.out.keep hbw.out) (hwk.out.keep (hbw.out.block wb hwb6)) ((hbw.out.block kb hkb6).trans hmb.out) (kno_one zz _ clock) HPL.out (by omega) (by omega) hlen (by omega) (by omega)) (hwk.out.keep (hbw.out.block wb hwb6)) (own_below ho'.out hbw.out) (by omega) (by simpa using hlen)).mono ?_
        rintro e w2 ⟨rfl, o2, hW2, hO2, hU2, hb2⟩
        have k2 := hW2.c2
        have HP : Hid (ClP w base wb kb (exL zz B L) (.returned (.tuple #[])) w2) := by
          refine ⟨rfl, _, o2, hW2, by simpa using hO2, (hout.out.trans (OutsP.of_below hbw.out) (fun x hx => .inl hx)).trans hU2 (fun x hx => by
            rcases hx with hx | hx
            · exact .inl (.inl hx)
            · exact .inr (hob.out x hx)), fun g hg => by
            rcases hb2 g hg with h | h
            · exact hob.out g h
            · omega⟩
        clear hW2 hO2 hU2 hb2
        go_wp2
        exact bodyPost_ret (v := .tuple #[]) (by simp [results, Try.results13, go_sem]) rfl HP.out

end Go.Proofs.Ytaliplbbmhfenaa
