/-
  The closure of Macros by a script: whatever its directives do without defines.
-/
import Derived.Test.YtaliplbbmhfenaaBF
namespace Go.Proofs.Ytaliplbbmhfenaa
open Go.MapKept Go.ChangeShapes Go.WideShapes Go.ChangeAt Go.RowKit Go.Deep Go.Joins Go.Instr
/-- A script: where the closure stands, what is kept, the open conditions, the world right behind the directive, the row told and its tokens, the tokens of the row. -/
abbrev ScP := Nat → Bool → Value → World → Value → List TkD → List TkD → Prop
/-- What a directive comes to. -/
def DirP (S : ScP) (w5 : World) (base wb kb k : Nat) (o5 : Value) (told : List TkD) (e : Ending) (w6 : World) : Prop :=
  e = .returned (.tuple #[]) ∧ ∃ kp' op', Wk w6 wb false kb op' 0 o5 ∧ OutsP (fun y => y = wb ∨ (y ≠ kb ∧ o5.ownBlock ≠ some y ∧ base ≤ y)) w5 w6 ∧ S k kp' op' w6 o5 told []
theorem sl_mid {w w' : World} {b off n c m k : Nat} {T : List TkD} (h : Sl w 5 TkD.enc (.slice (some ⟨b, off, none⟩) n c) T) (hb : w'.heap[b]? = w.heap[b]?) (hm : m ≤ k) (hk : k ≤ n)  : Sl w' 5 TkD.enc (.slice (some ⟨b, off + m * 5, none⟩) (k - m) (k - m)) ((T.take k).drop m) := by
  obtain ⟨a, cap, e, h2, h3, h4⟩ := h
  injection e with e1 e2 e3
  subst e1; subst e3
  refine ⟨some ⟨b, off + m * 5, none⟩, k - m, by simp; omega, by simp; omega, by omega, fun hp => ?_⟩
  simp at hp
  obtain ⟨b', off', e, hb', hc⟩ := h4 (by omega)
  injection e with e
  injection e with e1 e4 _
  subst e1; subst e4
  refine ⟨b, off + m * 5, rfl, ?_, fun i hi j hj => ?_⟩
  · have := Array.getElem?_eq_none_iff (xs := w'.heap) (i := b)
    rcases Nat.lt_or_ge b w'.heap.size with h | h
    · exact h
    · rw [this.2 h] at hb; have := Array.getElem?_eq_none_iff.1 hb.symm; omega
  · simp at hi
    have := hc (m + i) (by omega) j hj
    rw [show off + m * 5 + i * 5 + j = off + (m + i) * 5 + j by omega]
    refine (World.cell?_of_block (a := ⟨b, off + (m + i) * 5 + j, none⟩) hb).trans (this.trans ?_)
    have e : ((T.take k).drop m).getD i default = T.getD (m + i) default := by
      simp only [List.getD_eq_getElem?_getD, List.getElem?_drop, List.getElem?_take]
      rw [if_pos (by omega)]
    rw [e]
def PhS (S : ScP) (w wr : World) (n base wb kb clock : Nat) (r i : Value) : Prop :=
  ∃ (W6 : World) (ik : Nat) (kp : Bool) (op o' : Value) (told row : List TkD), i = .int .i64 (ik : Int) ∧ ik ≤ n ∧ told.length + row.length ≤ ik ∧ Hid (S ik kp op W6 o' told row) ∧ Hid (wr.ownsRow W6.heap.size 25 5 r row.length (fl row)) ∧ Hid (Below W6.heap.size W6 wr) ∧ Hid (Wk W6 wb false kb op 0 o') ∧ Hid (W6.ownsRow base 25 5 o' told.length (fl told)) ∧ Hid (∀ g, o'.ownBlock = some g → w.heap.size ≤ g) ∧ Hid (W6.heap[kb]? = some (.map #[] clock)) ∧ Hid (OutsP (fun k => k = wb ∨ k = kb) w W6)
set_option maxRecDepth 100000 in
set_option maxHeartbeats 16000000 in
theorem mac1_gen (T R : List TkD) (b off n c : Nat) (tk : TkD) (base wb kb clock : Nat) (w : World) (S : ScP)
    (hs : Sl w 5 TkD.enc (.slice (some ⟨b, off, none⟩) n c) T) (hn0 : 0 < n) (hn2 : n ≤ 8192)
    (hbase : base ≤ w.heap.size) (hw : Wk w wb false kb (.slice none 0 0) 0 (.slice none 0 0)) (hm : w.heap[kb]? = some (.map #[] clock))
    (h0 : ∀ w', Below w.heap.size w w' → S 0 true (.slice none 0 0) w' (.slice none 0 0) [] [])
    (hk : ∀ i kp op W o told row, S i kp op W o told row → i < n → Wk W wb false kb op 0 o → ∀ w', Below W.heap.size W w' → Calls Try.prog 15 #[.pointer (some ⟨wb, 0, none⟩)] w' fun e w'' => e = .returned (.bool kp) ∧ Below w'.heap.size w' w'')
    (hp : ∀ i kp op W o told row, S i kp op W o told row → i < n → isF 4 (T.getD i default) ⟨#[35]⟩ = false → S (i + 1) kp op W o told (if kp then row ++ [T.getD i default] else row))
    (hh : ∀ i kp op W o told row, S i kp op W o told row → i < n → isF 4 (T.getD i default) ⟨#[35]⟩ = true →
      (0 < i → (T.getD (i - 1) default).line ≠ (T.getD i default).line) ∧ ∃ k, i + 1 < k ∧ k ≤ n ∧ (∀ q, i < q → q < k → (T.getD q default).line = (T.getD i default).line) ∧ (k < n → (T.getD k default).line ≠ (T.getD i default).line) ∧
      ∀ w5 o5 at_, Wk w5 wb false kb op 0 o5 → w5.ownsRow base 25 5 o5 (told.length + row.length) (fl (told ++ row)) → (∀ g, o5.ownBlock = some g → o.ownBlock = some g ∨ W.heap.size ≤ g) → OutsP (fun x => x = wb ∨ o.ownBlock = some x) W w5 → w.heap.size ≤ w5.heap.size → w5.heap[kb]? = some (.map #[] clock) →
        Sl w5 5 TkD.enc (.slice (some ⟨b, off + (i + 1) * 5, none⟩) (k - (i + 1)) (k - (i + 1))) ((T.take k).drop (i + 1)) →
        Calls Try.prog 17 #[.pointer (some ⟨wb, 0, none⟩), .slice (some ⟨b, off + (i + 1) * 5, none⟩) (k - (i + 1)) (k - (i + 1)), .int .i64 at_] w5 (DirP S w5 w.heap.size wb kb k o5 (told ++ row)))
    (he : ∀ kp op W o told row, S n kp op W o told row → told ++ row = R ∧ ∃ a c', op = .slice a 0 c') :
    Calls Try.prog 13 #[.pointer (some ⟨wb, 0, none⟩), .slice (some ⟨b, off, none⟩) n c, tk.val] w (ClQ w base wb kb R) := by
  obtain ⟨hb, hTn, hnc, hc⟩ := tok_at hs (by obtain ⟨_, _, e, _⟩ := hs; injection e with _ e2 _; omega)
  have hcm : c ≤ 9223372036854775807 := by obtain ⟨_, _, e, _, h, _⟩ := hs; injection e with e5 e6 e7; subst e7; unfold maxLen at h; omega
  have hwb : wb < w.heap.size := hw.lt
  have hkb : kb < w.heap.size := (Array.getElem?_eq_some_iff.1 hm).1
  have nkb : kb ≠ wb := by rintro rfl; unfold Wk at hw; rw [hw] at hm; simp at hm
  have nbw : b ≠ wb := sl_ne hs (by omega) hw
  have nbk : b ≠ kb := by
    rintro rfl
    have := hc 0 (by omega) 0 (by omega)
    simp [World.cell?, hm] at this
  have TT : Hid (∀ i, i < n → ∀ q, q < 5 → w.cell? ⟨b, off + i * 5 + q, none⟩ = some ((T.getD i default).enc q)) := fun i hi q hq => hc i (by omega) q hq
  have TL : Hid (∀ i, i < n → w.cell? ⟨b, off + i * 5 + 2, none⟩ = some (.int .i64 (T.getD i default).line)) := fun i hi => hc i (by omega) 2 (by omega)
  have HTn := Lib.hid hTn
  have hnc : n ≤ c := by omega
  have HS := Lib.hid hs
  clear hc hs hTn
  have HW := Lib.hid hw; have HM := Lib.hid hm; have H0 := Lib.hid h0; have HKP := Lib.hid hk; have HP := Lib.hid hp; have HH := Lib.hid hh; have HE := Lib.hid he
  clear hw hm h0 hk hp hh he
  unfold TkD.val
  go_enter Try.func13, Try.ntmps13
  go_wp2_with fail
  go_loopw [6, 7] (fun r i wr => PhS S w wr n base wb kb clock r i) (fun _ i _ => n - (intOf i).toNat)
  case atStart =>
    have hB : Below w.heap.size w (w.alloc (.cells #[.int .i64 tk.kind, .int .i64 tk.at', .int .i64 tk.line, .string tk.text, .int .i64 tk.n] 25 (0, 0))) := (Below.refl _ _).alloc (Nat.le_refl _) _
    exact ⟨_, 0, true, .slice none 0 0, .slice none 0 0, [], [], rfl, Nat.zero_le _, Nat.le_refl _, H0.out _ hB, World.ownsRow_nil _ _ _ _, Below.refl _ _, HW.out.keep (hB.block wb hwb), World.ownsRow_nil _ _ _ _, (fun g hg => by simp [Value.ownBlock] at hg), (hB.block kb hkb).trans HM.out, OutsP.of_below hB⟩
  case round =>
    obtain ⟨W6, ik, kp, op, o', told, row, rfl, hik, hlen, hS, hown, hbw, hwk, ho', hob, hmb, hout⟩ := hrel
    have hsz := hbw.out.size
    have hs6 := hout.out.size
    have hwb6 := hwk.out.lt
    have hkb6 : kb < W6.heap.size := (Array.getElem?_eq_some_iff.1 hmb.out).1
    obtain ⟨ar, cr, rfl⟩ := own_slice hown.out
    have hik0 : (0 : Int) ≤ (ik : Int) := by omega
    by_cases hlt : ik < n
    · have hbb : ∀ q, wr.cell? ⟨b, off + q, none⟩ = w.cell? ⟨b, off + q, none⟩ := fun q => (hbw.out.cell (p := ⟨b, off + q, none⟩) (by show b < W6.heap.size; omega)).trans (World.cell?_of_block (a := ⟨b, off + q, none⟩) (hout.out.block b hb (fun h => by rcases h with h | h; exact nbw h; exact nbk h)))
      have cc := tk_cells (w := wr) (b := b) (off := off + ik * 5) (x := T.getD ik default) fun q hq => by
        have h1 := TT.out ik hlt q hq
        rw [Nat.add_assoc] at h1 ⊢
        exact (hbb _).trans h1
      have HXX : Hid (T.getD ik default = T.getD ik default) := rfl
      have HX0 : Hid (∀ x, T.getD ik default = x → wr = wr) := fun _ _ => rfl
      clear HXX HX0
      have hxx : ∃ x, x = T.getD ik default := ⟨_, rfl⟩
      obtain ⟨x, hxx⟩ := hxx
      rw [← hxx] at cc
      have HX := Lib.hid hxx
      clear hxx hbb
      obtain ⟨x0, x1, x2, x3, x4⟩ := x
      obtain ⟨c0, c1, c2, c3, c4⟩ := cc
      simp only at c0 c1 c2 c3 c4
      go_wp2_with fail
      generalize hW2 : World.alloc wr _ = W2
      have HG : Hid (Below wr.heap.size wr W2) := by rw [← hW2]; exact (Below.refl _ _).alloc (Nat.le_refl _) _
      have hs2 : wr.heap.size < W2.heap.size := by rw [← hW2]; simp [go_sem]
      have t0 : W2.cell? ⟨wr.heap.size, 0, none⟩ = some (.int .i64 x0) := by rw [← hW2]; simp [go_sem]
      have t1 : W2.cell? ⟨wr.heap.size, 1, none⟩ = some (.int .i64 x1) := by rw [← hW2]; simp [go_sem]
      have t2 : W2.cell? ⟨wr.heap.size, 2, none⟩ = some (.int .i64 x2) := by rw [← hW2]; simp [go_sem]
      have t3 : W2.cell? ⟨wr.heap.size, 3, none⟩ = some (.string x3) := by rw [← hW2]; simp [go_sem]
      have t4 : W2.cell? ⟨wr.heap.size, 4, none⟩ = some (.int .i64 x4) := by rw [← hW2]; simp [go_sem]
      have HO2 : Hid (W2.ownsRow W6.heap.size 25 5 (.slice ar row.length cr) row.length (fl row)) := by rw [← hW2]; exact hown.out.alloc _
      clear hW2 c0 c1 c2 c3 c4 hown
      have l0 : ∀ n : Wd (Sb W2), n.w.cell? ⟨wr.heap.size, 0, none⟩ = _ := fun n => n.cell hs2 t0
      have l1 : ∀ n : Wd (Sb W2), n.w.cell? ⟨wr.heap.size, 1, none⟩ = _ := fun n => n.cell hs2 t1
      have l2 : ∀ n : Wd (Sb W2), n.w.cell? ⟨wr.heap.size, 2, none⟩ = _ := fun n => n.cell hs2 t2
      have l3 : ∀ n : Wd (Sb W2), n.w.cell? ⟨wr.heap.size, 3, none⟩ = _ := fun n => n.cell hs2 t3
      have l4 : ∀ n : Wd (Sb W2), n.w.cell? ⟨wr.heap.size, 4, none⟩ = _ := fun n => n.cell hs2 t4
      have HB26 : Hid (Below W6.heap.size W6 W2) := hbw.out.trans (HG.out.mono hsz)
      by_cases hmk : isF 4 ⟨x0, x1, x2, x3, x4⟩ ⟨#[35]⟩ = true
      · have HMK := Lib.hid hmk
        clear hmk
        obtain ⟨hpv, k, hk1, hk2, hln, hnx, hdir⟩ := HH.out ik kp op W6 o' told row hS.out hlt (by rw [← HX.out]; exact HMK.out)
        rw [← HX.out] at hpv hln hnx
        simp only at hpv hln hnx
        have HPV := Lib.hid hpv; have HLN := Lib.hid hln; have HNX := Lib.hid hnx; have HDIR := Lib.hid hdir
        clear hpv hln hnx hdir
        have HWr := Lib.hid (hwk.out.keep (hbw.out.block wb hwb6))
        rcases Nat.eq_zero_or_pos ik with hz | hz
        · subst hz
          refine wp_region_quiet_cls (S := Sb W2) (by kernel_rfl) (by kernel_rfl) (Below.refl _ _).drew ?_
          repeat (go_big_quiet_step (first | (go_at_call 14; exact Wd.call _ (mark_is ⟨x0, x1, x2, x3, x4⟩ _ _ _ HMK))))
          refine wpQuiet_nil ?_
          intro w3 hw3
          have HB3 : Hid (Below W2.heap.size W2 w3) := Wd.out hw3
          clear l0 l1 l2 l3 l4 hw3
          have HB63 : Hid (Below W6.heap.size W6 w3) := HB26.out.trans (HB3.out.mono (by omega))
          have hs3 := HB3.out.size
          go_wp2_with fail
          refine (tell_gen row told _ _ _ base wb kb false op 0 0 o' w3 (done_plain' row _ wb kb false op o' 0 #[] clock (fun _ => none) w3 (sl_of_own (own_below HO2.out HB3.out)) (by omega) (hwk.out.keep (HB63.out.block wb hwb6)) ((HB63.out.block kb hkb6).trans hmb.out) (fun _ => ⟨none, rfl, rfl⟩) (fun _ _ _ => rfl)) (hwk.out.keep (HB63.out.block wb hwb6)) (own_below ho'.out HB63.out) (by omega) (by omega)).mono ?_
          rintro e w4 ⟨rfl, o4, hW4, hO4, hU4, hb4⟩
          have HU4 := Lib.hid hU4
          have HW4 := Lib.hid hW4
          have HO4 := Lib.hid hO4
          have HB4 : Hid (∀ g, o4.ownBlock = some g → o'.ownBlock = some g ∨ W6.heap.size ≤ g) := fun g hg => by
            rcases hb4 g hg with h | h
            · exact .inl h
            · have := HB63.out.size; exact .inr (by omega)
          clear hU4 hW4 hO4 hb4
          have hs4 := HU4.out.size
          have HU64 : Hid (OutsP (fun x => x = wb ∨ o'.ownBlock = some x) W6 w4) := (OutsP.of_below HB63.out).trans HU4.out (fun x hx => .inl hx)
          have hob6 := own_lt ho'.out
          have u1 : w4.cell? ⟨wr.heap.size, 1, none⟩ = some (.int .i64 x1) := ((World.cell?_of_block (a := ⟨wr.heap.size, 1, none⟩) (HU4.out.block wr.heap.size (by omega) (fun h => by rcases h with h | h; (omega); (have := hob6 _ h; omega)))).trans (HB3.out.cell (p := ⟨wr.heap.size, 1, none⟩) hs2)).trans t1
          have u2 : w4.cell? ⟨wr.heap.size, 2, none⟩ = some (.int .i64 x2) := ((World.cell?_of_block (a := ⟨wr.heap.size, 2, none⟩) (HU4.out.block wr.heap.size (by omega) (fun h => by rcases h with h | h; (omega); (have := hob6 _ h; omega)))).trans (HB3.out.cell (p := ⟨wr.heap.size, 2, none⟩) hs2)).trans t2
          have hob6 := Lib.hid hob6
          clear t0 t1 t2 t3 t4
          have hbt : wr.heap.size < w4.heap.size := by omega
          have hbb : b < w4.heap.size := by omega
          have HK4 : Hid (∀ x, x < w.heap.size → x ≠ wb → x ≠ kb → w4.heap[x]? = w.heap[x]?) := fun x h1 h2 h3 => (HU64.out.block x (by omega) (fun h => by rcases h with h | h; (exact h2 h); (have := hob.out x h; omega))).trans (hout.out.block x h1 (fun h => by rcases h with h | h; (exact h2 h); (exact h3 h)))
          obtain ⟨wo, rfl⟩ : ∃ wo : World, wo = wr := ⟨_, rfl⟩
          have hmk2 : 1 ≤ k := by omega
          go_wp2_with fail
          go_loopw [9] (fun kv wr => ∃ q : Nat, 1 ≤ q ∧ q ≤ k ∧ kv = .int .i64 q ∧ Below w4.heap.size w4 wr) (fun kv _ => k - (intOf kv).toNat)
          case atStart => exact ⟨1, by omega, by omega, rfl, Below.refl _ _⟩
          case round =>
            obtain ⟨q, hq1, hq2, rfl, hq⟩ := hrel
            have hqs := hq.size
            have q2 := (hq.cell (p := ⟨wo.heap.size, 2, none⟩) hbt).trans u2
            have hbtq : wo.heap.size < wr.heap.size := by omega
            have hbbq : b < wr.heap.size := by omega
            have hk0 : (0 : Int) ≤ (q : Int) := by omega
            have l1 : ∀ n : Wd (Sb wr), n.w.cell? ⟨wo.heap.size, 2, none⟩ = _ := fun n => n.cell hbtq q2
            by_cases hqk : q < k
            · have e2 := (hq.cell (p := ⟨b, off + q * 5 + 2, none⟩) hbb).trans ((World.cell?_of_block (a := ⟨b, off + q * 5 + 2, none⟩) (HK4.out b hb nbw nbk)).trans (TL.out q (by omega)))
              rw [HLN.out q (by omega) hqk] at e2
              have l2 : ∀ n : Wd (Sb wr), n.w.cell? ⟨b, off + q * 5 + 2, none⟩ = _ := fun n => n.cell hbbq e2
              have hklt : (q : Int) < (n : Int) := by omega
              have hkn : decide (q < n) = true := decide_eq_true (by omega)
              clear q2 e2
              go_wp2_with fail
              refine wp_region_quiet_cls (S := Sb wr) (by kernel_rfl) (by kernel_rfl) (Below.refl _ _).drew ?_
              repeat (go_big_quiet_step (fail))
              refine wpQuiet_nil ?_
              intro w5 hw5
              have hq5 : Below w4.heap.size w4 w5 := hq.trans ((Wd.out hw5 : Below wr.heap.size wr w5).mono hqs)
              clear l1 l2 hw5
              go_wp2
              go_roundw
              case rel => exact ⟨q + 1, by omega, by omega, by go_num, hq5⟩
              case measure => simp [intOf]; omega
            · obtain rfl : q = k := by omega
              clear hqk hq1 hq2
              rcases Nat.lt_or_ge q n with hqn | hqn
              · have e2 := (hq.cell (p := ⟨b, off + q * 5 + 2, none⟩) hbb).trans ((World.cell?_of_block (a := ⟨b, off + q * 5 + 2, none⟩) (HK4.out b hb nbw nbk)).trans (TL.out q (by omega)))
                have hpn : ¬ (T.getD q default).line = x2 := HNX.out hqn
                generalize (T.getD q default).line = y at e2 hpn
                have hneb : (y == x2) = false := by rw [beq_eq_false_iff_ne]; exact hpn
                have l2 : ∀ n : Wd (Sb wr), n.w.cell? ⟨b, off + q * 5 + 2, none⟩ = _ := fun n => n.cell hbbq e2
                have hklt : (q : Int) < (n : Int) := by omega
                have hkn : decide (q < n) = true := decide_eq_true (by omega)
                clear q2 e2 hpn
                go_wp2_with fail
                refine wp_region_quiet_cls (S := Sb wr) (by kernel_rfl) (by kernel_rfl) (Below.refl _ _).drew ?_
                repeat (go_big_quiet_step (fail))
                clear l2 hneb hklt hkn
                refine wpQuiet_nil ?_
                intro w5 hw5
                have hq5 : Hid (Below w4.heap.size w4 w5) := hq.trans ((Wd.out hw5 : Below wr.heap.size wr w5).mono hqs)
                clear l1 hw5
                have hs5 := hq5.out.size
                have HU65 : Hid (OutsP (fun x => x = wb ∨ o'.ownBlock = some x) W6 w5) := HU64.out.trans (OutsP.of_below hq5.out) (fun x hx => .inl hx)
                have HW5 := Lib.hid (HW4.out.keep (hq5.out.block wb HW4.out.lt))
                have HM5 : Hid (w5.heap[kb]? = some (.map #[] clock)) := (hq5.out.block kb (by omega)).trans ((HU64.out.block kb (by omega) (fun h => by rcases h with h | h; (exact nkb h); (have := hob.out kb h; omega))).trans hmb.out)
                have HO5 := Lib.hid (own_below HO4.out hq5.out)
                have HS5 := Lib.hid (sl_mid HS.out ((hq5.out.block b (by omega)).trans (HK4.out b hb nbw nbk)) (show 1 ≤ q by omega) hk2)
                have v1 := (hq5.out.cell (p := ⟨wo.heap.size, 1, none⟩) hbt).trans u1
                clear u1 u2
                have hbt5 : wo.heap.size < w5.heap.size := by omega
                have n2 : (1 : Int) ≤ (q : Int) := by omega
                have n3 : (q : Int) ≤ (c : Int) := by omega
                have n4 : IntKind.i64.wrap 1 = 1 := rfl
                have n1 : (1 : Int) ≤ (q : Int) := by omega
                have n5 : ¬ q = 1 := by omega
                have n6 : (1 : Int).toNat = 1 := rfl
                go_wp2_with fail
                go_region_law (first | (go_simp; go_at_call 17; refine (HDIR.out w5.drew o4 x1 HW5.out HO5.out HB4.out HU65.out.drew (by show w.heap.size ≤ w5.heap.size; omega) HM5.out HS5.out.drew).mono ?_; rintro e w6 ⟨rfl, kp', op', h1, h2, h3⟩))
                all_goals
                  have HPh : Hid (PhS S w w6 n base wb kb clock (.slice none 0 0) (.int .i64 q)) := by
                    refine ⟨w6, q, kp', op', o4, told ++ row, [], rfl, hk2, by simp; omega, h3, World.ownsRow_nil _ _ _ _, Below.refl _ _, h1, ?_, ?_, ?_, ?_⟩
                    · have h5 : w5.drew.ownsRow base 25 5 o4 (told ++ row).length (fl (told ++ row)) := by rw [List.length_append]; exact HO5.out
                      exact own_outs h5 h2 (fun g hg e => by
                        rcases e with e | e
                        · exact own_ne HO5.out HW5.out (by rw [hg, e])
                        · exact e.2.1 hg)
                    · intro g hg
                      rcases HB4.out g hg with h | h
                      · exact hob.out g h
                      · omega
                    · exact (h2.block kb (by show kb < w5.heap.size; omega) (fun h => by rcases h with h | h; (exact nkb h); (exact h.1 rfl))).trans HM5.out
                    · exact ((hout.out.trans HU65.out (fun x hx => by
                        rcases hx with hx | hx
                        · exact .inl (.inl hx)
                        · exact .inr (hob.out x hx))).drew).trans h2 (fun x hx => by
                        rcases hx with hx | hx
                        · exact .inl (.inl hx)
                        · exact .inr hx.2.2)
                  clear h1 h2 h3 n1 n2 n3 n4 n5 n6
                  go_wp2
                  go_roundw
                  case rel => exact HPh.out
                  case measure => simp [intOf]; omega
              · have hkn : decide (q < n) = false := decide_eq_false (by omega)
                clear q2
                go_wp2_with fail
                refine wp_region_quiet_cls (S := Sb wr) (by kernel_rfl) (by kernel_rfl) (Below.refl _ _).drew ?_
                repeat (go_big_quiet_step (fail))
                clear hkn
                refine wpQuiet_nil ?_
                intro w5 hw5
                have hq5 : Hid (Below w4.heap.size w4 w5) := hq.trans ((Wd.out hw5 : Below wr.heap.size wr w5).mono hqs)
                clear l1 hw5
                have hs5 := hq5.out.size
                have HU65 : Hid (OutsP (fun x => x = wb ∨ o'.ownBlock = some x) W6 w5) := HU64.out.trans (OutsP.of_below hq5.out) (fun x hx => .inl hx)
                have HW5 := Lib.hid (HW4.out.keep (hq5.out.block wb HW4.out.lt))
                have HM5 : Hid (w5.heap[kb]? = some (.map #[] clock)) := (hq5.out.block kb (by omega)).trans ((HU64.out.block kb (by omega) (fun h => by rcases h with h | h; (exact nkb h); (have := hob.out kb h; omega))).trans hmb.out)
                have HO5 := Lib.hid (own_below HO4.out hq5.out)
                have HS5 := Lib.hid (sl_mid HS.out ((hq5.out.block b (by omega)).trans (HK4.out b hb nbw nbk)) (show 1 ≤ q by omega) hk2)
                have v1 := (hq5.out.cell (p := ⟨wo.heap.size, 1, none⟩) hbt).trans u1
                clear u1 u2
                have hbt5 : wo.heap.size < w5.heap.size := by omega
                have n2 : (1 : Int) ≤ (q : Int) := by omega
                have n3 : (q : Int) ≤ (c : Int) := by omega
                have n4 : IntKind.i64.wrap 1 = 1 := rfl
                have n1 : (1 : Int) ≤ (q : Int) := by omega
                have n5 : ¬ q = 1 := by omega
                have n6 : (1 : Int).toNat = 1 := rfl
                go_wp2_with fail
                go_region_law (first | (go_simp; go_at_call 17; refine (HDIR.out w5.drew o4 x1 HW5.out HO5.out HB4.out HU65.out.drew (by show w.heap.size ≤ w5.heap.size; omega) HM5.out HS5.out.drew).mono ?_; rintro e w6 ⟨rfl, kp', op', h1, h2, h3⟩))
                all_goals
                  have HPh : Hid (PhS S w w6 n base wb kb clock (.slice none 0 0) (.int .i64 q)) := by
                    refine ⟨w6, q, kp', op', o4, told ++ row, [], rfl, hk2, by simp; omega, h3, World.ownsRow_nil _ _ _ _, Below.refl _ _, h1, ?_, ?_, ?_, ?_⟩
                    · have h5 : w5.drew.ownsRow base 25 5 o4 (told ++ row).length (fl (told ++ row)) := by rw [List.length_append]; exact HO5.out
                      exact own_outs h5 h2 (fun g hg e => by
                        rcases e with e | e
                        · exact own_ne HO5.out HW5.out (by rw [hg, e])
                        · exact e.2.1 hg)
                    · intro g hg
                      rcases HB4.out g hg with h | h
                      · exact hob.out g h
                      · omega
                    · exact (h2.block kb (by show kb < w5.heap.size; omega) (fun h => by rcases h with h | h; (exact nkb h); (exact h.1 rfl))).trans HM5.out
                    · exact ((hout.out.trans HU65.out (fun x hx => by
                        rcases hx with hx | hx
                        · exact .inl (.inl hx)
                        · exact .inr (hob.out x hx))).drew).trans h2 (fun x hx => by
                        rcases hx with hx | hx
                        · exact .inl (.inl hx)
                        · exact .inr hx.2.2)
                  clear h1 h2 h3 n1 n2 n3 n4 n5 n6
                  go_wp2
                  go_roundw
                  case rel => exact HPh.out
                  case measure => simp [intOf]; omega
        · obtain ⟨pv, hpv⟩ : ∃ pv, ik = pv + 1 := ⟨ik - 1, by omega⟩
          have hpl : w.cell? ⟨b, off + pv * 5 + 2, none⟩ = some (.int .i64 (T.getD pv default).line) := TL.out pv (by omega)
          have hpn : ¬ (T.getD pv default).line = x2 := by have := HPV.out hz; rw [show ik - 1 = pv by omega] at this; exact this
          generalize (T.getD pv default).line = y at hpl hpn
          have e2 : W2.cell? ⟨b, off + pv * 5 + 2, none⟩ = some (.int .i64 y) := (HB26.out.cell (p := ⟨b, off + pv * 5 + 2, none⟩) (by show b < W6.heap.size; omega)).trans ((World.cell?_of_block (a := ⟨b, off + pv * 5 + 2, none⟩) (hout.out.block b hb (fun h => by rcases h with h | h; exact nbw h; exact nbk h))).trans hpl)
          have hneb : (y == x2) = false := by rw [beq_eq_false_iff_ne]; exact hpn
          have l5 : ∀ n : Wd (Sb W2), n.w.cell? ⟨b, off + pv * 5 + 2, none⟩ = _ := fun n => n.cell (by show b < _; omega) e2
          have g1 : decide ((0 : Int) < (ik : Int)) = true := decide_eq_true (by omega)
          have n1 : IntKind.i64.wrap ((ik : Int) - 1) = (pv : Int) := by rw [IntWalk.i64_in _ (by omega)]; omega
          have n2 : (0 : Int) ≤ (pv : Int) := by omega
          have n3 : (pv : Int) < (n : Int) := by omega
          have HPVE := Lib.hid hpv
          clear hpl hpn e2 hpv
          refine wp_region_quiet_cls (S := Sb W2) (by kernel_rfl) (by kernel_rfl) (Below.refl _ _).drew ?_
          repeat (go_big_quiet_step (first | (go_at_call 14; exact Wd.call _ (mark_is ⟨x0, x1, x2, x3, x4⟩ _ _ _ HMK))))
          clear l5 hneb g1 n1 n2 n3
          refine wpQuiet_nil ?_
          intro w3 hw3
          have HB3 : Hid (Below W2.heap.size W2 w3) := Wd.out hw3
          clear l0 l1 l2 l3 l4 hw3
          have HB63 : Hid (Below W6.heap.size W6 w3) := HB26.out.trans (HB3.out.mono (by omega))
          have hs3 := HB3.out.size
          go_wp2_with fail
          refine (tell_gen row told _ _ _ base wb kb false op 0 0 o' w3 (done_plain' row _ wb kb false op o' 0 #[] clock (fun _ => none) w3 (sl_of_own (own_below HO2.out HB3.out)) (by omega) (hwk.out.keep (HB63.out.block wb hwb6)) ((HB63.out.block kb hkb6).trans hmb.out) (fun _ => ⟨none, rfl, rfl⟩) (fun _ _ _ => rfl)) (hwk.out.keep (HB63.out.block wb hwb6)) (own_below ho'.out HB63.out) (by omega) (by omega)).mono ?_
          rintro e w4 ⟨rfl, o4, hW4, hO4, hU4, hb4⟩
          have HU4 := Lib.hid hU4
          have HW4 := Lib.hid hW4
          have HO4 := Lib.hid hO4
          have HB4 : Hid (∀ g, o4.ownBlock = some g → o'.ownBlock = some g ∨ W6.heap.size ≤ g) := fun g hg => by
            rcases hb4 g hg with h | h
            · exact .inl h
            · have := HB63.out.size; exact .inr (by omega)
          clear hU4 hW4 hO4 hb4
          have hs4 := HU4.out.size
          have HU64 : Hid (OutsP (fun x => x = wb ∨ o'.ownBlock = some x) W6 w4) := (OutsP.of_below HB63.out).trans HU4.out (fun x hx => .inl hx)
          have hob6 := own_lt ho'.out
          have u1 : w4.cell? ⟨wr.heap.size, 1, none⟩ = some (.int .i64 x1) := ((World.cell?_of_block (a := ⟨wr.heap.size, 1, none⟩) (HU4.out.block wr.heap.size (by omega) (fun h => by rcases h with h | h; (omega); (have := hob6 _ h; omega)))).trans (HB3.out.cell (p := ⟨wr.heap.size, 1, none⟩) hs2)).trans t1
          have u2 : w4.cell? ⟨wr.heap.size, 2, none⟩ = some (.int .i64 x2) := ((World.cell?_of_block (a := ⟨wr.heap.size, 2, none⟩) (HU4.out.block wr.heap.size (by omega) (fun h => by rcases h with h | h; (omega); (have := hob6 _ h; omega)))).trans (HB3.out.cell (p := ⟨wr.heap.size, 2, none⟩) hs2)).trans t2
          have hob6 := Lib.hid hob6
          clear t0 t1 t2 t3 t4
          have hbt : wr.heap.size < w4.heap.size := by omega
          have hbb : b < w4.heap.size := by omega
          have HK4 : Hid (∀ x, x < w.heap.size → x ≠ wb → x ≠ kb → w4.heap[x]? = w.heap[x]?) := fun x h1 h2 h3 => (HU64.out.block x (by omega) (fun h => by rcases h with h | h; (exact h2 h); (have := hob.out x h; omega))).trans (hout.out.block x h1 (fun h => by rcases h with h | h; (exact h2 h); (exact h3 h)))
          obtain ⟨wo, rfl⟩ : ∃ wo : World, wo = wr := ⟨_, rfl⟩
          obtain ⟨m, hm⟩ : ∃ m, m = ik + 1 := ⟨_, rfl⟩
          rw [← hm] at HDIR hk1
          have HMI := Lib.hid hm
          have n1 : IntKind.i64.wrap ((ik : Int) + 1) = (m : Int) := by rw [IntWalk.i64_in _ (by omega)]; omega
          have hmk2 : m ≤ k := by omega
          have him : ik < m := by omega
          clear hm
          go_wp2_with fail
          go_loopw [9] (fun kv wr => ∃ q : Nat, m ≤ q ∧ q ≤ k ∧ kv = .int .i64 q ∧ Below w4.heap.size w4 wr) (fun kv _ => k - (intOf kv).toNat)
          case atStart => first | exact ⟨m, by omega, by omega, rfl, Below.refl _ _⟩ | exact ⟨m, by omega, by omega, by simp only [n1], Below.refl _ _⟩ | exact ⟨m, by omega, by omega, by rw [HMI.out]; rfl, Below.refl _ _⟩
          case round =>
            obtain ⟨q, hq1, hq2, rfl, hq⟩ := hrel
            have hqs := hq.size
            have q2 := (hq.cell (p := ⟨wo.heap.size, 2, none⟩) hbt).trans u2
            have hbtq : wo.heap.size < wr.heap.size := by omega
            have hbbq : b < wr.heap.size := by omega
            have hk0 : (0 : Int) ≤ (q : Int) := by omega
            have l1 : ∀ n : Wd (Sb wr), n.w.cell? ⟨wo.heap.size, 2, none⟩ = _ := fun n => n.cell hbtq q2
            by_cases hqk : q < k
            · have e2 := (hq.cell (p := ⟨b, off + q * 5 + 2, none⟩) hbb).trans ((World.cell?_of_block (a := ⟨b, off + q * 5 + 2, none⟩) (HK4.out b hb nbw nbk)).trans (TL.out q (by omega)))
              rw [HLN.out q (by omega) hqk] at e2
              have l2 : ∀ n : Wd (Sb wr), n.w.cell? ⟨b, off + q * 5 + 2, none⟩ = _ := fun n => n.cell hbbq e2
              have hklt : (q : Int) < (n : Int) := by omega
              have hkn : decide (q < n) = true := decide_eq_true (by omega)
              clear q2 e2
              go_wp2_with fail
              refine wp_region_quiet_cls (S := Sb wr) (by kernel_rfl) (by kernel_rfl) (Below.refl _ _).drew ?_
              repeat (go_big_quiet_step (fail))
              refine wpQuiet_nil ?_
              intro w5 hw5
              have hq5 : Below w4.heap.size w4 w5 := hq.trans ((Wd.out hw5 : Below wr.heap.size wr w5).mono hqs)
              clear l1 l2 hw5
              go_wp2
              go_roundw
              case rel => exact ⟨q + 1, by omega, by omega, by go_num, hq5⟩
              case measure => simp [intOf]; omega
            · obtain rfl : q = k := by omega
              clear hqk hq1 hq2
              rcases Nat.lt_or_ge q n with hqn | hqn
              · have e2 := (hq.cell (p := ⟨b, off + q * 5 + 2, none⟩) hbb).trans ((World.cell?_of_block (a := ⟨b, off + q * 5 + 2, none⟩) (HK4.out b hb nbw nbk)).trans (TL.out q (by omega)))
                have hpn : ¬ (T.getD q default).line = x2 := HNX.out hqn
                generalize (T.getD q default).line = y at e2 hpn
                have hneb : (y == x2) = false := by rw [beq_eq_false_iff_ne]; exact hpn
                have l2 : ∀ n : Wd (Sb wr), n.w.cell? ⟨b, off + q * 5 + 2, none⟩ = _ := fun n => n.cell hbbq e2
                have hklt : (q : Int) < (n : Int) := by omega
                have hkn : decide (q < n) = true := decide_eq_true (by omega)
                clear q2 e2 hpn
                go_wp2_with fail
                refine wp_region_quiet_cls (S := Sb wr) (by kernel_rfl) (by kernel_rfl) (Below.refl _ _).drew ?_
                repeat (go_big_quiet_step (fail))
                clear l2 hneb hklt hkn
                refine wpQuiet_nil ?_
                intro w5 hw5
                have hq5 : Hid (Below w4.heap.size w4 w5) := hq.trans ((Wd.out hw5 : Below wr.heap.size wr w5).mono hqs)
                clear l1 hw5
                have hs5 := hq5.out.size
                have HU65 : Hid (OutsP (fun x => x = wb ∨ o'.ownBlock = some x) W6 w5) := HU64.out.trans (OutsP.of_below hq5.out) (fun x hx => .inl hx)
                have HW5 := Lib.hid (HW4.out.keep (hq5.out.block wb HW4.out.lt))
                have HM5 : Hid (w5.heap[kb]? = some (.map #[] clock)) := (hq5.out.block kb (by omega)).trans ((HU64.out.block kb (by omega) (fun h => by rcases h with h | h; (exact nkb h); (have := hob.out kb h; omega))).trans hmb.out)
                have HO5 := Lib.hid (own_below HO4.out hq5.out)
                have HS5 := Lib.hid (sl_mid HS.out ((hq5.out.block b (by omega)).trans (HK4.out b hb nbw nbk)) (show m ≤ q by omega) hk2)
                have v1 := (hq5.out.cell (p := ⟨wo.heap.size, 1, none⟩) hbt).trans u1
                clear u1 u2
                have hbt5 : wo.heap.size < w5.heap.size := by omega
                have n2 : (m : Int) ≤ (q : Int) := by omega
                have n3 : (q : Int) ≤ (c : Int) := by omega
                have n4 : (0 : Int) ≤ (m : Int) := by omega
                have n5 : ¬ q = m := by omega
                have n6 : (m : Int).toNat = m := by omega
                go_wp2_with fail
                go_region_law (first | (go_simp; go_at_call 17; refine (HDIR.out w5.drew o4 x1 HW5.out HO5.out HB4.out HU65.out.drew (by show w.heap.size ≤ w5.heap.size; omega) HM5.out HS5.out.drew).mono ?_; rintro e w6 ⟨rfl, kp', op', h1, h2, h3⟩))
                all_goals
                  have HPh : Hid (PhS S w w6 n base wb kb clock (.slice none 0 0) (.int .i64 q)) := by
                    refine ⟨w6, q, kp', op', o4, told ++ row, [], rfl, hk2, by simp; omega, h3, World.ownsRow_nil _ _ _ _, Below.refl _ _, h1, ?_, ?_, ?_, ?_⟩
                    · have h5 : w5.drew.ownsRow base 25 5 o4 (told ++ row).length (fl (told ++ row)) := by rw [List.length_append]; exact HO5.out
                      exact own_outs h5 h2 (fun g hg e => by
                        rcases e with e | e
                        · exact own_ne HO5.out HW5.out (by rw [hg, e])
                        · exact e.2.1 hg)
                    · intro g hg
                      rcases HB4.out g hg with h | h
                      · exact hob.out g h
                      · omega
                    · exact (h2.block kb (by show kb < w5.heap.size; omega) (fun h => by rcases h with h | h; (exact nkb h); (exact h.1 rfl))).trans HM5.out
                    · exact ((hout.out.trans HU65.out (fun x hx => by
                        rcases hx with hx | hx
                        · exact .inl (.inl hx)
                        · exact .inr (hob.out x hx))).drew).trans h2 (fun x hx => by
                        rcases hx with hx | hx
                        · exact .inl (.inl hx)
                        · exact .inr hx.2.2)
                  clear h1 h2 h3 n1 n2 n3 n4 n5 n6
                  go_wp2
                  go_roundw
                  case rel => exact HPh.out
                  case measure => simp [intOf]; omega
              · have hkn : decide (q < n) = false := decide_eq_false (by omega)
                clear q2
                go_wp2_with fail
                refine wp_region_quiet_cls (S := Sb wr) (by kernel_rfl) (by kernel_rfl) (Below.refl _ _).drew ?_
                repeat (go_big_quiet_step (fail))
                clear hkn
                refine wpQuiet_nil ?_
                intro w5 hw5
                have hq5 : Hid (Below w4.heap.size w4 w5) := hq.trans ((Wd.out hw5 : Below wr.heap.size wr w5).mono hqs)
                clear l1 hw5
                have hs5 := hq5.out.size
                have HU65 : Hid (OutsP (fun x => x = wb ∨ o'.ownBlock = some x) W6 w5) := HU64.out.trans (OutsP.of_below hq5.out) (fun x hx => .inl hx)
                have HW5 := Lib.hid (HW4.out.keep (hq5.out.block wb HW4.out.lt))
                have HM5 : Hid (w5.heap[kb]? = some (.map #[] clock)) := (hq5.out.block kb (by omega)).trans ((HU64.out.block kb (by omega) (fun h => by rcases h with h | h; (exact nkb h); (have := hob.out kb h; omega))).trans hmb.out)
                have HO5 := Lib.hid (own_below HO4.out hq5.out)
                have HS5 := Lib.hid (sl_mid HS.out ((hq5.out.block b (by omega)).trans (HK4.out b hb nbw nbk)) (show m ≤ q by omega) hk2)
                have v1 := (hq5.out.cell (p := ⟨wo.heap.size, 1, none⟩) hbt).trans u1
                clear u1 u2
                have hbt5 : wo.heap.size < w5.heap.size := by omega
                have n2 : (m : Int) ≤ (q : Int) := by omega
                have n3 : (q : Int) ≤ (c : Int) := by omega
                have n4 : (0 : Int) ≤ (m : Int) := by omega
                have n5 : ¬ q = m := by omega
                have n6 : (m : Int).toNat = m := by omega
                go_wp2_with fail
                go_region_law (first | (go_simp; go_at_call 17; refine (HDIR.out w5.drew o4 x1 HW5.out HO5.out HB4.out HU65.out.drew (by show w.heap.size ≤ w5.heap.size; omega) HM5.out HS5.out.drew).mono ?_; rintro e w6 ⟨rfl, kp', op', h1, h2, h3⟩))
                all_goals
                  have HPh : Hid (PhS S w w6 n base wb kb clock (.slice none 0 0) (.int .i64 q)) := by
                    refine ⟨w6, q, kp', op', o4, told ++ row, [], rfl, hk2, by simp; omega, h3, World.ownsRow_nil _ _ _ _, Below.refl _ _, h1, ?_, ?_, ?_, ?_⟩
                    · have h5 : w5.drew.ownsRow base 25 5 o4 (told ++ row).length (fl (told ++ row)) := by rw [List.length_append]; exact HO5.out
                      exact own_outs h5 h2 (fun g hg e => by
                        rcases e with e | e
                        · exact own_ne HO5.out HW5.out (by rw [hg, e])
                        · exact e.2.1 hg)
                    · intro g hg
                      rcases HB4.out g hg with h | h
                      · exact hob.out g h
                      · omega
                    · exact (h2.block kb (by show kb < w5.heap.size; omega) (fun h => by rcases h with h | h; (exact nkb h); (exact h.1 rfl))).trans HM5.out
                    · exact ((hout.out.trans HU65.out (fun x hx => by
                        rcases hx with hx | hx
                        · exact .inl (.inl hx)
                        · exact .inr (hob.out x hx))).drew).trans h2 (fun x hx => by
                        rcases hx with hx | hx
                        · exact .inl (.inl hx)
                        · exact .inr hx.2.2)
                  clear h1 h2 h3 n1 n2 n3 n4 n5 n6
                  go_wp2
                  go_roundw
                  case rel => exact HPh.out
                  case measure => simp [intOf]; omega
      · have HMK : Hid (isF 4 ⟨x0, x1, x2, x3, x4⟩ ⟨#[35]⟩ = false) := by unfold Hid; simpa using hmk
        clear hmk
        have hS1 := HP.out ik kp op W6 o' told row hS.out hlt (by rw [← HX.out]; exact HMK.out)
        rw [← HX.out] at hS1
        have HS1 := Lib.hid hS1
        clear hS1
        refine wp_region_quiet_cls (S := Sb W2) (by kernel_rfl) (by kernel_rfl) (Below.refl _ _).drew ?_
        repeat (go_big_quiet_step (first | (go_at_call 14; exact Wd.call _ (mark_is ⟨x0, x1, x2, x3, x4⟩ _ _ _ HMK))))
        refine wpQuiet_nil ?_
        intro w3 hw3
        have HB3 : Hid (Below W2.heap.size W2 w3) := Wd.out hw3
        clear l0 l1 l2 l3 l4 hw3
        have HB23 : Hid (Below W6.heap.size W6 w3) := HB26.out.trans (HB3.out.mono (by omega))
        go_wp2_with fail
        refine (HKP.out ik kp op W6 o' told row hS.out hlt hwk.out w3 HB23.out).mono ?_
        rintro e w4 ⟨rfl, hw4⟩
        have hs3 := HB3.out.size
        have hs4 := hw4.size
        have HB24 : Hid (Below W2.heap.size W2 w4) := HB3.out.trans (hw4.mono hs3)
        have HB4 : Hid (Below W6.heap.size W6 w4) := HB23.out.trans (hw4.mono HB23.out.size)
        have q0 := (HB24.out.cell (p := ⟨wr.heap.size, 0, none⟩) hs2).trans t0
        have q1 := (HB24.out.cell (p := ⟨wr.heap.size, 1, none⟩) hs2).trans t1
        have q2 := (HB24.out.cell (p := ⟨wr.heap.size, 2, none⟩) hs2).trans t2
        have q3 := (HB24.out.cell (p := ⟨wr.heap.size, 3, none⟩) hs2).trans t3
        have q4 := (HB24.out.cell (p := ⟨wr.heap.size, 4, none⟩) hs2).trans t4
        have HO4 := Lib.hid (own_below HO2.out HB24.out)
        clear t0 t1 t2 t3 t4 hw4
        cases kp
        · have HPh : Hid (PhS S w w4 n base wb kb clock (.slice ar row.length cr) (.int .i64 ((ik + 1 : Nat) : Int))) :=
            ⟨W6, ik + 1, false, op, o', told, row, rfl, by omega, by omega, HS1.out, HO4.out, HB4.out, hwk, ho', hob, hmb, hout⟩
          go_wp2
          go_roundw
          case rel => exact HPh.out
          case measure => simp [intOf]; omega
        · go_wp2_with (at_builtin; go_must (refine wpList_push rfl _ _ rfl W6.heap.size _ row.length row rfl (HO4.out.alloc _) w4.heap.size x0 x1 x2 x3 x4 rfl (heap_new' _ _) (by omega) (by simp; omega) ?c4))
          case c4 =>
            intro g cap w5 h1 h2 h3
            have HO5 : Hid (w5.ownsRow W6.heap.size 25 5 (.slice (some ⟨g, 0, none⟩) (row.length + 1) cap) (row.length + 1) (fl (row ++ [⟨x0, x1, x2, x3, x4⟩]))) := h1
            have HB5 : Hid (Below W6.heap.size W6 w5) := (HB4.out.alloc (by omega) _).grown h2 (by simp; omega) (fun g hg => (HO4.out.lt g hg).1)
            clear h1 h2 h3
            have HPh : Hid (PhS S w w5 n base wb kb clock (.slice (some ⟨g, 0, none⟩) (row.length + 1) cap) (.int .i64 ((ik + 1 : Nat) : Int))) :=
              ⟨W6, ik + 1, true, op, o', told, row ++ [⟨x0, x1, x2, x3, x4⟩], rfl, by omega, by simp; omega, by unfold Hid; simpa using HS1.out, by unfold Hid; simpa using HO5.out, HB5.out, hwk, ho', hob, hmb, hout⟩
            go_wp2
            go_roundw
            case rel => exact HPh.out
            case measure => simp [intOf]; omega
    · obtain rfl : ik = n := by omega
      obtain ⟨hR, oa, oc, rfl⟩ := HE.out _ _ _ _ _ _ hS.out
      have HR := Lib.hid hR
      clear hR hlt
      go_wp2_with fail
      refine (tell_gen row told _ _ _ base wb kb false (.slice oa 0 oc) 0 0 o' wr (done_plain' row _ wb kb false (.slice oa 0 oc) o' 0 #[] clock (fun _ => none) wr (sl_of_own hown.out) (by omega) (hwk.out.keep (hbw.out.block wb hwb6)) ((hbw.out.block kb hkb6).trans hmb.out) (fun _ => ⟨none, rfl, rfl⟩) (fun _ _ _ => rfl)) (hwk.out.keep (hbw.out.block wb hwb6)) (own_below ho'.out hbw.out) (by omega) (by omega)).mono ?_
      rintro e w2 ⟨rfl, o2, hW2, hO2, hU2, hb2⟩
      have k2 := hW2.c2
      have HPq : Hid (ClQ w base wb kb R (.returned (.tuple #[])) w2) := by
        refine ⟨rfl, _, _, o2, hW2, by rw [← HR.out]; simpa using hO2, (hout.out.trans (OutsP.of_below hbw.out) (fun x hx => .inl hx)).trans hU2 (fun x hx => by
          rcases hx with hx | hx
          · exact .inl (.inl hx)
          · exact .inr (hob.out x hx)), fun g hg => by
          rcases hb2 g hg with h | h
          · exact hob.out g h
          · omega⟩
      clear hW2 hO2 hU2 hb2
      go_wp2
      exact bodyPost_ret (v := .tuple #[]) (by simp [results, Try.results13, go_sem]) rfl HPq.out
end Go.Proofs.Ytaliplbbmhfenaa
