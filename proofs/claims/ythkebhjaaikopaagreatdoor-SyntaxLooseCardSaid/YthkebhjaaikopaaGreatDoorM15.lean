/- Part of the proof of SyntaxLooseCardSaid (ZN). -/
import Derived.Deep.DeepCutAuto
import Derived.Test.YthkebhjaaikopaaGreatDoorM09
import Derived.Test.YthkebhjaaikopaaGreatDoorM04
set_option maxHeartbeats 8000000
namespace Go.Proofs.YthkebhjaaikopaaGreatDoor
open Go.ChangeShapes Go.WideShapes Go.ChangeAt Go.RowKit Go.Deep Go.Joins Go.Instr
def gm (K : List KT) (r : cT) (t : Nat) (x : ByteArray) (n : Int) (p : List Int) : Pm Int := do
 let b ← block K r
 put t 61 x n (p ++ [b])
def gl (K : List KT) (r : cT) (t : Nat) (x : ByteArray) (n h : Int) : Pm Int := do
 let p ← (do
  if ← take1 K (⟨#[112, 114, 111, 118, 105, 100, 101, 100]⟩ : ByteArray) then do
   let a ← braced K (inner r)
   pure [h, a]
  else pure [h])
 gm K r t x n p
def jI (K : List KT) (r : cT) (t : Nat) (n : Int) : Pm Int := do
 must K (⟨#[112, 114, 111, 99, 116, 121, 112, 101]⟩ : ByteArray)
 let d ← ident K
 must K (⟨#[40]⟩ : ByteArray)
 let l ← (do
  if ← take1 K (⟨#[41]⟩ : ByteArray) then pure []
  else decls K r (⟨#[41]⟩ : ByteArray))
 let h ← head K l
 gl K r t (tok K d).text n h
theorem od (b : Bool) : ∃ y : Int, bV b = .int .i64 y ∧ (b = true → 0 ≤ y) ∧ (b = false → y < 0) := by
 cases b with
 | true => exact ⟨0, rfl, by simp, by simp⟩
 | false => exact ⟨-1, rfl, by simp, by simp⟩
theorem BG.lt {K : List KT} {d : Nat} {s0 s s1 : St} {b : Bool} (L : Lt K d s0 s) (h : BG K d s0 s b s1) : Lt K d s0 s1 := by
 cases b with
 | true => exact (h.1 rfl).less (by omega)
 | false => rw [← h.2 rfl]; exact L
set_option maxRecDepth 100000 in
theorem oH {E : aN} (hE : ax E) (qp : Nat) (s : St) (tv : TV) (w : World) (hp : PI E s tv w) (hq : w.heap[qp]? = some (.cells #[.pointer (some ⟨E.pb, 0, none⟩)] 47 (0, 0))) (hn1 : qp ≠ E.pb) (hn2 : tv.v.ownBlock ≠ some qp) :
 Calls Tryz.prog 48 #[.pointer (some ⟨qp, 0, none⟩)] w (aQ E tv w ap (mt E.K s)) := by
 refine aE.start hp (fun PP HN0 => ?_); have HL0 := Lt.refl hp.ik hp.d0; clear hp; have c0 : w.cell? ⟨qp, 0, none⟩ = some (.pointer (some ⟨E.pb, 0, none⟩)) := (cell_of_row w qp 0 _ _ _ hq).trans rfl; have HQ := qd hq; clear hq; unfold mt at HN0; go_enter Tryz.func48, Tryz.ntmps48; go_wp2_with fail; have HX1 := qd (E.tok HN0.pi.i); refine HN0.ident hE HL0 ?_; rintro a1 s1 tv1 w1 HR1 ⟨HL1, HI1⟩ HF1 HN1; have hk1 := Fr.keep HF1 HQ.out hn1 hn2; have c1 : w1.cell? ⟨qp, 0, none⟩ = some (.pointer (some ⟨E.pb, 0, none⟩)) := (cell_of_row w1 qp 0 _ _ _ hk1.1).trans rfl; have hql := af hk1.1; clear c0 hk1; clear HN0 HR1 HF1; obtain rfl := HI1
 try rw [HX1.out] at HN1
 clear HX1; go_wp2_with fail; generalize hW2 : World.alloc w1 _ = W2; have HMu2 : ag _ tv1 W2 (w1.heap.size) (eP (E.tk s.i)) 31 := ag.new HN1 hW2 rfl; have HN2 := HN1.below (ae hW2); have HZ2 := qd (ah hW2); clear HN1 hW2; refine HN2.plV hE VL.nil (aR hE _) ?_; intro k3 w3 hpp; have HPP := qd hpp; clear hpp; go_wp2_with fail; exact HPP.out
set_option maxRecDepth 100000 in
theorem fM {E : aN} {m : Nat} (hE : ax E) (h : aY E m) (t : Nat) (s : St) (tv : TV) (w : World) (hp : PI E s tv w) (hn : 20 * (E.K.length - s.i) + 0 ≤ m) : Calls Tryz.prog 56 #[.pointer (some ⟨E.pb, 0, none⟩), .agg #[.int .i64 (E.tk t).kind, .int .i64 (E.tk t).at1, .int .i64 (E.tk t).line, .string (E.tk t).text, .int .i64 (E.tk t).n]] w (aQ E tv w ap (proctype E.K (bf E.K m) t s)) := by
 have hmf : ∀ (fn : Fn) (first cap : Array Value) (w : World), (Instr.makeFunc fn first cap).run Tryz.prog w = .ok (.func fn first cap) w := fun _ _ _ _ => rfl
 refine aE.start hp (fun PP HN0 => ?_); have HL0 := Lt.refl hp.ik hp.d0; clear hp; go_enter Tryz.func56, Tryz.ntmps56; unfold proctype at HN0; go_wp2_with fail; generalize hW1 : World.alloc w _ = W1; have HMt1 : ag _ tv W1 (w.heap.size) (eP (E.tk t)) 31 := ag.new HN0 hW1 rfl; have HN1 := HN0.below (ae hW1); have HZ1 := qd (ah hW1); clear HN0 hW1; generalize hW2 : World.alloc W1 _ = W2; have HMn2 : ag _ tv W2 (w.heap.size + 1) (bB (61) (0) (0) (⟨#[]⟩) (0) ((.slice none 0 0))) 39 := ag.new HN1 hW2 (by have := HZ1.out; omega); have HN2 := HN1.below (ae hW2); have HZ2 := qd (ah hW2); have HMt2 := HMt1.below (ae hW2); clear HMt1 HN1 hW2; have HVn3 := HN2.nil; unfold count1 at HN2; replace HN2 := HN2.assoc rfl; refine HN2.take1 hE HL0 (by have := HZ1.out; have := HZ2.out; omega) ?_; rintro x4 s4 tv4 w4 HR4 HG4 HF4 HN4; have HMt4 := HMt2.fr HN2.base HF4; have HMn4 := HMn2.fr HN2.base HF4; have HVn4 := HVn3.fr HN2.pi HF4 (fun _ h => h.elim); clear HMt2 HMn2 HVn3 HN2 HR4 HF4; obtain ⟨y9, hy9, hya, hyb⟩ := od x4; rw [hy9]; have HYa := qd hya; have HYb := qd hyb; clear hy9 hya hyb
 go_upto_if 11 with fail
 go_cut [] (fun wx => ∃ (s9 : St) (tv9 : TV), ∃ (a9 : Int), aE E (.at w.heap.size) (VI ap) PP s9 tv9 wx (jI E.K (bf E.K m) t a9 s9) ∧ ag (.at w.heap.size) tv9 wx (w.heap.size) (eP (E.tk t)) 31 ∧ ag (.at w.heap.size) tv9 wx (w.heap.size + 1) (bB (61) (0) (0) (⟨#[]⟩) (a9) ((.slice none 0 0))) 39 ∧ Lt E.K 0 s s9)
 case first =>
  cases x4 with
  | true =>
   have HL4 := HG4.1 rfl; replace HN4 := HN4.iTn; have hya := HYa.out rfl; have hyb : ¬ y9 < 0 := by omega
   replace HN4 := HN4.assoc rfl; obtain ⟨n0, n1, n2, n3, n4, n5, n6⟩ := HMn4.nd; have nf4 := HMn4.free 4; go_wp2_with fail; clear n0 n1 n2 n3 n4 n5 n6 nf4; generalize hW5 : World.setCell w4 _ _ = W5; have HMt5 := HMt4.other (ag.outs hW5) (HMt4.apart HMn4 (by decide)); have HVn5 := HVn4.box HMn4 (by decide) (ag.outs hW5); have HN5 := HN4.box HMn4 (by decide) (ag.outs hW5); have HMn5 : ag _ tv4 W5 _ (bB (61) (0) (0) (⟨#[]⟩) (1) ((.slice none 0 0))) 39 := HMn4.set hW5; have HZ5 := qd (aq hW5); clear HMt4 HVn4 HN4 HMn4 hW5; refine HN5.take1 hE HL4 (by have := HZ5.out; omega) ?_; rintro x6 s6 tv6 w6 HR6 HG6 HF6 HN6; have HMt6 := HMt5.fr HN5.base HF6; have HMn6 := HMn5.fr HN5.base HF6; have HVn6 := HVn5.fr HN5.pi HF6 (fun _ h => h.elim); clear HMt5 HMn5 HVn5 HN5 HR6 HF6; cases x6 with
   | true =>
    have HL6 := HG6.1 rfl; replace HN6 := HN6.iTn; unfold bV; replace HN6 := HN6.assoc rfl; go_wp2_with fail; refine HN6.call br (fQ E s6 tv6 1 255 _ hE HN6.pi) (kG hE.ends HL6) ?_; rintro a7 s7 tv7 w7 HR7 HL7 HF7 HN7; have HMt7 := HMt6.fr HN6.base HF7; have HMn7 := HMn6.fr HN6.base HF7; have HVn7 := HVn6.fr HN6.pi HF7 (fun _ h => h.elim); clear HMt6 HMn6 HVn6 HN6 HR7 HF7; unfold ap; obtain ⟨n0, n1, n2, n3, n4, n5, n6⟩ := HMn7.nd; have nf4 := HMn7.free 4; go_wp2_with fail; clear n0 n1 n2 n3 n4 n5 n6 nf4; generalize hW8 : World.setCell w7 _ _ = W8; have HMt8 := HMt7.other (ag.outs hW8) (HMt7.apart HMn7 (by decide)); have HVn8 := HVn7.box HMn7 (by decide) (ag.outs hW8); have HN8 := HN7.box HMn7 (by decide) (ag.outs hW8); have HMn8 : ag _ tv7 W8 _ (bB (61) (0) (0) (⟨#[]⟩) (a7) ((.slice none 0 0))) 39 := HMn7.set hW8; have HZ8 := qd (aq hW8); clear HMt7 HVn7 HN7 HMn7 hW8; replace HN8 := HN8.assoc rfl; refine HN8.must hE HL7 ?_; rintro _ s9 tv9 w9 HR9 HL9 HF9 HN9; have HMt9 := HMt8.fr HN8.base HF9; have HMn9 := HMn8.fr HN8.base HF9; have HVn9 := HVn8.fr HN8.pi HF9 (fun _ h => h.elim); clear HMt8 HMn8 HVn8 HN8 HR9 HF9; replace HN9 := HN9.pure rfl; go_wp2_with fail
    go_meet
    exact ⟨s9, tv9, a7, HN9.to rfl, HMt9, HMn9, HL9.less (by omega)⟩
   | false =>
    obtain rfl := HG6.2 rfl; replace HN6 := HN6.iFn; unfold bV; replace HN6 := HN6.pure rfl; go_wp2_with fail
    go_meet
    exact ⟨s4, tv6, 1, HN6.to rfl, HMt6, HMn6, HL4.less (by omega)⟩
  | false =>
   obtain rfl := HG4.2 rfl; replace HN4 := HN4.iFn; have hya := HYb.out rfl; have hyb : ¬ 0 ≤ y9 := by omega
   replace HN4 := HN4.pure rfl; go_wp2_with fail
   go_meet
   exact ⟨s, tv4, 0, HN4.to rfl, HMt4, HMn4, HL0.less (by omega)⟩
 case rest =>
  clear HYa HYb HN4 HMt4 HMn4 HVn4; obtain ⟨s10, tv10, a10, HN10, HMt10, HMn10, HL10⟩ := hcut; unfold jI at HN10; have HVn10 := HN10.nil; go_wp2_with fail; refine HN10.must hE HL10 ?_; rintro _ s11 tv11 w11 HR11 HL11 HF11 HN11; have HMt11 := HMt10.fr HN10.base HF11; have HMn11 := HMn10.fr HN10.base HF11; have HVn11 := HVn10.fr HN10.pi HF11 (fun _ h => h.elim); clear HMt10 HMn10 HVn10 HN10 HR11 HF11; go_wp2_with fail; have hfl3 := fun x : ay => gR x.kind x.at1 x.line x.text x.n
  have HX12 := qd (E.tok HN11.pi.i); refine HN11.ident hE HL11 ?_; rintro a12 s12 tv12 w12 HR12 ⟨HL12, HI12⟩ HF12 HN12; have HMt12 := HMt11.fr HN11.base HF12; have HMn12 := HMn11.fr HN11.base HF12; have HVn12 := HVn11.fr HN11.pi HF12 (fun _ h => h.elim); clear HMt11 HMn11 HVn11 HN11 HR12 HF12; obtain rfl := HI12
  try rw [HX12.out] at HN12
  clear HX12; obtain ⟨n0, n1, n2, n3, n4, n5, n6⟩ := HMn12.nd; have nf3 := HMn12.free 3; go_wp2_with fail; clear hfl3; clear n0 n1 n2 n3 n4 n5 n6 nf3; generalize hW13 : World.setCell w12 _ _ = W13; have HMt13 := HMt12.other (ag.outs hW13) (HMt12.apart HMn12 (by decide)); have HVn13 := HVn12.box HMn12 (by decide) (ag.outs hW13); have HN13 := HN12.box HMn12 (by decide) (ag.outs hW13); have HMn13 : ag _ tv12 W13 _ (bB (61) (0) (0) ((E.tk s11.i).text) (a10) ((.slice none 0 0))) 39 := HMn12.set hW13; have HZ13 := qd (aq hW13); clear HMt12 HVn12 HN12 HMn12 hW13; refine HN13.must hE HL12 ?_; rintro _ s14 tv14 w14 HR14 HL14 HF14 HN14; have HMt14 := HMt13.fr HN13.base HF14; have HMn14 := HMn13.fr HN13.base HF14; have HVn14 := HVn13.fr HN13.pi HF14 (fun _ h => h.elim); clear HMt13 HMn13 HVn13 HN13 HR14 HF14; replace HN14 := HN14.assoc rfl; go_wp2_with fail; refine HN14.take1 hE HL14 rfl ?_; rintro x15 s15 tv15 w15 HR15 HG15 HF15 HN15; have HMt15 := HMt14.fr HN14.base HF15; have HMn15 := HMn14.fr HN14.base HF15; have HVn15 := HVn14.fr HN14.pi HF15 (fun _ h => h.elim); clear HMt14 HMn14 HVn14 HN14 HR15 HF15; obtain ⟨y9, hy9, hya, hyb⟩ := od x15; rw [hy9]; have HYa := qd hya; have HYb := qd hyb; clear hy9 hya hyb
  go_upto_if 33 with fail
  go_cut [6] (fun v6 wx => ∃ (s9 : St) (tv9 : TV), ∃ (l9 : List Int), aE E (.at w.heap.size) (VI ap) PP s9 tv9 wx ((head E.K l9 >>= gl E.K (bf E.K m) t (E.tk (s11.i)).text a10) s9) ∧ ag (.at w.heap.size) tv9 wx (w.heap.size) (eP (E.tk t)) 31 ∧ ag (.at w.heap.size) tv9 wx (w.heap.size + 1) (bB (61) (0) (0) ((E.tk s11.i).text) (a10) ((.slice none 0 0))) 39 ∧ Lt E.K 0 s s9 ∧ VL E (.at w.heap.size) l9 v6 tv9 wx)
  case first =>
   cases x15 with
   | true =>
    have HL15 := HG15.1 rfl; replace HN15 := HN15.iTn; have hya := HYa.out rfl; have hyb : ¬ y9 < 0 := by omega
    replace HN15 := HN15.pure rfl; go_wp2_with fail
    go_meet
    exact ⟨s15, tv15, [], HN15.to rfl, HMt15, HMn15, HL15.less (by omega), VL.nil⟩
   | false =>
    obtain rfl := HG15.2 rfl; replace HN15 := HN15.iFn; have hya := HYb.out rfl; have hyb : ¬ 0 ≤ y9 := by omega
    go_wp2_with fail; refine HN15.callL br (gy hE h ⟨#[41]⟩ (by decide) s14 tv15 _ HN15.pi (by have := HL14.o; omega)) (i2 hE.ends (au hE.ends m) HL14 (by have := HL14.o; omega)) ?_; rintro l16 s16 v16 tv16 w16 HR16 HL16 HVl16 HF16 HN16; have HMt16 := HMt15.fr HN15.base HF16; have HMn16 := HMn15.fr HN15.base HF16; have HVn16 := HVn15.fr HN15.pi HF16 (fun _ h => h.elim); clear HMt15 HMn15 HVn15 HN15 HR16 HF16; obtain ⟨xa16, xc16, rfl⟩ := HVl16.slice; go_wp2_with fail
    go_meet
    exact ⟨s16, tv16, l16, HN16.to rfl, HMt16, HMn16, HL16.less (by omega), HVl16⟩
  case rest =>
   clear HYa HYb HN15 HMt15 HMn15 HVn15; obtain ⟨s17, tv17, l17, HN17, HMt17, HMn17, HL17, HVl17⟩ := hcut; obtain ⟨xa17, xc17, rfl⟩ := HVl17.slice; have HVn17 := HN17.nil; go_wp2_with fail; have HN18 := HN17.below br.drew; have HMt18 := HMt17.below br.drew; have HMn18 := HMn17.below br.drew; have HVl18 := HVl17.below br.drew; have HVn18 := HVn17.below br.drew; clear HN17 HMt17 HMn17 HVl17 HVn17; obtain ⟨n0, n1, n2, n3, n4, n5, n6⟩ := HMn18.nd; refine aj (z := 8) (S := fun w' : World => w'.cell? ⟨w.heap.size + 1, 0, none⟩ = some (.int .i64 (61)) ∧ w'.cell? ⟨w.heap.size + 1, 1, none⟩ = some (.int .i64 (0)) ∧ w'.cell? ⟨w.heap.size + 1, 2, none⟩ = some (.int .i64 (0)) ∧ w'.cell? ⟨w.heap.size + 1, 3, none⟩ = some (.string (E.tk s11.i).text) ∧ w'.cell? ⟨w.heap.size + 1, 4, none⟩ = some (.int .i64 (a10)) ∧ w'.cell? ⟨w.heap.size + 1, 5, none⟩ = some ((.slice none 0 0))) (by kernel_rfl) ⟨n0, n1, n2, n3, n4, n5⟩ (fun hHeld => ?_); refine wt 0 (.pointer (some ⟨w.heap.size + 1, 5, none⟩)) ?_; simp only [pu]; refine wt 1 (.slice none 0 0) ?_; simp only [pu]; refine wt 2 (.pointer (some ⟨E.pb, 0, none⟩)) ?_; simp only [pu]; refine wt 3 (.slice xa17 l17.length xc17) ?_; simp only [pu]; refine aO 4 fun K hK => ?_
   go_simp; refine HN18.callH br (iO hE h l17 (.slice xa17 l17.length xc17) s17 tv17 _ HN18.pi HVl18.1) (fun g hg => .inl (HVl18.2 g hg).1) (kM hE.ends HL17) ?_; rintro k19 s19 tv19 w19 HR19 ⟨HL19, HD19⟩ HF19 HN19; have HMt19 := HMt18.fr HN18.base HF19; have HMn19 := HMn18.fr HN18.base HF19; have HVn19 := HVn18.fr HN18.pi HF19 (fun g _ e => by simp [Value.ownBlock] at e); clear HMt18 HMn18 HVn18 HN18 HR19 HF19 n0 n1 n2 n3 n4 n5 n6; unfold ap; obtain ⟨n0, n1, n2, n3, n4, n5, n6⟩ := HMn19.nd; clear hHeld; refine hK.out _ _ ⟨n0, n1, n2, n3, n4, n5⟩ (fun hHeld => ?_); clear hK K
   try simp only [pu]
   refine aO 5 fun K hK => ?_
   go_simp; generalize hW20 : World.alloc w19 _ = W20; have HVk20 : VL _ _ [k19] (.slice (some ⟨w19.heap.size, 0, none⟩) 1 1) tv19 W20 := VL.lits HN19 [k19] (by simp) rfl hW20 rfl rfl; have HHk20 : W20.heap[w19.heap.size]? = some (.cells #[.int .i64 k19] 3 (0, 0)) := by rw [← hW20]; exact al _ _
   have HN20 := HN19.below (ae hW20); have HZ20 := qd (ah hW20); have HG20 := ae hW20; have HMt20 := HMt19.below (ae hW20); have HMn20 := HMn19.below (ae hW20); have HVn20 := HVn19.below (ae hW20); clear HN19 HMt19 HMn19 HVn19 hW20; clear n0 n1 n2 n3 n4 n5 n6; obtain ⟨n0, n1, n2, n3, n4, n5, n6⟩ := HMn20.nd; clear hHeld; refine hK.out _ _ ⟨n0, n1, n2, n3, n4, n5⟩ (fun hHeld => ?_); clear hK K
   try simp only [pu]
   have HLL21 : Hid ((([] : List Int)).length + 1 ≤ 1000000000) := (by unfold Hid; simp); have hbl21 := HN20.pi.bl; refine dm 6 fun K hK => ?_
   refine bu cS rfl (.tmp 37) (.tmp 41) rfl E.B bC (.slice none 0 0) (([] : List Int)) rfl HVn20.1 w19.heap.size k19 #[.int .i64 k19] rfl HHk20 rfl (by intro u hu; simp at hu; rw [hu]; rfl) HLL21.out hbl21 ?_; intro g21 cap21 w21 hg1 hg2 hg3; obtain ⟨HN21, HVk21⟩ := HN20.grow hE HVn20 br hg2 hg1 (fun q hq => by
    obtain rfl : g21 = q := by simpa [Value.ownBlock] using hq
    exact hg3.elim .inl (fun h => .inr (by omega)))
   have HMt21 := HMt20.grow HVn20 (by decide) br hg2; have HMn21 := HMn20.grow HVn20 (by decide) br hg2; clear HN20 HVk20 HHk20 HG20 hbl21 HMt20 HMn20 HVn20 hg1 hg2 hg3; generalize hn21 : (([] : List Int)).length + 1 = n21 at HVk21 ⊢; clear hn21; clear n0 n1 n2 n3 n4 n5 n6; obtain ⟨n0, n1, n2, n3, n4, n5, n6⟩ := HMn21.nd; clear hHeld; refine hK.out _ _ ⟨n0, n1, n2, n3, n4, n5⟩ (fun hHeld => ?_); clear hK K
   try simp only [pu]
   refine wt 7 (.pointer (some ⟨w.heap.size + 1, 5, none⟩)) ?_; simp only [pu]; have nf5 := HMn21.free 5; refine cL fun K hK => ?_
   go_simp; refine hK.out _ _ ?_; clear hK K
   try simp only [pu]
   refine aK ?_; clear n0 n1 n2 n3 n4 n5 n6 nf5; generalize hW22 : World.setCell w21 _ _ = W22; have HMt22 := HMt21.other (ag.outs hW22) (HMt21.apart HMn21 (by decide)); have HVn22 := HVk21.box HMn21 (by decide) (ag.outs hW22); have HN22 := HN21.box HMn21 (by decide) (ag.outs hW22); have HMn22 : ag _ tv19 W22 _ (bB (61) (0) (0) ((E.tk s11.i).text) (a10) ((.slice (some ⟨g21, 0, none⟩) n21 cap21))) 39 := HMn21.set hW22; have HZ22 := qd (aq hW22); clear HMt21 HVk21 HN21 HMn21 hW22; unfold gl at HN22; replace HN22 := HN22.assoc rfl; go_wp2_with fail; refine HN22.take1 hE HL19 rfl ?_; rintro x23 s23 tv23 w23 HR23 HG23 HF23 HN23; have HMt23 := HMt22.fr HN22.base HF23; have HMn23 := HMn22.fr HN22.base HF23; have HVn23 := HVn22.fr HN22.pi HF23 (fun _ h => h.elim); clear HMt22 HMn22 HVn22 HN22 HR23 HF23; obtain ⟨y9, hy9, hya, hyb⟩ := od x23; rw [hy9]; have HYa := qd hya; have HYb := qd hyb; clear hy9 hya hyb
   go_upto_if 47 with fail
   go_cut [] (fun wx => ∃ (s9 : St) (tv9 : TV), ∃ (l9 : List Int) (v9 : Value), aE E (.at w.heap.size) (VI ap) PP s9 tv9 wx (gm E.K (bf E.K m) t (E.tk (s11.i)).text a10 l9 s9) ∧ ag (.at w.heap.size) tv9 wx (w.heap.size) (eP (E.tk t)) 31 ∧ ag (.at w.heap.size) tv9 wx (w.heap.size + 1) (bB (61) (0) (0) ((E.tk s11.i).text) (a10) (v9)) 39 ∧ Lt E.K 0 s s9 ∧ VL E (.at w.heap.size) l9 v9 tv9 wx ∧ l9.length ≤ 2)
   case first =>
    cases x23 with
    | true =>
     have HL23 := HG23.1 rfl; replace HN23 := HN23.iTn; have hya := HYa.out rfl; have hyb : ¬ y9 < 0 := by omega
     replace HN23 := HN23.assoc rfl; go_wp2_with fail; have HN24 := HN23.below br.drew; have HMt24 := HMt23.below br.drew; have HMn24 := HMn23.below br.drew; have HVn24 := HVn23.below br.drew; clear HN23 HMt23 HMn23 HVn23; obtain ⟨n0, n1, n2, n3, n4, n5, n6⟩ := HMn24.nd; refine aj (z := 9) (S := fun w' : World => w'.cell? ⟨w.heap.size + 1, 0, none⟩ = some (.int .i64 (61)) ∧ w'.cell? ⟨w.heap.size + 1, 1, none⟩ = some (.int .i64 (0)) ∧ w'.cell? ⟨w.heap.size + 1, 2, none⟩ = some (.int .i64 (0)) ∧ w'.cell? ⟨w.heap.size + 1, 3, none⟩ = some (.string (E.tk s11.i).text) ∧ w'.cell? ⟨w.heap.size + 1, 4, none⟩ = some (.int .i64 (a10)) ∧ w'.cell? ⟨w.heap.size + 1, 5, none⟩ = some ((.slice (some ⟨g21, 0, none⟩) n21 cap21))) (by kernel_rfl) ⟨n0, n1, n2, n3, n4, n5⟩ (fun hHeld => ?_); refine wt 0 (.pointer (some ⟨w.heap.size + 1, 5, none⟩)) ?_; simp only [pu]; refine wt 1 (.slice (some ⟨g21, 0, none⟩) n21 cap21) ?_; simp only [pu]; refine wt 2 (.pointer (some ⟨E.pb, 0, none⟩)) ?_; simp only [pu]; refine wt 3 (.pointer (some ⟨E.pb, 0, none⟩)) ?_; simp only [pu]; refine wt 4 (.func (.func 107) #[.pointer (some ⟨E.pb, 0, none⟩)] #[]) ?_; simp only [pu]; refine aO 5 fun K hK => ?_
     go_simp; refine HN24.braced hE h HL23 (by have := HL23.o; omega) ?_; rintro a25 s25 tv25 w25 HR25 ⟨HL25, HD25⟩ HF25 HN25; have HMt25 := HMt24.fr HN24.base HF25; have HMn25 := HMn24.fr HN24.base HF25; have HVn25 := HVn24.fr HN24.pi HF25 (fun _ h => h.elim); clear HMt24 HMn24 HVn24 HN24 HR25 HF25 n0 n1 n2 n3 n4 n5 n6; unfold ap; obtain ⟨n0, n1, n2, n3, n4, n5, n6⟩ := HMn25.nd; clear hHeld; refine hK.out _ _ ⟨n0, n1, n2, n3, n4, n5⟩ (fun hHeld => ?_); clear hK K
     try simp only [pu]
     refine aO 6 fun K hK => ?_
     go_simp; generalize hW26 : World.alloc w25 _ = W26; have HVk26 : VL _ _ [a25] (.slice (some ⟨w25.heap.size, 0, none⟩) 1 1) tv25 W26 := VL.lits HN25 [a25] (by simp) rfl hW26 rfl rfl; have HHk26 : W26.heap[w25.heap.size]? = some (.cells #[.int .i64 a25] 3 (0, 0)) := by rw [← hW26]; exact al _ _
     have HN26 := HN25.below (ae hW26); have HZ26 := qd (ah hW26); have HG26 := ae hW26; have HMt26 := HMt25.below (ae hW26); have HMn26 := HMn25.below (ae hW26); have HVn26 := HVn25.below (ae hW26); clear HN25 HMt25 HMn25 HVn25 hW26; clear n0 n1 n2 n3 n4 n5 n6; obtain ⟨n0, n1, n2, n3, n4, n5, n6⟩ := HMn26.nd; clear hHeld; refine hK.out _ _ ⟨n0, n1, n2, n3, n4, n5⟩ (fun hHeld => ?_); clear hK K
     try simp only [pu]
     have HLL27 : Hid ((([] : List Int) ++ [k19]).length + 1 ≤ 1000000000) := (by unfold Hid; simp); have hbl27 := HN26.pi.bl; refine dm 7 fun K hK => ?_
     refine bu cS rfl (.tmp 49) (.tmp 54) rfl E.B bC (.slice (some ⟨g21, 0, none⟩) n21 cap21) (([] : List Int) ++ [k19]) rfl HVn26.1 w25.heap.size a25 #[.int .i64 a25] rfl HHk26 rfl (by intro u hu; simp at hu; rw [hu]; rfl) HLL27.out hbl27 ?_; intro g27 cap27 w27 hg1 hg2 hg3; obtain ⟨HN27, HVk27⟩ := HN26.grow hE HVn26 br hg2 hg1 (fun q hq => by
      obtain rfl : g27 = q := by simpa [Value.ownBlock] using hq
      exact hg3.elim .inl (fun h => .inr (by omega)))
     have HMt27 := HMt26.grow HVn26 (by decide) br hg2; have HMn27 := HMn26.grow HVn26 (by decide) br hg2; clear HN26 HVk26 HHk26 HG26 hbl27 HMt26 HMn26 HVn26 hg1 hg2 hg3; generalize hn27 : (([] : List Int) ++ [k19]).length + 1 = n27 at HVk27 ⊢; clear hn27; clear n0 n1 n2 n3 n4 n5 n6; obtain ⟨n0, n1, n2, n3, n4, n5, n6⟩ := HMn27.nd; clear hHeld; refine hK.out _ _ ⟨n0, n1, n2, n3, n4, n5⟩ (fun hHeld => ?_); clear hK K
     try simp only [pu]
     refine wt 8 (.pointer (some ⟨w.heap.size + 1, 5, none⟩)) ?_; simp only [pu]; have nf5 := HMn27.free 5; refine cL fun K hK => ?_
     go_simp; refine hK.out _ _ ?_; clear hK K
     try simp only [pu]
     refine aK ?_; clear n0 n1 n2 n3 n4 n5 n6 nf5; generalize hW28 : World.setCell w27 _ _ = W28; have HMt28 := HMt27.other (ag.outs hW28) (HMt27.apart HMn27 (by decide)); have HVn28 := HVk27.box HMn27 (by decide) (ag.outs hW28); have HN28 := HN27.box HMn27 (by decide) (ag.outs hW28); have HMn28 : ag _ tv25 W28 _ (bB (61) (0) (0) ((E.tk s11.i).text) (a10) ((.slice (some ⟨g27, 0, none⟩) n27 cap27))) 39 := HMn27.set hW28; have HZ28 := qd (aq hW28); clear HMt27 HVk27 HN27 HMn27 hW28; replace HN28 := HN28.pure rfl; go_wp2_with fail
     go_meet
     exact ⟨s25, tv25, _, _, HN28.to rfl, HMt28, HMn28, HL25.less (by omega), HVn28, by simp⟩
    | false =>
     obtain rfl := HG23.2 rfl; replace HN23 := HN23.iFn; have hya := HYb.out rfl; have hyb : ¬ 0 ≤ y9 := by omega
     replace HN23 := HN23.pure rfl; go_wp2_with fail
     go_meet
     exact ⟨s19, tv23, _, _, HN23.to rfl, HMt23, HMn23, HL19.less (by omega), HVn23, by simp⟩
   case rest =>
    clear HYa HYb HN23 HMt23 HMn23 HVn23; obtain ⟨s29, tv29, l29, v29, HN29, HMt29, HMn29, HL29, HVn29, hl29⟩ := hcut; obtain ⟨xa29, xc29, rfl⟩ := HVn29.slice; unfold gm at HN29; go_wp2_with fail; have HN30 := HN29.below br.drew; have HMt30 := HMt29.below br.drew; have HMn30 := HMn29.below br.drew; have HVn30 := HVn29.below br.drew; clear HN29 HMt29 HMn29 HVn29; obtain ⟨n0, n1, n2, n3, n4, n5, n6⟩ := HMn30.nd; refine aj (z := 7) (S := fun w' : World => w'.cell? ⟨w.heap.size + 1, 0, none⟩ = some (.int .i64 (61)) ∧ w'.cell? ⟨w.heap.size + 1, 1, none⟩ = some (.int .i64 (0)) ∧ w'.cell? ⟨w.heap.size + 1, 2, none⟩ = some (.int .i64 (0)) ∧ w'.cell? ⟨w.heap.size + 1, 3, none⟩ = some (.string (E.tk s11.i).text) ∧ w'.cell? ⟨w.heap.size + 1, 4, none⟩ = some (.int .i64 (a10)) ∧ w'.cell? ⟨w.heap.size + 1, 5, none⟩ = some ((.slice xa29 l29.length xc29))) (by kernel_rfl) ⟨n0, n1, n2, n3, n4, n5⟩ (fun hHeld => ?_); refine wt 0 (.pointer (some ⟨w.heap.size + 1, 5, none⟩)) ?_; simp only [pu]; refine wt 1 (.slice xa29 l29.length xc29) ?_; simp only [pu]; refine wt 2 (.pointer (some ⟨E.pb, 0, none⟩)) ?_; simp only [pu]; refine aO 3 fun K hK => ?_
    go_simp; refine HN30.block hE h HL29 (by have := HL29.o; omega) ?_; rintro a31 s31 tv31 w31 HR31 ⟨HL31, HD31⟩ HF31 HN31; have HMt31 := HMt30.fr HN30.base HF31; have HMn31 := HMn30.fr HN30.base HF31; have HVn31 := HVn30.fr HN30.pi HF31 (fun _ h => h.elim); clear HMt30 HMn30 HVn30 HN30 HR31 HF31 n0 n1 n2 n3 n4 n5 n6; unfold ap; obtain ⟨n0, n1, n2, n3, n4, n5, n6⟩ := HMn31.nd; clear hHeld; refine hK.out _ _ ⟨n0, n1, n2, n3, n4, n5⟩ (fun hHeld => ?_); clear hK K
    try simp only [pu]
    refine aO 4 fun K hK => ?_
    go_simp; generalize hW32 : World.alloc w31 _ = W32; have HVk32 : VL _ _ [a31] (.slice (some ⟨w31.heap.size, 0, none⟩) 1 1) tv31 W32 := VL.lits HN31 [a31] (by simp) rfl hW32 rfl rfl; have HHk32 : W32.heap[w31.heap.size]? = some (.cells #[.int .i64 a31] 3 (0, 0)) := by rw [← hW32]; exact al _ _
    have HN32 := HN31.below (ae hW32); have HZ32 := qd (ah hW32); have HG32 := ae hW32; have HMt32 := HMt31.below (ae hW32); have HMn32 := HMn31.below (ae hW32); have HVn32 := HVn31.below (ae hW32); clear HN31 HMt31 HMn31 HVn31 hW32; clear n0 n1 n2 n3 n4 n5 n6; obtain ⟨n0, n1, n2, n3, n4, n5, n6⟩ := HMn32.nd; clear hHeld; refine hK.out _ _ ⟨n0, n1, n2, n3, n4, n5⟩ (fun hHeld => ?_); clear hK K
    try simp only [pu]
    have HLL33 : Hid ((l29).length + 1 ≤ 1000000000) := (by unfold Hid; omega); have hbl33 := HN32.pi.bl; refine dm 5 fun K hK => ?_
    refine bu cS rfl (.tmp 58) (.tmp 61) rfl E.B bC (.slice xa29 l29.length xc29) (l29) rfl HVn32.1 w31.heap.size a31 #[.int .i64 a31] rfl HHk32 rfl (by intro u hu; simp at hu; rw [hu]; rfl) HLL33.out hbl33 ?_; intro g33 cap33 w33 hg1 hg2 hg3; obtain ⟨HN33, HVk33⟩ := HN32.grow hE HVn32 br hg2 hg1 (fun q hq => by
     obtain rfl : g33 = q := by simpa [Value.ownBlock] using hq
     exact hg3.elim .inl (fun h => .inr (by omega)))
    have HMt33 := HMt32.grow HVn32 (by decide) br hg2; have HMn33 := HMn32.grow HVn32 (by decide) br hg2; clear HN32 HVk32 HHk32 HG32 hbl33 HMt32 HMn32 HVn32 hg1 hg2 hg3; generalize hn33 : (l29).length + 1 = n33 at HVk33 ⊢; clear hn33; clear n0 n1 n2 n3 n4 n5 n6; obtain ⟨n0, n1, n2, n3, n4, n5, n6⟩ := HMn33.nd; clear hHeld; refine hK.out _ _ ⟨n0, n1, n2, n3, n4, n5⟩ (fun hHeld => ?_); clear hK K
    try simp only [pu]
    refine wt 6 (.pointer (some ⟨w.heap.size + 1, 5, none⟩)) ?_; simp only [pu]; have nf5 := HMn33.free 5; refine cL fun K hK => ?_
    go_simp; refine hK.out _ _ ?_; clear hK K
    try simp only [pu]
    refine aK ?_; clear n0 n1 n2 n3 n4 n5 n6 nf5; generalize hW34 : World.setCell w33 _ _ = W34; have HMt34 := HMt33.other (ag.outs hW34) (HMt33.apart HMn33 (by decide)); have HVn34 := HVk33.box HMn33 (by decide) (ag.outs hW34); have HN34 := HN33.box HMn33 (by decide) (ag.outs hW34); have HMn34 : ag _ tv31 W34 _ (bB (61) (0) (0) ((E.tk s11.i).text) (a10) ((.slice (some ⟨g33, 0, none⟩) n33 cap33))) 39 := HMn33.set hW34; have HZ34 := qd (aq hW34); clear HMt33 HVk33 HN33 HMn33 hW34; obtain ⟨t0, t1, t2, t3, t4, t5⟩ := HMt34.tok; obtain ⟨n0, n1, n2, n3, n4, n5, n6⟩ := HMn34.nd; go_wp2_with fail; refine HN34.plV hE HVn34 (aR hE _) ?_; intro k35 w35 hpp; have HPP := qd hpp; clear hpp t0 t1 t2 t3 t4 t5 n0 n1 n2 n3 n4 n5 n6; go_wp2_with fail; exact HPP.out
end Go.Proofs.YthkebhjaaikopaaGreatDoor
