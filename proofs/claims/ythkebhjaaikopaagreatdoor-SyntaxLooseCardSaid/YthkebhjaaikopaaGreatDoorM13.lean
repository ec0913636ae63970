/- Part of the proof of SyntaxLooseCardSaid (ZK). -/
import Derived.Test.YthkebhjaaikopaaGreatDoorM12
import Derived.Test.YthkebhjaaikopaaGreatDoorM06
set_option maxHeartbeats 8000000
namespace Go.Proofs.YthkebhjaaikopaaGreatDoor
open Go.ChangeShapes Go.WideShapes Go.ChangeAt Go.RowKit Go.Deep Go.Joins Go.Instr
set_option maxRecDepth 100000 in
theorem oW {E : aN} {m : Nat} (hE : ax E) (h : aY E m)  (s : St) (tv : TV) (w : World) (hp : PI E s tv w) (hn : 20 * (E.K.length - s.i) + 2 ≤ m + 1) : Calls Tryz.prog 186 #[.pointer (some ⟨E.pb, 0, none⟩)] w (aQ E tv w ap (unaryF E.K (bf E.K m) s)) := by
 have hmf : ∀ (fn : Fn) (first cap : Array Value) (w : World), (Instr.makeFunc fn first cap).run Tryz.prog w = .ok (.func fn first cap) w := fun _ _ _ _ => rfl
 have HIS := qd hp.i; have HX := qd (E.tok hp.i); refine aE.start hp (fun PP HN0 => ?_); have HL0 := Lt.refl hp.ik hp.d0; clear hp; go_enter Tryz.func186, Tryz.ntmps186; unfold unaryF at HN0; go_wp2_with fail; refine HN0.quiet br (cW E s tv _ hE HN0.pi) ?_; intro w1 hb1 HN1; clear HN0 hb1; replace HN1 := HN1.here rfl; rw [HX.out, show (E.tk s.i).kt.kind = (E.tk s.i).kind from rfl, show (E.tk s.i).kt.text = (E.tk s.i).text from rfl, show (E.tk s.i).kt.n = (E.tk s.i).n from rfl] at HN1; go_wp2_with fail; generalize hW2 : World.alloc w1 _ = W2; have HMt2 : ag _ tv W2 (w1.heap.size) (eP (E.tk s.i)) 31 := ag.new HN1 hW2 rfl; have HN2 := HN1.below (ae hW2); have HZ2 := qd (ah hW2); clear HN1 hW2; refine HN2.call (ae rfl) (bj E s tv _ [⟨#[45]⟩, ⟨#[33]⟩, ⟨#[126]⟩] _ hE (HN2.pi.keep (ae rfl)) (cI W2 [⟨#[45]⟩, ⟨#[33]⟩, ⟨#[126]⟩] _ _ _ rfl rfl (by have := HZ2.out; omega) (by simp)) (by decide)) (bD hE.ends HL0) ?_; rintro x3 s3 tv3 w3 HR3 HG3 HF3 HN3; have HMt3 := HMt2.fr HN2.base HF3; clear HMt2 HN2 HF3; cases x3 with
 | none =>
  obtain rfl := HG3.2 rfl; clear HR3 HG3; unfold cl
  by_cases hk2 : (E.tk s.i).kind = 2
  ·
   have hz2 : ((E.tk s.i).kind == 2) = true := by simpa using hk2
   have HKK : Hid ((tok E.K s.i).kind ≠ 0) := by unfold Hid; rw [HX.out]; show (E.tk s.i).kind ≠ 0; omega
   replace HN3 := HN3.ite hk2; clear hk2; obtain ⟨t0, t1, t2, t3, t4, t5⟩ := HMt3.tok; go_wp2_with fail; refine HN3.next2 hE br rfl ?_; rintro w4 HF4 HN4; have HL4 := bM hE.ends HL0 HKK.out; obtain ⟨s4, hs4⟩ : ∃ x, x = aH E.K s := ⟨_, rfl⟩; rw [← hs4] at HL4 HN4; clear hs4; have HMt4 := HMt3.fr HN3.base HF4; clear HMt3 HN3 HF4 t0 t1 t2 t3 t4 t5; clear hz2; obtain ⟨t0, t1, t2, t3, t4, t5⟩ := HMt4.tok; go_wp2_with fail; refine HN4.plV hE VL.nil (by decide) ?_; intro k5 w5 hpp; have HPP := qd hpp; clear hpp t0 t1 t2 t3 t4 t5; go_wp2_with fail; exact HPP.out
  ·
   have hz2 : ((E.tk s.i).kind == 2) = false := by simpa using hk2
   replace HN3 := HN3.ife hk2; clear hk2; obtain ⟨nb, HNB⟩ : ∃ x, Hid (cO E.K s.i = x) := ⟨_, rfl⟩; rw [HNB.out] at HN3; obtain ⟨t0, t1, t2, t3, t4, t5⟩ := HMt3.tok; go_wp2_with fail; refine HN3.quiet br (gr E s tv3 _ hE HN3.pi HNB.out) ?_; intro w6 hb6 HN6; have HMt6 := HMt3.below hb6; clear HMt3 HN3 hb6 t0 t1 t2 t3 t4 t5; clear hz2; cases nb with
   | true =>
    replace HN6 := HN6.iT; go_wp2_with fail; refine HN6.last br (pw hE h s tv3 _ HN6.pi (by omega)) ?_; intro k7 w7 hpp; have HPP := qd hpp; clear hpp; unfold ap at HPP ⊢; go_wp2_with fail; exact HPP.out
   | false =>
    replace HN6 := HN6.iF; go_wp2_with fail; refine HN6.call (ae rfl) (bj E s tv3 _ [⟨#[102, 97, 108, 115, 101]⟩, ⟨#[116, 114, 117, 101]⟩, ⟨#[115, 107, 105, 112]⟩] _ hE (HN6.pi.keep (ae rfl)) (cI w6 [⟨#[102, 97, 108, 115, 101]⟩, ⟨#[116, 114, 117, 101]⟩, ⟨#[115, 107, 105, 112]⟩] _ _ _ rfl rfl rfl (by simp)) (by decide)) (bD hE.ends HL0) ?_; rintro x8 s8 tv8 w8 HR8 HG8 HF8 HN8; have HMt8 := HMt6.fr HN6.base HF8; clear HMt6 HN6 HF8; cases x8 with
    | none =>
     obtain rfl := HG8.2 rfl; clear HR8 HG8; unfold cl
     by_cases hk1 : (E.tk s.i).kind = 1
     ·
      have hz1 : ((E.tk s.i).kind == 1) = true := by simpa using hk1
      have HK1 := qd hk1; have HKK : Hid ((tok E.K s.i).kind ≠ 0) := by unfold Hid; rw [HX.out]; show (E.tk s.i).kind ≠ 0; omega
      clear hk1; obtain ⟨kv, hkv⟩ : ∃ x, gv fW (E.tk s.i).text = x := ⟨_, rfl⟩; obtain ⟨av, hav⟩ : ∃ x, gv eJ (E.tk s.i).text = x := ⟨_, rfl⟩; rw [hkv, hav] at HN8; have HKEY : Hid (∀ W : World, W.heap[E.kb]? = some E.KB → (Instr.lookup 50 (.map (some E.kb)) (.string (E.tk s.i).text) false).run Tryz.prog W = .ok (.int .i64 kv) W) := fun W hW => by rw [← hkv]; exact hE.keys W _ hW
      have HASK : Hid (∀ W : World, W.heap[E.ab]? = some E.AB → (Instr.lookup 50 (.map (some E.ab)) (.string (E.tk s.i).text) false).run Tryz.prog W = .ok (.int .i64 av) W) := fun W hW => by rw [← hav]; exact hE.asks W _ hW
      clear hkv hav; obtain ⟨t0, t1, t2, t3, t4, t5⟩ := HMt8.tok; go_wp2_with fail; clear hz1; clear t0 t1 t2 t3 t4 t5; have HN9 := HN8.below br.drew; have HMt9 := HMt8.below br.drew; clear HN8 HMt8; obtain ⟨t0, t1, t2, t3, t4, t5⟩ := HMt9.tok; have sx0 := HN9.pi.c3; have sx1 := HN9.pi.k; refine aj (z := 1000) (S := fun w' : World => w'.cell? ⟨w1.heap.size, 0, none⟩ = some (.int .i64 (E.tk s.i).kind) ∧ w'.cell? ⟨w1.heap.size, 1, none⟩ = some (.int .i64 (E.tk s.i).at1) ∧ w'.cell? ⟨w1.heap.size, 2, none⟩ = some (.int .i64 (E.tk s.i).line) ∧ w'.cell? ⟨w1.heap.size, 3, none⟩ = some (.string (E.tk s.i).text) ∧ w'.cell? ⟨w1.heap.size, 4, none⟩ = some (.int .i64 (E.tk s.i).n) ∧ w'.cell? ⟨E.pb, 3, none⟩ = some (.map (some E.kb)) ∧ w'.heap[E.kb]? = some E.KB) (by kernel_rfl) ⟨t0, t1, t2, t3, t4, sx0, sx1⟩ (fun hHeld => ?_); refine wt 0 (.pointer (some ⟨E.pb, 0, none⟩)) ?_; simp only [pu]; refine wt 1 (.pointer (some ⟨E.pb, 0, none⟩)) ?_; simp only [pu]; refine wt 2 (.pointer (some ⟨E.pb, 3, none⟩)) ?_; simp only [pu]; refine wt 3 (.map (some E.kb)) ?_; simp only [pu]; refine wt 4 (.pointer (some ⟨w1.heap.size, 3, none⟩)) ?_; simp only [pu]; refine wt 5 (.string (E.tk s.i).text) ?_; simp only [pu]; refine bm (i := 6) (v := .int .i64 kv) rfl (by kernel_rfl) (by kernel_rfl) (by kernel_rfl) (by kernel_rfl) (by kernel_rfl) (fun _ _ _ h => h) (Or.inl ⟨by kernel_rfl, fun w hSw => by
       have hlk := HKEY.out w hSw.2.2.2.2.2.2
       (try dsimp only at hSw)
       go_simp⟩) hHeld ?_
      simp only [pu]; refine wx 7 7 (.int .i64 kv) ?_; simp only [pu]; refine aK ?_; clear t0 t1 t2 t3 t4 t5 sx0 sx1 hHeld
      by_cases hk : 0 < kv
      ·
       replace HN9 := HN9.ite ⟨HK1.out, hk⟩; have hkd : decide (0 < kv) = true := by simpa using hk
       go_wp2_with fail; refine HN9.next2 hE br rfl ?_; rintro w10 HF10 HN10; have HL10 := bM hE.ends HL0 HKK.out; obtain ⟨s10, hs10⟩ : ∃ x, x = aH E.K s := ⟨_, rfl⟩; rw [← hs10] at HL10 HN10; clear hs10; have HMt10 := HMt9.fr HN9.base HF10; clear HMt9 HN9 HF10; obtain ⟨t0, t1, t2, t3, t4, t5⟩ := HMt10.tok; go_wp2_with fail; refine HN10.plV hE VL.nil (by decide) ?_; intro k11 w11 hpp; have HPP := qd hpp; clear hpp t0 t1 t2 t3 t4 t5; go_wp2_with fail; exact HPP.out
      ·
       replace HN9 := HN9.ife (fun hh => hk hh.2); have hkd : decide (0 < kv) = false := by simpa using hk
       go_wp2_with fail; clear hkd hk; have HN12 := HN9.below br.drew; have HMt12 := HMt9.below br.drew; clear HN9 HMt9; obtain ⟨t0, t1, t2, t3, t4, t5⟩ := HMt12.tok; have sx0 := HN12.pi.c4; have sx1 := HN12.pi.a; refine aj (z := 1000) (S := fun w' : World => w'.cell? ⟨w1.heap.size, 0, none⟩ = some (.int .i64 (E.tk s.i).kind) ∧ w'.cell? ⟨w1.heap.size, 1, none⟩ = some (.int .i64 (E.tk s.i).at1) ∧ w'.cell? ⟨w1.heap.size, 2, none⟩ = some (.int .i64 (E.tk s.i).line) ∧ w'.cell? ⟨w1.heap.size, 3, none⟩ = some (.string (E.tk s.i).text) ∧ w'.cell? ⟨w1.heap.size, 4, none⟩ = some (.int .i64 (E.tk s.i).n) ∧ w'.cell? ⟨E.pb, 4, none⟩ = some (.map (some E.ab)) ∧ w'.heap[E.ab]? = some E.AB) (by kernel_rfl) ⟨t0, t1, t2, t3, t4, sx0, sx1⟩ (fun hHeld => ?_); refine wt 0 (.pointer (some ⟨E.pb, 0, none⟩)) ?_; simp only [pu]; refine wt 1 (.pointer (some ⟨E.pb, 0, none⟩)) ?_; simp only [pu]; refine wt 2 (.pointer (some ⟨E.pb, 4, none⟩)) ?_; simp only [pu]; refine wt 3 (.map (some E.ab)) ?_; simp only [pu]; refine wt 4 (.pointer (some ⟨w1.heap.size, 3, none⟩)) ?_; simp only [pu]; refine wt 5 (.string (E.tk s.i).text) ?_; simp only [pu]; refine bm (i := 6) (v := .int .i64 av) rfl (by kernel_rfl) (by kernel_rfl) (by kernel_rfl) (by kernel_rfl) (by kernel_rfl) (fun _ _ _ h => h) (Or.inl ⟨by kernel_rfl, fun w hSw => by
        have hlk := HASK.out w hSw.2.2.2.2.2.2
        (try dsimp only at hSw)
        go_simp⟩) hHeld ?_
       simp only [pu]; refine wx 7 8 (.int .i64 av) ?_; simp only [pu]; refine aK ?_; clear t0 t1 t2 t3 t4 t5 sx0 sx1 hHeld
       by_cases hk : 0 < av
       ·
        replace HN12 := HN12.ite ⟨HK1.out, hk⟩; have hkd : decide (0 < av) = true := by simpa using hk
        go_wp2_with fail; refine HN12.next2 hE br rfl ?_; rintro w13 HF13 HN13; have HL13 := bM hE.ends HL0 HKK.out; obtain ⟨s13, hs13⟩ : ∃ x, x = aH E.K s := ⟨_, rfl⟩; rw [← hs13] at HL13 HN13; clear hs13; have HMt13 := HMt12.fr HN12.base HF13; clear HMt12 HN12 HF13
        by_cases h36 : av = 36
        ·
         have hz36 : (av == 36) = true := by simpa using h36
         replace HN13 := HN13.ite (Or.inl h36); clear h36 hkd hk; go_wp2_with fail; refine HN13.braced hE h HL13 (by have := HL13.o; omega) ?_; rintro a14 s14 tv14 w14 HR14 ⟨HL14, HD14⟩ HF14 HN14; have HMt14 := HMt13.fr HN13.base HF14; clear HMt13 HN13 HR14 HF14; unfold ap; obtain ⟨t0, t1, t2, t3, t4, t5⟩ := HMt14.tok; go_wp2_with fail; refine HN14.putLastV hE (ae rfl) (VL.lits HN14 [a14] (by simp) rfl rfl rfl rfl) (by decide) ?_; intro k15 w15 hpp; have HPP := qd hpp; clear hpp t0 t1 t2 t3 t4 t5; go_wp2_with fail; exact HPP.out
        ·
         have hz36 : (av == 36) = false := by simpa using h36
         by_cases h37 : av = 37
         ·
          have hz37 : (av == 37) = true := by simpa using h37
          replace HN13 := HN13.ite (Or.inr h37); clear h36 h37 hkd hk; go_wp2_with fail; refine HN13.braced hE h HL13 (by have := HL13.o; omega) ?_; rintro a16 s16 tv16 w16 HR16 ⟨HL16, HD16⟩ HF16 HN16; have HMt16 := HMt13.fr HN13.base HF16; clear HMt13 HN13 HR16 HF16; unfold ap; obtain ⟨t0, t1, t2, t3, t4, t5⟩ := HMt16.tok; go_wp2_with fail; refine HN16.putLastV hE (ae rfl) (VL.lits HN16 [a16] (by simp) rfl rfl rfl rfl) (by decide) ?_; intro k17 w17 hpp; have HPP := qd hpp; clear hpp t0 t1 t2 t3 t4 t5; go_wp2_with fail; exact HPP.out
         ·
          have hz37 : (av == 37) = false := by simpa using h37
          replace HN13 := HN13.ife (fun hh => hh.elim h36 h37); clear h36 h37 hkd hk; go_wp2_with fail; refine HN13.call br (nZ hE h s13 tv8 _ HN13.pi (by have := HL13.o; omega)) (jq hE HL13 (by have := HL13.o; omega)) ?_; rintro a18 s18 tv18 w18 HR18 ⟨HL18, HD18⟩ HF18 HN18; have HMt18 := HMt13.fr HN13.base HF18; clear HMt13 HN13 HR18 HF18; unfold ap; obtain ⟨t0, t1, t2, t3, t4, t5⟩ := HMt18.tok; go_wp2_with fail; refine HN18.putLastV hE (ae rfl) (VL.lits HN18 [a18] (by simp) rfl rfl rfl rfl) (by decide) ?_; intro k19 w19 hpp; have HPP := qd hpp; clear hpp t0 t1 t2 t3 t4 t5; go_wp2_with fail; exact HPP.out
       ·
        replace HN12 := HN12.ife (fun hh => hk hh.2); have hkd : decide (0 < av) = false := by simpa using hk
        replace HN12 : aE E _ _ PP _ _ _ (word E.K (bf E.K m) s.i s) := HN12; unfold word at HN12; go_wp2_with fail; refine HN12.call (ae rfl) (bj E s tv8 _ [⟨#[40]⟩, ⟨#[114, 117, 110]⟩] _ hE (HN12.pi.keep (ae rfl)) (cI w8.drew.drew [⟨#[40]⟩, ⟨#[114, 117, 110]⟩] _ _ _ rfl rfl rfl (by simp)) (by decide)) (bD hE.ends HL0) ?_; rintro x20 s20 tv20 w20 HR20 HG20 HF20 HN20; have HMt20 := HMt12.fr HN12.base HF20; clear HMt12 HN12 HF20; cases x20 with
        | none =>
         obtain rfl := HG20.2 rfl; clear HR20 HG20; unfold cl; go_wp2_with fail; refine (eC E s tv20 _ hE HN20.pi).mono ?_; rintro e wz ⟨rfl, rfl⟩; exact ⟨rfl, HN20.gives rfl⟩
        | some i =>
         have HL20 := HG20.1 i rfl; have hi2 : i < 2 := bJ HR20.out; clear HR20 HG20; unfold cl; rcases i with _ | _ | i
         ·
          clear hi2; obtain ⟨t0, t1, t2, t3, t4, t5⟩ := HMt20.tok; go_wp2_with fail; refine HN20.last br (jF hE h s.i s20 tv20 _ HN20.pi (by have := HL20.o; omega)) ?_; intro k21 w21 hpp; have HPP := qd hpp; clear hpp t0 t1 t2 t3 t4 t5; unfold ap at HPP ⊢; go_wp2_with fail; exact HPP.out
         ·
          clear hi2; go_wp2_with fail; have hfl3 := fun x : ay => gR x.kind x.at1 x.line x.text x.n
          have HX22 := qd (E.tok HN20.pi.i); refine HN20.ident hE HL20 ?_; rintro a22 s22 tv22 w22 HR22 ⟨HL22, HI22⟩ HF22 HN22; have HMt22 := HMt20.fr HN20.base HF22; clear HMt20 HN20 HR22 HF22; obtain rfl := HI22
          try rw [HX22.out] at HN22
          clear HX22; go_wp2_with fail; clear hfl3; refine HN22.must hE HL22 ?_; rintro _ s23 tv23 w23 HR23 HL23 HF23 HN23; have HMt23 := HMt22.fr HN22.base HF23; clear HMt22 HN22 HR23 HF23; go_wp2_with fail; replace HN23 := HN23.assoc rfl; refine HN23.take1 hE HL23 rfl ?_; rintro x24 s24 tv24 w24 HR24 HG24 HF24 HN24; have HMt24 := HMt23.fr HN23.base HF24; clear HMt23 HN23 HR24 HF24; cases x24 with
          | true =>
           have HL24 := HG24.1 rfl; replace HN24 := HN24.iTn; unfold bV; replace HN24 := HN24.pure rfl; obtain ⟨t0, t1, t2, t3, t4, t5⟩ := HMt24.tok; go_wp2_with fail; refine HN24.plV hE VL.nil (aR hE _) ?_; intro k25 w25 hpp; have HPP := qd hpp; clear hpp t0 t1 t2 t3 t4 t5; go_wp2_with fail; exact HPP.out
          | false =>
           obtain rfl := HG24.2 rfl; replace HN24 := HN24.iFn; unfold bV; replace HN24 := HN24.assoc rfl; go_wp2_with fail; refine HN24.callL br (iJ hE h s23 tv24 _ HN24.pi (by have := HL23.o; omega)) (bT hE.ends HL23 (by have := HL23.o; omega)) ?_ rfl; rintro l26 s26 v26 tv26 w26 HR26 ⟨HL26, HE26, HD26⟩ HVl26 HF26 HN26; have HMt26 := HMt24.fr HN24.base HF26; clear HMt24 HN24 HR26 HF26; obtain ⟨xa26, xc26, rfl⟩ := HVl26.slice; clear HE26 HD26; replace HN26 := HN26.assoc rfl; go_wp2_with fail; refine HN26.must hE HL26 ?_; rintro _ s27 tv27 w27 HR27 HL27 HF27 HN27; have HMt27 := HMt26.fr HN26.base HF27; have HVl27 := HVl26.fr HN26.pi HF27 (fun _ h => h.elim); clear HMt26 HVl26 HN26 HR27 HF27; replace HN27 := HN27.pure rfl; obtain ⟨t0, t1, t2, t3, t4, t5⟩ := HMt27.tok; go_wp2_with fail; refine HN27.plV hE HVl27 (aR hE _) ?_; intro k28 w28 hpp; have HPP := qd hpp; clear hpp t0 t1 t2 t3 t4 t5; go_wp2_with fail; exact HPP.out
         · omega
     ·
      have hz1 : ((E.tk s.i).kind == 1) = false := by simpa using hk1
      replace HN8 := HN8.ife (fun hh => hk1 hh.1); replace HN8 := HN8.ife (fun hh => hk1 hh.1); clear hk1; obtain ⟨t0, t1, t2, t3, t4, t5⟩ := HMt8.tok; go_wp2_with fail; clear hz1; clear t0 t1 t2 t3 t4 t5; replace HN8 : aE E _ _ PP _ _ _ (word E.K (bf E.K m) s.i s) := HN8; unfold word at HN8; refine HN8.call (ae rfl) (bj E s tv8 _ [⟨#[40]⟩, ⟨#[114, 117, 110]⟩] _ hE (HN8.pi.keep (ae rfl)) (cI w8 [⟨#[40]⟩, ⟨#[114, 117, 110]⟩] _ _ _ rfl rfl rfl (by simp)) (by decide)) (bD hE.ends HL0) ?_; rintro x29 s29 tv29 w29 HR29 HG29 HF29 HN29; have HMt29 := HMt8.fr HN8.base HF29; clear HMt8 HN8 HF29; cases x29 with
      | none =>
       obtain rfl := HG29.2 rfl; clear HR29 HG29; unfold cl; go_wp2_with fail; refine (eC E s tv29 _ hE HN29.pi).mono ?_; rintro e wz ⟨rfl, rfl⟩; exact ⟨rfl, HN29.gives rfl⟩
      | some i =>
       have HL29 := HG29.1 i rfl; have hi2 : i < 2 := bJ HR29.out; clear HR29 HG29; unfold cl; rcases i with _ | _ | i
       ·
        clear hi2; obtain ⟨t0, t1, t2, t3, t4, t5⟩ := HMt29.tok; go_wp2_with fail; refine HN29.last br (jF hE h s.i s29 tv29 _ HN29.pi (by have := HL29.o; omega)) ?_; intro k30 w30 hpp; have HPP := qd hpp; clear hpp t0 t1 t2 t3 t4 t5; unfold ap at HPP ⊢; go_wp2_with fail; exact HPP.out
       ·
        clear hi2; go_wp2_with fail; have hfl3 := fun x : ay => gR x.kind x.at1 x.line x.text x.n
        have HX31 := qd (E.tok HN29.pi.i); refine HN29.ident hE HL29 ?_; rintro a31 s31 tv31 w31 HR31 ⟨HL31, HI31⟩ HF31 HN31; have HMt31 := HMt29.fr HN29.base HF31; clear HMt29 HN29 HR31 HF31; obtain rfl := HI31
        try rw [HX31.out] at HN31
        clear HX31; go_wp2_with fail; clear hfl3; refine HN31.must hE HL31 ?_; rintro _ s32 tv32 w32 HR32 HL32 HF32 HN32; have HMt32 := HMt31.fr HN31.base HF32; clear HMt31 HN31 HR32 HF32; go_wp2_with fail; replace HN32 := HN32.assoc rfl; refine HN32.take1 hE HL32 rfl ?_; rintro x33 s33 tv33 w33 HR33 HG33 HF33 HN33; have HMt33 := HMt32.fr HN32.base HF33; clear HMt32 HN32 HR33 HF33; cases x33 with
        | true =>
         have HL33 := HG33.1 rfl; replace HN33 := HN33.iTn; unfold bV; replace HN33 := HN33.pure rfl; obtain ⟨t0, t1, t2, t3, t4, t5⟩ := HMt33.tok; go_wp2_with fail; refine HN33.plV hE VL.nil (aR hE _) ?_; intro k34 w34 hpp; have HPP := qd hpp; clear hpp t0 t1 t2 t3 t4 t5; go_wp2_with fail; exact HPP.out
        | false =>
         obtain rfl := HG33.2 rfl; replace HN33 := HN33.iFn; unfold bV; replace HN33 := HN33.assoc rfl; go_wp2_with fail; refine HN33.callL br (iJ hE h s32 tv33 _ HN33.pi (by have := HL32.o; omega)) (bT hE.ends HL32 (by have := HL32.o; omega)) ?_ rfl; rintro l35 s35 v35 tv35 w35 HR35 ⟨HL35, HE35, HD35⟩ HVl35 HF35 HN35; have HMt35 := HMt33.fr HN33.base HF35; clear HMt33 HN33 HR35 HF35; obtain ⟨xa35, xc35, rfl⟩ := HVl35.slice; clear HE35 HD35; replace HN35 := HN35.assoc rfl; go_wp2_with fail; refine HN35.must hE HL35 ?_; rintro _ s36 tv36 w36 HR36 HL36 HF36 HN36; have HMt36 := HMt35.fr HN35.base HF36; have HVl36 := HVl35.fr HN35.pi HF36 (fun _ h => h.elim); clear HMt35 HVl35 HN35 HR36 HF36; replace HN36 := HN36.pure rfl; obtain ⟨t0, t1, t2, t3, t4, t5⟩ := HMt36.tok; go_wp2_with fail; refine HN36.plV hE HVl36 (aR hE _) ?_; intro k37 w37 hpp; have HPP := qd hpp; clear hpp t0 t1 t2 t3 t4 t5; go_wp2_with fail; exact HPP.out
       · omega
    | some i =>
     have HL8 := HG8.1 i rfl; have hi2 : i < 3 := bJ HR8.out; clear HR8 HG8; unfold cl; rcases i with _ | _ | _ | i
     ·
      clear hi2; have hi0 : (0 : Int) ≤ 2 := by decide
      obtain ⟨t0, t1, t2, t3, t4, t5⟩ := HMt8.tok; go_wp2_with fail; refine HN8.plV hE VL.nil (by decide) ?_; intro k38 w38 hpp; have HPP := qd hpp; clear hpp t0 t1 t2 t3 t4 t5; go_wp2_with fail; exact HPP.out
     ·
      clear hi2; have hi0 : (0 : Int) ≤ 2 := by decide
      obtain ⟨t0, t1, t2, t3, t4, t5⟩ := HMt8.tok; go_wp2_with fail; refine HN8.plV hE VL.nil (by decide) ?_; intro k39 w39 hpp; have HPP := qd hpp; clear hpp t0 t1 t2 t3 t4 t5; go_wp2_with fail; exact HPP.out
     ·
      clear hi2; have hi0 : (0 : Int) ≤ 2 := by decide
      obtain ⟨t0, t1, t2, t3, t4, t5⟩ := HMt8.tok; go_wp2_with fail; refine HN8.plV hE VL.nil (by decide) ?_; intro k40 w40 hpp; have HPP := qd hpp; clear hpp t0 t1 t2 t3 t4 t5; go_wp2_with fail; exact HPP.out
     · omega
 | some i =>
  have HL3 := HG3.1 i rfl; have hi2 : i < 3 := bJ HR3.out; clear HR3 HG3; unfold cl; have hi0 : (0 : Int) ≤ (i : Int) := by omega
  have hi3 : (i : Int) < 3 := by omega
  go_wp2_with fail; refine HN3.call br (fF hE h s3 tv3 _ HN3.pi (by have := HL3.o; omega)) (gP hE HL3 (by have := HL3.o; omega)) ?_; rintro a41 s41 tv41 w41 HR41 ⟨HL41, HD41⟩ HF41 HN41; have HMt41 := HMt3.fr HN3.base HF41; clear HMt3 HN3 HR41 HF41; unfold ap; obtain ⟨t0, t1, t2, t3, t4, t5⟩ := HMt41.tok; go_wp2_with fail; refine HN41.putLastV hE (ae rfl) (VL.lits HN41 [a41] (by simp) rfl rfl rfl rfl) (by decide) ?_; intro k42 w42 hpp; have HPP := qd hpp; clear hpp t0 t1 t2 t3 t4 t5; go_wp2_with fail; exact HPP.out
end Go.Proofs.YthkebhjaaikopaaGreatDoor
