/- Part of the proof of SyntaxLooseCardSaid (LOx LPx). -/
import Derived.Test.YthkebhjaaikopaaGreatDoorM36
import Derived.Test.YthkebhjaaikopaaGreatDoorM32
import Derived.WalkKit
import Derived.ScopeJumps
set_option maxHeartbeats 8000000
namespace Go.Proofs.YthkebhjaaikopaaGreatDoor.Lx
open Go.ChangeShapes Go.WideShapes Go.ChangeAt Go.RowKit
def rC (R : Int × Int) (w : World) : Ending → World → Prop := fun e w' => (∃ v, e = .returned (.tuple #[v, .int .i64 R.1, .int .i64 R.2]) ∧ (R.1 = 0 → ∃ (b off c : Nat) (l : List ay) (e : ay), v = .slice (some ⟨b, off, none⟩) (l.length + 1) c ∧ Fe G0 w' b off c l e ∧ l.length ≤ 8192 ∧ e.kind = 0 ∧ e.text.size ≤ 1000000)) ∧ Below w.heap.size w w'
def ur (l : List UInt8) (R : Int × Int) (w : World) (v i j : Value) (wr : World) : Prop :=
 ∃ (c ln a f : Nat) (ts : List ay), ts.length = c ∧ (∀ i, i < ts.length → dt (ts.getD i default)) ∧ a ≤ l.length ∧ c ≤ 8191 ∧ ln ≤ a + 1 ∧ l.length < a + f ∧ i = .int .i64 ln ∧ j = .int .i64 a ∧ Ow wr w.heap.size 31 5 ay.enc v ts ∧ R = cj l f a c ∧ Below w.heap.size w wr ∧ w.heap.size ≤ wr.heap.size
theorem gN {w : World} {b : Nat} (hb : w.heap.size = b) (arr : Array Value) (e : TypeId) : ∀ (j : Nat) (u : Value), arr.toList[j]? = some u → (w.alloc (.cells arr e)).cell? ((⟨b, 0, none⟩ : Addr).add j) = some u := by
 intro j u h; subst hb; have ha : (⟨w.heap.size, 0, none⟩ : Addr).add j = ⟨w.heap.size, j, none⟩ := by
  simp [Addr.add]; intro h; omega
 rw [ha, World.cell?_alloc_new]; simpa using h
theorem sf {ts : List ay} {t : ay} (h : ∀ i, i < ts.length → dt (ts.getD i default)) (ht : dt t) : ∀ i, i < (ts ++ [t]).length → dt ((ts ++ [t]).getD i default) := by
 intro i hi
 by_cases e : i < ts.length
 · have := h i e; simpa [List.getD_eq_getElem?_getD, List.getElem?_append, e] using this
 · have : i = ts.length := by simp at hi; omega
   subst this; simpa [List.getD_eq_getElem?_getD] using ht
theorem ub {k p n : Int} {tx : ByteArray} {ln : Nat} (h : uD k p n tx) (hl : ln ≤ 1000000) : dt ⟨k, p, ln, tx, n⟩ := by
 obtain ⟨h1, h2, h3, h4⟩ := h; refine ⟨by show k ≠ 0; omega, by show tx.size ≤ _; omega, ?_, ?_, ?_, ?_⟩ <;> (unfold dC; simp; omega)
theorem nL (w : World) (a o : Obj) : ((w.alloc a).alloc o).heap[w.heap.size + 1]? = some o := by
 have := al (w.alloc a) o; simpa using this
theorem om {k a b n : Int} {t : ByteArray} : ∀ u ∈ [Value.int .i64 k, .int .i64 a, .int .i64 b, .string t, .int .i64 n], u.oneCell' = true := by
 intro u hu; simp at hu; rcases hu with rfl | rfl | rfl | rfl | rfl <;> rfl
set_option maxRecDepth 20000 in
theorem kr (s : ByteArray) (w : World) (hs : s.size ≤ 65535) (R : Int × Int) (HR : Hid (cj s.data.toList (s.size + 1) 0 0 = R)) :
 Calls Tryz.prog 13 #[.string s] w (rC R w) := by
 have hlen : Hid (s.data.toList.length = s.size) := rfl; have hsi : (s.size : Int) ≤ 65535 := by omega
 go_enter Tryz.func13, Tryz.ntmps13; go_wp2_with fail
 go_loopw [5, 6, 7] (ur s.data.toList R w) (fun _ _ j _ => s.size - (intOf j).toNat)
 case atStart => exact ⟨0, 1, 0, s.size + 1, [], rfl, fun i h => absurd h (Nat.not_lt_zero i), by omega, by omega, by omega, by rw [hlen.out]; omega, rfl, rfl, World.ownsRow_nil _ _ _ _, HR.out.symm, Below.refl _ _, Nat.le_refl _⟩
 case round =>
  obtain ⟨c, ln, a, f, ts, hcl, hok, ha, hc, hln, hf, rfl, rfl, hown, hR, hB, hsz⟩ := hrel; obtain ⟨ao, cap, rfl⟩ := Ow.slice hown; have HK := qd hok; clear hok; rw [hcl] at hown ⊢; have HO := qd hown; clear hown; have HCL := qd hcl; clear hcl; rw [hlen.out] at ha hf; have HR2 := qd hR; clear hR
  by_cases hlt : a < s.size
  · obtain ⟨f, rfl⟩ : ∃ f', f = f' + 1 := ⟨f - 1, by omega⟩; have hbt := qd (ck s a hlt); have hby := cy s a hlt; cases hbl : aP (s[a].toNat : Int) s.data.toList a with
    | none =>
      have H3 : Hid (R = ((3 : Int), (a : Int))) := HR2.out.trans (il (by rw [hlen.out]; exact hlt) (by rw [hbt.out]; exact hbl)); have HBL := qd hbl; clear hbl; go_wp2_with fail; refine (dK s a _ hlt hs).mono ?_; rintro e w1 ⟨rfl, rfl⟩; rw [HBL.out]; simp only [lJ]; go_wp2_with fail; refine bodyPost_ret (v := .tuple #[.slice none 0 0, .int .i64 3, .int .i64 a]) (by simp [results, Tryz.results13, go_sem]) rfl ?_; refine ⟨⟨_, by rw [H3.out], fun h => by rw [H3.out] at h; exact absurd h (by simp)⟩, by go_grown⟩
    | some p =>
      obtain ⟨n, k⟩ := p; have hle := jZ hbl (by rw [hlen.out]; exact hlt); rw [hlen.out] at hle; obtain ⟨hle1, hle2⟩ := hle; cases n with
      | succ n =>
        have H3 : Hid (R = cj s.data.toList f (a + (n + 1)) c) := HR2.out.trans (gE (by rw [hlen.out]; exact hlt) (by rw [hbt.out]; exact hbl)); have HBL := qd hbl; clear hbl; go_wp2_with fail; refine (dK s a _ hlt hs).mono ?_; rintro e w1 ⟨rfl, rfl⟩; rw [HBL.out]; simp only [lJ]; go_wp2_with fail; go_roundw
        case rel => exact ⟨c, ln + k, a + (n + 1), f, ts, HCL.out, HK.out, by rw [hlen.out]; omega, hc, by omega, by rw [hlen.out]; omega, by go_num, by go_num, HO.out, H3.out, hB, hsz⟩
        case measure => simp [intOf]; omega
      | zero =>
        have hTE := @jw s.data.toList f a c k (by rw [hlen.out]; exact hlt) (by rw [hbt.out]; exact hbl); have hTM := @im s.data.toList f a k (by rw [hlen.out]; exact hlt) (by rw [hbt.out]; exact hbl); have hTT := @ju s.data.toList f a c k (by rw [hlen.out]; exact hlt) (by rw [hbt.out]; exact hbl); have hG := @iE s.data.toList a (by rw [hlen.out]; exact hlt); have HNX := qd (fun w => ph s a w hlt hs); have HBL := qd hbl; clear hbl; generalize aI s.data.toList a = r at *
        by_cases he : r.e = 0
        · have hG2 := hG he; obtain ⟨hg1, hg2, -⟩ := hG2; rw [hlen.out] at hg2
          by_cases hc8 : c = 8191
          · subst hc8; have H3 : Hid (R = ((8 : Int), (a : Int))) := HR2.out.trans (hTM he); clear hTE hTM hTT hG; go_wp2_with fail; refine (dK s a _ hlt hs).mono ?_; rintro e w1 ⟨rfl, rfl⟩; rw [HBL.out]; simp only [lJ]; go_wp2_with fail; refine (HNX.out _).mono ?_; rintro e w1 ⟨⟨k1, p1, q1, n1, en, tx, rfl, hen⟩, hB1⟩; have hen2 := hen he; clear hen; obtain ⟨hen2, htq⟩ := hen2; rw [he, hen2]; have hs1 := hB1.size; have hs2 : w.heap.size ≤ w1.heap.size := by omega
            have hB2 : Below w.heap.size w w1 := hB.trans (hB1.mono hsz); go_wp2_with fail; refine bodyPost_ret (v := .tuple #[.slice none 0 0, .int .i64 8, .int .i64 a]) (by simp [results, Tryz.results13, go_sem]) rfl ?_; refine ⟨⟨_, by rw [H3.out], fun h => by rw [H3.out] at h; exact absurd h (by simp)⟩, by go_grown⟩
          · have H3 : Hid (R = cj s.data.toList f (a + r.len) (c + 1)) := HR2.out.trans (hTT he hc8); have hc9 : ((c : Int) == 8191) = false := by rw [beq_eq_false_iff_ne]; omega
            have hc7 : c < 8191 := by omega
            clear hTE hTM hTT hG; go_wp2_with fail; refine (dK s a _ hlt hs).mono ?_; rintro e w1 ⟨rfl, rfl⟩; rw [HBL.out]; simp only [lJ]; go_wp2_with fail; refine (HNX.out _).mono ?_; rintro e w1 ⟨⟨k1, p1, q1, n1, en, tx, rfl, hen⟩, hB1⟩; have hen2 := hen he; clear hen; obtain ⟨hen2, htq⟩ := hen2; rw [he, hen2]; have hs1 := hB1.size; have hs2 : w.heap.size ≤ w1.heap.size := by omega
            have hB2 : Below w.heap.size w w1 := hB.trans (hB1.mono hsz); have HO1 := qd (Ow.keep HO.out hB1); have HTQ := qd htq; clear htq; go_wp2_with (at_builtin; refine bQ aX rfl (.tmp 55) (.tmp 57) rfl w.heap.size ay.enc _ ts rfl ?d1 _ ⟨k1, p1, ln, tx, n1⟩ #[.int .i64 k1, .int .i64 p1, .int .i64 ln, .string tx, .int .i64 n1] rfl (nL _ _ _) rfl ?d2 ?d4 ?d5 ?_)
            case d1 => exact HO1.out.keep (by go_grown)
            case d2 => exact ⟨rfl, rfl, rfl, rfl, rfl⟩
            case d4 => rw [HCL.out]; omega
            case d5 => simp [go_sem]; omega
            intro g cap2 w2 hown' hgrow _; have hB3 : Below w.heap.size w w2 := (hB2.trans ((by go_grown : Below w1.heap.size w1 _).mono hs2)).grown hgrow (by simp [go_sem]; omega) (fun k hk => (HO1.out.lt k hk).1); clear hB hB2 hB1; go_wp2; go_roundw
            case rel => exact ⟨c + 1, ln, a + r.len, f, ts ++ [ay.mk k1 p1 ln tx n1], by simp [HCL.out], sf HK.out (ub HTQ.out (by omega)), by rw [hlen.out]; omega, by omega, by omega, by rw [hlen.out]; omega, by go_num, by go_num, hown', H3.out, hB3, hB3.size⟩
            case measure => simp [intOf]; omega
        · have H3 : Hid (R = (r.e, (a : Int))) := HR2.out.trans (hTE he); have he2 : (r.e == 0) = false := by rw [beq_eq_false_iff_ne]; exact he
          clear hTE hTM hTT hG; go_wp2_with fail; refine (dK s a _ hlt hs).mono ?_; rintro e w1 ⟨rfl, rfl⟩; rw [HBL.out]; simp only [lJ]; go_wp2_with fail; refine (HNX.out _).mono ?_; rintro e w1 ⟨⟨k1, p1, q1, n1, en, tx, rfl, hen⟩, hB1⟩; clear hen; have hs1 := hB1.size; have hs2 : w.heap.size ≤ w1.heap.size := by omega
          have hB2 : Below w.heap.size w w1 := hB.trans (hB1.mono hsz); go_wp2_with fail; refine bodyPost_ret (v := .tuple #[.slice none 0 0, .int .i64 r.e, .int .i64 a]) (by simp [results, Tryz.results13, go_sem]) rfl ?_; refine ⟨⟨_, by rw [H3.out], fun h => absurd ((congrArg Prod.fst H3.out).symm.trans h) he⟩, by go_grown⟩
  · have H3 : Hid (R = (0, 0)) := HR2.out.trans (jv (by rw [hlen.out]; omega)); go_wp2_with (at_builtin; refine bQ aX rfl (.tmp 62) (.tmp 66) rfl w.heap.size ay.enc _ ts rfl (HO.out.alloc _) _ ⟨0, a, ln, ⟨#[]⟩, 0⟩ _ rfl (al _ _) rfl ?c2 ?c4 ?c5 ?_)
    case c2 => exact ⟨rfl, rfl, rfl, rfl, rfl⟩
    case c4 => rw [HCL.out]; omega
    case c5 => simp [go_sem]; omega
    intro g cap2 w1 hown' hgrow _; have hB1 : Below w.heap.size w w1 := (hB.alloc hsz _).grown hgrow (by simp [go_sem]; omega) (fun k hk => (HO.out.lt k hk).1); have HW := qd hown'; clear hown' hgrow; go_wp2; refine bodyPost_ret (v := .tuple #[.slice (some ⟨g, 0, none⟩) (ts.length + 1) cap2, .int .i64 0, .int .i64 0]) (by simp [results, Tryz.results13, go_sem]) rfl ?_; refine ⟨⟨_, by rw [H3.out], fun _ => ?_⟩, hB1⟩; obtain ⟨b, off, c2, h1, h2⟩ := Fe.of_sl (ek HW.out) HK.out (by show dC _; unfold dC; simp; omega); exact ⟨b, off, c2, ts, _, h1, h2, by rw [HCL.out]; omega, rfl, Nat.zero_le _⟩
theorem lC (s : ByteArray) (w : World) (hr : (s.size : Int) ≤ 140737488351232) : Calls Tryz.prog 13 #[.string s] w (rC (sP s.data.toList) w) := by
 have hlen : s.data.toList.length = s.size := rfl; unfold sP; rw [hlen]
 by_cases h : 65535 < s.size
 · rw [if_pos h]; have hi : (65535 : Int) < s.size := by omega
   go_enter Tryz.func13, Tryz.ntmps13; go_wp2; refine bodyPost_ret (v := .tuple #[.slice none 0 0, .int .i64 1, .int .i64 65535]) (by simp [results, Tryz.results13, go_sem]) rfl ?_; refine ⟨⟨_, rfl, fun h => absurd h (by decide)⟩, by go_grown⟩
 · rw [if_neg h]; exact kr s w (by omega) _ rfl
theorem fo (l : List UInt8) (a j : Nat) (t : List UInt8) : bL (l.drop a) j t = bL l (j + a) t := by
 unfold bL; rw [List.drop_drop, Nat.add_comm]
theorem ms (c : Int) (l : List UInt8) (a : Nat) : aP c (l.drop a) 0 = aP c l a := by
 unfold aP; have e1 : bq (fun j => bL (l.drop a) j [42, 47]) (0 + 2) ((l.drop a).length - (0 + 2)) = bq (fun j => bL l (j + a) [42, 47]) 2 (l.length - (a + 2)) := by
  rw [ir (fun j => fo l a j [42, 47]), List.length_drop]
  congr 1
 have e2 : bq (fun j => bL l j [42, 47]) (a + 2) (l.length - (a + 2)) = (bq (fun j => bL l (j + a) [42, 47]) 2 (l.length - (a + 2))).map (· + a) := by
  rw [Nat.add_comm a 2]; exact fw _ a _ 2
 have e3 : bq (eE (l.drop a)) 0 ((l.drop a).length - 0) = bq (fun j => eE l (j + a)) 0 (l.length - a) := by
  rw [ir (q := fun j => eE l (j + a)) (fun j => by simp [eE, List.getD_eq_getElem?_getD, Nat.add_comm]), List.length_drop]; rfl
 have e4 : bq (eE l) a (l.length - a) = (bq (fun j => eE l (j + a)) 0 (l.length - a)).map (· + a) := by
  have := fw (eE l) a (l.length - a) 0; rwa [Nat.zero_add] at this
 rw [e1, e2, e3, e4, fo, fo, fo, Nat.zero_add, Option.map_map]
 congr 5
 · funext j; simp only [Function.comp]; congr 1; omega
 · rw [List.length_drop]; cases bq (fun j => eE l (j + a)) 0 (l.length - a) with
   | none => simp
   | some j => simp
theorem dG (s : ByteArray) (w : World) (hlim : s.size ≤ 281474976710656) :
 Calls Tryz.prog 57 #[.string s] w fun e w' => e = .returned (.string s) ∧ Below w.heap.size w w' := by
 go_enter Tryz.func57, Tryz.ntmps57; go_wp2_with fail; refine (Tryz.stringslite_Clone s w hlim).mono ?_; rintro e w1 ⟨rfl, hB⟩; go_wp2; refine bodyPost_ret (v := .string s) (by simp [results, Tryz.results57, go_sem]) rfl ⟨rfl, hB⟩
theorem kP : Lib.fields [33,33,32,63,63,32,45,62,32,58,58,32,43,43,32,45,45,32,60,60,32,62,62,32,60,61,32,62,61,32,61,61,32,33,61,32,38,38,32,124,124,32,46,46,32,33,32,63,32,60,32,62,32,61,32,43,32,45,32,42,32,47,32,37,32,38,32,124,32,94,32,126,32,40,32,41,32,91,32,93,32,123,32,125,32,44,32,59,32,58,32,46,32,64,32,35] = az := by decide +kernel
inductive jg (l : List UInt8) : List (Nat × Nat) → Nat → Prop
 | nil : jg l [] 0
 | blank {pts p n k} : jg l pts p → p < l.length → aP (bt l p) l p = some (n + 1, k) → jg l pts (p + (n + 1))
 | tok {pts p k} (ln : Nat) : jg l pts p → p < l.length → aP (bt l p) l p = some (0, k) → (aI l p).e = 0 → jg l (pts ++ [(p, ln)]) (p + (aI l p).len)
def jk (l : List UInt8) (p : Nat × Nat) : List Value := [.int .i64 (aI l p.1).kind, .int .i64 p.1, .int .i64 p.2, .string ⟨(aI l p.1).text.toArray⟩, .int .i64 (aI l p.1).n]
def sL (l : List UInt8) (R : Int × Int) (w : World) : Ending → World → Prop := fun e w' =>
 ((R.1 ≠ 0 ∧ e = .returned (.tuple #[.slice none 0 0, .int .i64 R.1, .int .i64 R.2])) ∨
  (R = (0, 0) ∧ ∃ (v : Value) (pts : List (Nat × Nat)) (ln : Nat), e = .returned (.tuple #[v, .int .i64 0, .int .i64 0]) ∧ jg l pts l.length ∧
     w'.ownsRow w.heap.size 31 5 v (pts.length + 1) (pts.flatMap (jk l) ++ [.int .i64 0, .int .i64 l.length, .int .i64 ln, .string ⟨#[]⟩, .int .i64 0]))) ∧ Below w.heap.size w w'
theorem ji {P : Program} {a : Act} {w : World} {Q : Exit → Act → World → Prop} {A B C D rest : Code} (l : Nat) (J : Act → World → Prop) (μ : Act → World → Nat)
 (hf : findLabel (A.seq (B.seq (C.seq (D.seq ((Code.label l).seq rest))))) l = some (Code.skip.seq rest))
 (first : ∀ R : Code, (∀ a w, J a w → R.wp P (Exit.jump l J Q) a w) → (A.seq (B.seq (C.seq (D.seq ((Code.label l).seq R))))).wp P (Exit.jump l J Q) a w)
 (pass : ∀ a w, J a w → rest.wp P (Exit.jump l (fun a' w' => J a' w' ∧ μ a' w' < μ a w) Q) a w) :
 (Code.scope (A.seq (B.seq (C.seq (D.seq ((Code.label l).seq rest)))))).wp P Q a w := by
 refine wp_scope_jumps l J μ hf (first rest fun a w hJ => wp_mono (pass a w hJ) ?_) (fun a w hJ => wp_seq (wp_skip (pass a w hJ))); intro e a' w' h; cases e with
 | goto l' => exact ⟨h.1, h.2.1⟩
 | normal => exact h
 | exit i => exact h
 | ret => exact h
 | panic c => exact h
 | outgrown => exact h
end Go.Proofs.YthkebhjaaikopaaGreatDoor.Lx
