/- Part of the proof of SyntaxLooseCardSaid (KT KU KV). -/
import Derived.Test.YthkebhjaaikopaaGreatDoorM29
set_option maxHeartbeats 8000000
set_option linter.unusedSimpArgs false
set_option linter.unusedVariables false
namespace Go.Proofs.YthkebhjaaikopaaGreatDoor
open Go.ChangeShapes Go.WideShapes Go.ChangeAt Go.RowKit Go.Deep Go.Joins Go.Instr
structure Fe (Γ : Gh) (w : World) (b off c : Nat) (ts : List ay) (e : ay) : Prop where
 cap : ts.length + 1 ≤ c
 max : c ≤ maxLen
 lt : b < w.heap.size
 no : Γ b = none
 cell : ∀ i, i < ts.length + 1 → ∀ j, j < 5 → w.cell? ⟨b, off + i * 5 + j, none⟩ = some (((ts ++ [e]).getD i default).enc j)
 ok : ∀ i, i < ts.length → dt (ts.getD i default)
 ea : dC e.at1
theorem Fe.turn {Γ Γ' : Gh} {w w' : World} {b off c : Nat} {ts : List ay} {e : ay} (h : Fe Γ w b off c ts e) (ht : ai Γ w Γ' w') : Fe Γ' w' b off c ts e :=
 ⟨h.cap, h.max, Nat.lt_of_lt_of_le h.lt ht.outs.size, by
  cases e : Γ' b with
  | none => rfl
  | some x =>
    rcases ht.new b (by rw [e]; simp) with h1 | h1
    · exact absurd h.no h1
    · have := h.lt; omega, fun i hi j hj => (World.cell?_of_block (a := ⟨b, off + i * 5 + j, none⟩) (ht.outs.block b h.lt (fun e => e h.no))).trans (h.cell i hi j hj), h.ok, h.ea⟩
theorem ic (x : Int) (h1 : -9223372036854775808 ≤ x) (h2 : x ≤ 9223372036854775807) : IntKind.i64.wrap x = x := by
 simp only [IntKind.wrap, IntKind.signed, IntKind.bits]; simp; omega
theorem dE {ts : List ay} {e : ay} {i : Nat} (h : i < ts.length) : (ts ++ [e]).getD i default = ts.getD i default := by
 simp [List.getD_eq_getElem?_getD, List.getElem?_append_left h]
theorem ey (ts : List ay) (e : ay) : (ts ++ [e]).getD ts.length default = e := by
 simp [List.getD_eq_getElem?_getD]
theorem Fe.sub {Γ : Gh} {w : World} {b off c : Nat} {ts : List ay} {e : ay} (h : Fe Γ w b off c ts e) {lo hi : Nat} (h1 : lo ≤ hi) (h2 : hi ≤ ts.length) : Fx Γ w (some ⟨b, off + lo * 5, none⟩) (c - lo) ((ts.drop lo).take (hi - lo)) := by
 have hlen : ((ts.drop lo).take (hi - lo)).length = hi - lo := by simp; omega
 have hget : ∀ i, i < hi - lo → ((ts.drop lo).take (hi - lo)).getD i default = ts.getD (lo + i) default := fun i hi' => by
  simp [List.getD_eq_getElem?_getD, List.getElem?_take, hi']
 refine ⟨by rw [hlen]; have := h.cap; omega, by have := h.max; omega, fun _ => ⟨b, off + lo * 5, rfl, h.lt, h.no, fun i hi' j hj => ?_⟩, fun i hi' => ?_⟩
 · rw [hlen] at hi'; rw [hget i hi', ← dE (e := e) (by omega), ← h.cell (lo + i) (by omega) j hj, Nat.add_mul, ← Nat.add_assoc]
 · rw [hlen] at hi'; rw [hget i hi']; exact h.ok (lo + i) (by omega)
set_option maxRecDepth 100000 in
theorem uf {C : Code} (hC : cU 10 (Tryz.f14.body.getD .skip) = some C) (K : Act → World → Prop) (R : List PanicEntry → List Deferred → World → Prop) (Q : Exit → Act → World → Prop) {s1 s2 s3 s4 s5 s6 s7 s8 s11 s12 s13 s14 s15 s16 s17 s18 s19 s20 s21 s22 s23 s24 s25 s26 s27 s28 s29 s30 s31 s32 s33 s34 s35 s36 s37 s38 s39 s40 s41 s42 s43 s44 s45 s46 s47 s48 s49 s50 s51 s52 s53 s54 s55 s56 s57 s58 s59 s60 s61 s62 s63 s64 s65 s66 s67 s68 s69 s70 s71 s72 s73 s74 s75 s76 s77 s78 s79 s80 s81 s82 s83 s84 s85 s86 s87 s88 s89 s90 s91 s92 s93 s94 s95 s96 s97 s98 s99 s100 s101 s102 s103 s104 s105 s106 s107 s108 s109 s110 s111 s112 s113 s114 s115 s116 s117 s118 s119 s120 s121 s122 s123 s124 s125 s126 s127 s128 s129 s130 s131 s132 s133 s134 : Value} {Γ : Gh} (b off c : Nat) (ts : List ay) (e : ay) (w : World) (hl : Fe Γ w b off c ts e) (hn : ts.length ≤ 900000) (i : Nat) (hi : i < ts.length) (m : Bool)
 (hK : ∀ (r : Bool) {r37 r38 r39 r40 r41 r42 r43 r44 r45 r46 r47 r48 r49 r50 r51 r52 r53 r54 r55 : Value}, K ⟨((.slice (some ⟨b, off, none⟩) (ts.length + 1) c) :: s1 :: s2 :: s3 :: s4 :: s5 :: s6 :: s7 :: s8 :: (.int .i64 i) :: (.bool m) :: s11 :: s12 :: s13 :: s14 :: s15 :: s16 :: s17 :: s18 :: s19 :: s20 :: s21 :: s22 :: s23 :: s24 :: s25 :: s26 :: s27 :: s28 :: s29 :: s30 :: s31 :: s32 :: s33 :: s34 :: s35 :: s36 :: r37 :: r38 :: r39 :: r40 :: r41 :: r42 :: r43 :: r44 :: r45 :: r46 :: r47 :: r48 :: r49 :: r50 :: r51 :: r52 :: r53 :: r54 :: r55 :: (.bool r) :: s57 :: s58 :: s59 :: s60 :: s61 :: s62 :: s63 :: s64 :: s65 :: s66 :: s67 :: s68 :: s69 :: s70 :: s71 :: s72 :: s73 :: s74 :: s75 :: s76 :: s77 :: s78 :: s79 :: s80 :: s81 :: s82 :: s83 :: s84 :: s85 :: s86 :: s87 :: s88 :: s89 :: s90 :: s91 :: s92 :: s93 :: s94 :: s95 :: s96 :: s97 :: s98 :: s99 :: s100 :: s101 :: s102 :: s103 :: s104 :: s105 :: s106 :: s107 :: s108 :: s109 :: s110 :: s111 :: s112 :: s113 :: s114 :: s115 :: s116 :: s117 :: s118 :: s119 :: s120 :: s121 :: s122 :: s123 :: s124 :: s125 :: s126 :: s127 :: s128 :: s129 :: s130 :: s131 :: s132 :: s133 :: s134 :: []).toArray, []⟩ w.drew) :
 Code.wp Tryz.prog C (Exit.then K (Qp R Q)) ⟨((.slice (some ⟨b, off, none⟩) (ts.length + 1) c) :: s1 :: s2 :: s3 :: s4 :: s5 :: s6 :: s7 :: s8 :: (.int .i64 i) :: (.bool m) :: s11 :: s12 :: s13 :: s14 :: s15 :: s16 :: s17 :: s18 :: s19 :: s20 :: s21 :: s22 :: s23 :: s24 :: s25 :: s26 :: s27 :: s28 :: s29 :: s30 :: s31 :: s32 :: s33 :: s34 :: s35 :: s36 :: s37 :: s38 :: s39 :: s40 :: s41 :: s42 :: s43 :: s44 :: s45 :: s46 :: s47 :: s48 :: s49 :: s50 :: s51 :: s52 :: s53 :: s54 :: s55 :: s56 :: s57 :: s58 :: s59 :: s60 :: s61 :: s62 :: s63 :: s64 :: s65 :: s66 :: s67 :: s68 :: s69 :: s70 :: s71 :: s72 :: s73 :: s74 :: s75 :: s76 :: s77 :: s78 :: s79 :: s80 :: s81 :: s82 :: s83 :: s84 :: s85 :: s86 :: s87 :: s88 :: s89 :: s90 :: s91 :: s92 :: s93 :: s94 :: s95 :: s96 :: s97 :: s98 :: s99 :: s100 :: s101 :: s102 :: s103 :: s104 :: s105 :: s106 :: s107 :: s108 :: s109 :: s110 :: s111 :: s112 :: s113 :: s114 :: s115 :: s116 :: s117 :: s118 :: s119 :: s120 :: s121 :: s122 :: s123 :: s124 :: s125 :: s126 :: s127 :: s128 :: s129 :: s130 :: s131 :: s132 :: s133 :: s134 :: []).toArray, []⟩ w := by
 obtain rfl := Option.some.inj (hC.symm.trans (rfl : cU 10 (Tryz.f14.body.getD .skip) = some _)); clear hC; have HK := qd hK; have y2c := hl.cell i (by omega) 2 (by omega); generalize hy : (ts ++ [e]).getD i default = y at y2c; obtain ⟨y0, y1, y2, y3, y4⟩ := y; simp only [ay.enc] at y2c; have hi2 : (i : Int) < (ts.length : Int) + 1 := by omega
 clear hK hy; cases m with
 | false =>
   refine aj (z := 1000) (S := fun w' : World => w'.cell? ⟨b, off + i * 5 + 2, none⟩ = some (.int .i64 y2)) (by kernel_rfl) y2c (fun hHeld => ?_); refine wt 0 (.bool false) ?_; simp only [pu]; refine wt 1 (.bool true) ?_; simp only [pu]; refine wt 2 (.bool true) ?_; simp only [pu]; refine wu 3 ?_; simp only [pu]; refine wu 4 ?_; simp only [pu]; refine wu 5 ?_; simp only [pu]; refine wu 6 ?_; simp only [pu]; refine wu 7 ?_; simp only [pu]; refine wu 8 ?_; simp only [pu]; refine wu 9 ?_; simp only [pu]; refine wu 10 ?_; simp only [pu]; refine wu 11 ?_; simp only [pu]; refine wu 12 ?_; simp only [pu]; refine wu 13 ?_; simp only [pu]; refine wu 14 ?_; simp only [pu]; refine wu 15 ?_; simp only [pu]; refine wu 16 ?_; simp only [pu]; refine wu 17 ?_; simp only [pu]; refine wu 18 ?_; simp only [pu]; refine wt 19 (.bool true) ?_; simp only [pu]; refine aK ?_; clear hHeld; simp only [List.getElem_toArray, List.getElem_cons_succ, List.getElem_cons_zero, pu]; exact HK.out true
 | true =>
   by_cases h0 : i = 0
   · subst h0; simp only [Nat.zero_mul, Nat.add_zero] at y2c; refine aj (z := 1000) (S := fun w' : World => w'.cell? ⟨b, off + 2, none⟩ = some (.int .i64 y2)) (by kernel_rfl) y2c (fun hHeld => ?_); refine wt 0 (.bool true) ?_; simp only [pu]; refine wt 1 (.bool false) ?_; simp only [pu]; refine wt 2 (.bool false) ?_; simp only [pu]; refine wt 3 (.int .i64 (0 : Nat)) ?_; simp only [pu]; refine wt 4 (.bool false) ?_; simp only [pu]; refine wt 5 (.bool false) ?_; simp only [pu]; refine wu 6 ?_; simp only [pu]; refine wu 7 ?_; simp only [pu]; refine wu 8 ?_; simp only [pu]; refine wu 9 ?_; simp only [pu]; refine wu 10 ?_; simp only [pu]; refine wu 11 ?_; simp only [pu]; refine wu 12 ?_; simp only [pu]; refine wu 13 ?_; simp only [pu]; refine wu 14 ?_; simp only [pu]; refine wu 15 ?_; simp only [pu]; refine wu 16 ?_; simp only [pu]; refine wu 17 ?_; simp only [pu]; refine wt 18 (.bool false) ?_; simp only [pu]; refine wt 19 (.bool false) ?_; simp only [pu]; refine aK ?_; clear hHeld; simp only [List.getElem_toArray, List.getElem_cons_succ, List.getElem_cons_zero, pu]; exact HK.out false
   · have x2c := hl.cell (i - 1) (by omega) 2 (by omega); generalize hx : (ts ++ [e]).getD (i - 1) default = x at x2c; obtain ⟨x0, x1, x2, x3, x4⟩ := x; simp only [ay.enc] at x2c; have hi3 : ((i : Int) - 1).toNat = i - 1 := by omega
     have hi4 : (0 : Int) < (i : Int) := by omega
     have hi5 : (1 : Int) ≤ (i : Int) := by omega
     have hi6 : (i : Int) - 1 < (ts.length : Int) + 1 := by omega
     have hi7 : 0 < i := by omega
     have hi8 : IntKind.i64.wrap ((i : Int) - 1) = (i : Int) - 1 := ic _ (by omega) (by omega); clear hx h0; refine aj (z := 1000) (S := fun w' : World => w'.cell? ⟨b, off + (i - 1) * 5 + 2, none⟩ = some (.int .i64 x2) ∧ w'.cell? ⟨b, off + i * 5 + 2, none⟩ = some (.int .i64 y2)) (by kernel_rfl) ⟨x2c, y2c⟩ (fun hHeld => ?_); refine wt 0 (.bool true) ?_; simp only [pu]; refine wt 1 (.bool false) ?_; simp only [pu]; refine wt 2 (.bool false) ?_; simp only [pu]; refine wt 3 (.int .i64 i) ?_; simp only [pu]; refine wt 4 (.bool true) ?_; simp only [pu]; refine wt 5 (.bool true) ?_; simp only [pu]; refine wt 6 (.slice (some ⟨b, off, none⟩) (ts.length + 1) c) ?_; simp only [pu]; refine wt 7 (.int .i64 i) ?_; simp only [pu]; refine wt 8 (.int .i64 ((i : Int) - 1)) ?_; simp only [pu]; refine wt 9 (.pointer (some ⟨b, off + (i - 1) * 5, none⟩)) ?_; simp only [pu]; refine wt 10 (.pointer (some ⟨b, off + (i - 1) * 5 + 2, none⟩)) ?_; simp only [pu]; refine wt 11 (.int .i64 x2) ?_; simp only [pu]; refine wt 12 (.slice (some ⟨b, off, none⟩) (ts.length + 1) c) ?_; simp only [pu]; refine wt 13 (.int .i64 i) ?_; simp only [pu]; refine wt 14 (.pointer (some ⟨b, off + i * 5, none⟩)) ?_; simp only [pu]; refine wt 15 (.pointer (some ⟨b, off + i * 5 + 2, none⟩)) ?_; simp only [pu]; refine wt 16 (.int .i64 y2) ?_; simp only [pu]; refine wt 17 (.bool (x2 == y2)) ?_; simp only [pu]; refine wt 18 (.bool (x2 == y2)) ?_; simp only [pu]; refine wt 19 (.bool (x2 == y2)) ?_; simp only [pu]; refine aK ?_; clear hHeld; simp only [List.getElem_toArray, List.getElem_cons_succ, List.getElem_cons_zero, pu]; exact HK.out _
set_option maxRecDepth 100000 in
theorem ue {C : Code} (hC : cU 16 (Tryz.f14.body.getD .skip) = some C) (K : Act → World → Prop) (R : List PanicEntry → List Deferred → World → Prop) (Q : Exit → Act → World → Prop) {s1 s2 s3 s4 s5 s6 s7 s10 s11 s13 s14 s15 s16 s17 s18 s19 s20 s21 s22 s23 s24 s25 s26 s27 s28 s29 s30 s31 s32 s33 s34 s35 s36 s37 s38 s39 s40 s41 s42 s43 s44 s45 s46 s47 s48 s49 s50 s51 s52 s53 s54 s55 s56 s57 s58 s59 s60 s61 s62 s63 s64 s65 s66 s67 s68 s69 s70 s71 s72 s73 s74 s75 s76 s77 s78 s79 s80 s81 s82 s83 s84 s85 s86 s87 s88 s89 s90 s91 s92 s93 s94 s95 s96 s97 s98 s99 s100 s101 s102 s103 s104 s105 s106 s107 s108 s109 s110 s111 s112 s113 s114 s115 s116 s117 s118 s119 s120 s121 s122 s123 s124 s125 s126 s127 s128 s129 s130 s131 s132 s133 s134 : Value} {Γ : Gh} (b off c : Nat) (ts : List ay) (e : ay) (w : World) (hl : Fe Γ w b off c ts e) (hn : ts.length ≤ 900000) (i k : Nat) (hi : i < ts.length)
 (hK : ∀ (r : Bool) {r71 r72 r73 r74 r75 r76 r77 r78 r79 r80 r81 r82 r83 r84 r85 : Value}, (r = true → k < ts.length) → K ⟨((.slice (some ⟨b, off, none⟩) (ts.length + 1) c) :: s1 :: s2 :: s3 :: s4 :: s5 :: s6 :: s7 :: (.int .i64 ts.length) :: (.int .i64 i) :: s10 :: s11 :: (.int .i64 k) :: s13 :: s14 :: s15 :: s16 :: s17 :: s18 :: s19 :: s20 :: s21 :: s22 :: s23 :: s24 :: s25 :: s26 :: s27 :: s28 :: s29 :: s30 :: s31 :: s32 :: s33 :: s34 :: s35 :: s36 :: s37 :: s38 :: s39 :: s40 :: s41 :: s42 :: s43 :: s44 :: s45 :: s46 :: s47 :: s48 :: s49 :: s50 :: s51 :: s52 :: s53 :: s54 :: s55 :: s56 :: s57 :: s58 :: s59 :: s60 :: s61 :: s62 :: s63 :: s64 :: s65 :: s66 :: s67 :: s68 :: s69 :: s70 :: r71 :: r72 :: r73 :: r74 :: r75 :: r76 :: r77 :: r78 :: r79 :: r80 :: r81 :: r82 :: r83 :: r84 :: r85 :: (.bool r) :: s87 :: s88 :: s89 :: s90 :: s91 :: s92 :: s93 :: s94 :: s95 :: s96 :: s97 :: s98 :: s99 :: s100 :: s101 :: s102 :: s103 :: s104 :: s105 :: s106 :: s107 :: s108 :: s109 :: s110 :: s111 :: s112 :: s113 :: s114 :: s115 :: s116 :: s117 :: s118 :: s119 :: s120 :: s121 :: s122 :: s123 :: s124 :: s125 :: s126 :: s127 :: s128 :: s129 :: s130 :: s131 :: s132 :: s133 :: s134 :: []).toArray, []⟩ w.drew) :
 Code.wp Tryz.prog C (Exit.then K (Qp R Q)) ⟨((.slice (some ⟨b, off, none⟩) (ts.length + 1) c) :: s1 :: s2 :: s3 :: s4 :: s5 :: s6 :: s7 :: (.int .i64 ts.length) :: (.int .i64 i) :: s10 :: s11 :: (.int .i64 k) :: s13 :: s14 :: s15 :: s16 :: s17 :: s18 :: s19 :: s20 :: s21 :: s22 :: s23 :: s24 :: s25 :: s26 :: s27 :: s28 :: s29 :: s30 :: s31 :: s32 :: s33 :: s34 :: s35 :: s36 :: s37 :: s38 :: s39 :: s40 :: s41 :: s42 :: s43 :: s44 :: s45 :: s46 :: s47 :: s48 :: s49 :: s50 :: s51 :: s52 :: s53 :: s54 :: s55 :: s56 :: s57 :: s58 :: s59 :: s60 :: s61 :: s62 :: s63 :: s64 :: s65 :: s66 :: s67 :: s68 :: s69 :: s70 :: s71 :: s72 :: s73 :: s74 :: s75 :: s76 :: s77 :: s78 :: s79 :: s80 :: s81 :: s82 :: s83 :: s84 :: s85 :: s86 :: s87 :: s88 :: s89 :: s90 :: s91 :: s92 :: s93 :: s94 :: s95 :: s96 :: s97 :: s98 :: s99 :: s100 :: s101 :: s102 :: s103 :: s104 :: s105 :: s106 :: s107 :: s108 :: s109 :: s110 :: s111 :: s112 :: s113 :: s114 :: s115 :: s116 :: s117 :: s118 :: s119 :: s120 :: s121 :: s122 :: s123 :: s124 :: s125 :: s126 :: s127 :: s128 :: s129 :: s130 :: s131 :: s132 :: s133 :: s134 :: []).toArray, []⟩ w := by
 obtain rfl := Option.some.inj (hC.symm.trans (rfl : cU 16 (Tryz.f14.body.getD .skip) = some _)); clear hC; have HK := qd hK; have y2c := hl.cell i (by omega) 2 (by omega); generalize hy : (ts ++ [e]).getD i default = y at y2c; obtain ⟨y0, y1, y2, y3, y4⟩ := y; simp only [ay.enc] at y2c; have hi2 : (i : Int) < (ts.length : Int) + 1 := by omega
 clear hK hy
 by_cases hk : k < ts.length
 · have x2c := hl.cell k (by omega) 2 (by omega); generalize hx : (ts ++ [e]).getD k default = x at x2c; obtain ⟨x0, x1, x2, x3, x4⟩ := x; simp only [ay.enc] at x2c; have hk1 : (k : Int) < (ts.length : Int) := by omega
   have hk2 : (k : Int) < (ts.length : Int) + 1 := by omega
   clear hx; refine aj (z := 1000) (S := fun w' : World => w'.cell? ⟨b, off + k * 5 + 2, none⟩ = some (.int .i64 x2) ∧ w'.cell? ⟨b, off + i * 5 + 2, none⟩ = some (.int .i64 y2)) (by kernel_rfl) ⟨x2c, y2c⟩ (fun hHeld => ?_); refine wt 0 (.int .i64 k) ?_; simp only [pu]; refine wt 1 (.int .i64 ts.length) ?_; simp only [pu]; refine wt 2 (.bool true) ?_; simp only [pu]; refine wt 3 (.bool true) ?_; simp only [pu]; refine wt 4 (.slice (some ⟨b, off, none⟩) (ts.length + 1) c) ?_; simp only [pu]; refine wt 5 (.int .i64 k) ?_; simp only [pu]; refine wt 6 (.pointer (some ⟨b, off + k * 5, none⟩)) ?_; simp only [pu]; refine wt 7 (.pointer (some ⟨b, off + k * 5 + 2, none⟩)) ?_; simp only [pu]; refine wt 8 (.int .i64 x2) ?_; simp only [pu]; refine wt 9 (.slice (some ⟨b, off, none⟩) (ts.length + 1) c) ?_; simp only [pu]; refine wt 10 (.int .i64 i) ?_; simp only [pu]; refine wt 11 (.pointer (some ⟨b, off + i * 5, none⟩)) ?_; simp only [pu]; refine wt 12 (.pointer (some ⟨b, off + i * 5 + 2, none⟩)) ?_; simp only [pu]; refine wt 13 (.int .i64 y2) ?_; simp only [pu]; refine wt 14 (.bool (x2 == y2)) ?_; simp only [pu]; refine wt 15 (.bool (x2 == y2)) ?_; simp only [pu]; refine aK ?_; clear hHeld; simp only [List.getElem_toArray, List.getElem_cons_succ, List.getElem_cons_zero, pu]; exact HK.out _ (fun _ => hk)
 · have hk1 : ¬ ((k : Int) < (ts.length : Int)) := by omega
   have hk2 : decide ((k : Int) < (ts.length : Int)) = false := decide_eq_false hk1; refine aj (z := 1000) (S := fun w' : World => w'.cell? ⟨b, off + i * 5 + 2, none⟩ = some (.int .i64 y2)) (by kernel_rfl) y2c (fun hHeld => ?_); refine wt 0 (.int .i64 k) ?_; simp only [pu]; refine wt 1 (.int .i64 ts.length) ?_; simp only [pu]; refine wt 2 (.bool false) ?_; simp only [pu]; refine wt 3 (.bool false) ?_; simp only [pu]; refine wu 4 ?_; simp only [pu]; refine wu 5 ?_; simp only [pu]; refine wu 6 ?_; simp only [pu]; refine wu 7 ?_; simp only [pu]; refine wu 8 ?_; simp only [pu]; refine wu 9 ?_; simp only [pu]; refine wu 10 ?_; simp only [pu]; refine wu 11 ?_; simp only [pu]; refine wu 12 ?_; simp only [pu]; refine wu 13 ?_; simp only [pu]; refine wu 14 ?_; simp only [pu]; refine wt 15 (.bool false) ?_; simp only [pu]; refine aK ?_; clear hHeld; simp only [List.getElem_toArray, List.getElem_cons_succ, List.getElem_cons_zero, pu]; exact HK.out false (fun h => by cases h)
end Go.Proofs.YthkebhjaaikopaaGreatDoor
set_option linter.unusedSimpArgs false
set_option linter.unusedVariables false
namespace Go.Proofs.YthkebhjaaikopaaGreatDoor
open Go.ChangeShapes Go.WideShapes Go.ChangeAt Go.RowKit Go.Deep Go.Joins Go.Instr
set_option maxRecDepth 100000 in
theorem ud {C : Code} (hC : cU 21 (Tryz.f14.body.getD .skip) = some C) (K : Act → World → Prop) (R : List PanicEntry → List Deferred → World → Prop) (Q : Exit → Act → World → Prop) {s1 s2 s3 s4 s5 s7 s8 s10 s11 s13 s14 s15 s16 s17 s18 s19 s20 s21 s22 s23 s24 s25 s26 s27 s28 s29 s30 s31 s32 s33 s34 s35 s36 s37 s38 s39 s40 s41 s42 s43 s44 s45 s46 s47 s48 s49 s50 s51 s52 s53 s54 s55 s56 s57 s58 s59 s60 s61 s62 s63 s64 s65 s66 s67 s68 s69 s70 s71 s72 s73 s74 s75 s76 s77 s78 s79 s80 s81 s82 s83 s84 s85 s86 s87 s88 s89 s90 s91 s92 s93 s94 s95 s96 s97 s98 s99 s100 s101 s102 s103 s104 s105 s106 s107 s108 s109 s110 s111 s112 s113 s114 s115 s116 s117 s118 s119 s120 s121 s122 s123 s124 s125 s126 s127 s128 s129 s130 s131 s132 s133 s134 : Value} {Γ : Gh} (b off c : Nat) (ts : List ay) (e : ay) (w : World) (hl : Fe Γ w b off c ts e) (hn : ts.length ≤ 900000) (wb i k : Nat) (hI : In Γ w wb) (hi : i < ts.length) (hk1 : i + 1 ≤ k) (hk2 : k ≤ ts.length)
 (hK : ∀ (Γ' : Gh) (w' : World) {r97 r98 r99 r100 r101 r102 r103 r104 r105 r106 r107 r108 : Value}, In Γ' w' wb → ai Γ w Γ' w' → K ⟨((.slice (some ⟨b, off, none⟩) (ts.length + 1) c) :: s1 :: s2 :: s3 :: s4 :: s5 :: (.pointer (some ⟨wb, 0, none⟩)) :: s7 :: s8 :: (.int .i64 i) :: s10 :: s11 :: (.int .i64 k) :: s13 :: s14 :: s15 :: s16 :: s17 :: s18 :: s19 :: s20 :: s21 :: s22 :: s23 :: s24 :: s25 :: s26 :: s27 :: s28 :: s29 :: s30 :: s31 :: s32 :: s33 :: s34 :: s35 :: s36 :: s37 :: s38 :: s39 :: s40 :: s41 :: s42 :: s43 :: s44 :: s45 :: s46 :: s47 :: s48 :: s49 :: s50 :: s51 :: s52 :: s53 :: s54 :: s55 :: s56 :: s57 :: s58 :: s59 :: s60 :: s61 :: s62 :: s63 :: s64 :: s65 :: s66 :: s67 :: s68 :: s69 :: s70 :: s71 :: s72 :: s73 :: s74 :: s75 :: s76 :: s77 :: s78 :: s79 :: s80 :: s81 :: s82 :: s83 :: s84 :: s85 :: s86 :: s87 :: s88 :: s89 :: s90 :: s91 :: s92 :: s93 :: s94 :: s95 :: s96 :: r97 :: r98 :: r99 :: r100 :: r101 :: r102 :: r103 :: r104 :: r105 :: r106 :: r107 :: r108 :: s109 :: s110 :: s111 :: s112 :: s113 :: s114 :: s115 :: s116 :: s117 :: s118 :: s119 :: s120 :: s121 :: s122 :: s123 :: s124 :: s125 :: s126 :: s127 :: s128 :: s129 :: s130 :: s131 :: s132 :: s133 :: s134 :: []).toArray, []⟩ w') :
 Code.wp Tryz.prog C (Exit.then K (Qp R Q)) ⟨((.slice (some ⟨b, off, none⟩) (ts.length + 1) c) :: s1 :: s2 :: s3 :: s4 :: s5 :: (.pointer (some ⟨wb, 0, none⟩)) :: s7 :: s8 :: (.int .i64 i) :: s10 :: s11 :: (.int .i64 k) :: s13 :: s14 :: s15 :: s16 :: s17 :: s18 :: s19 :: s20 :: s21 :: s22 :: s23 :: s24 :: s25 :: s26 :: s27 :: s28 :: s29 :: s30 :: s31 :: s32 :: s33 :: s34 :: s35 :: s36 :: s37 :: s38 :: s39 :: s40 :: s41 :: s42 :: s43 :: s44 :: s45 :: s46 :: s47 :: s48 :: s49 :: s50 :: s51 :: s52 :: s53 :: s54 :: s55 :: s56 :: s57 :: s58 :: s59 :: s60 :: s61 :: s62 :: s63 :: s64 :: s65 :: s66 :: s67 :: s68 :: s69 :: s70 :: s71 :: s72 :: s73 :: s74 :: s75 :: s76 :: s77 :: s78 :: s79 :: s80 :: s81 :: s82 :: s83 :: s84 :: s85 :: s86 :: s87 :: s88 :: s89 :: s90 :: s91 :: s92 :: s93 :: s94 :: s95 :: s96 :: s97 :: s98 :: s99 :: s100 :: s101 :: s102 :: s103 :: s104 :: s105 :: s106 :: s107 :: s108 :: s109 :: s110 :: s111 :: s112 :: s113 :: s114 :: s115 :: s116 :: s117 :: s118 :: s119 :: s120 :: s121 :: s122 :: s123 :: s124 :: s125 :: s126 :: s127 :: s128 :: s129 :: s130 :: s131 :: s132 :: s133 :: s134 :: []).toArray, []⟩ w := by
 obtain rfl := Option.some.inj (hC.symm.trans (rfl : cU 21 (Tryz.f14.body.getD .skip) = some _)); clear hC; have HK := qd hK; have y1c := hl.cell i (by omega) 1 (by omega); have hok := hl.ok i hi; rw [← dE (e := e) hi] at hok; have hcap := hl.cap; have hmax := hl.max; generalize hy : (ts ++ [e]).getD i default = y at y1c hok; obtain ⟨y0, y1, y2, y3, y4⟩ := y; simp only [ay.enc] at y1c; have HOK := qd hok; have HY := qd hy; have HL := qd hl; have HI := qd hI; have hi2 : (i : Int) < (ts.length : Int) + 1 := by omega
 have hi3 : (i : Int) + 1 ≤ (k : Int) := by omega
 have hi4 : (k : Int) ≤ (c : Int) := by omega
 have hi5 : ¬ (c = i + 1) := by omega
 have hi6 : ((i : Int) + 1).toNat = i + 1 := by omega
 have hi7 : ((k : Int) - ((i : Int) + 1)).toNat = k - (i + 1) := by omega
 have hi8 : IntKind.i64.wrap ((i : Int) + 1) = (i : Int) + 1 := ic _ (by omega) (by omega); have hi9 : (0 : Int) ≤ (i : Int) + 1 := by omega
 have hi10 : ¬ (c - (i + 1) = 0) := by omega
 clear hK hy hok hl hI; refine aj (z := 1000) (S := fun w' : World => w'.cell? ⟨b, off + i * 5 + 1, none⟩ = some (.int .i64 y1)) (by kernel_rfl) y1c (fun hHeld => ?_); refine wt 0 (.pointer (some ⟨wb, 0, none⟩)) ?_; simp only [pu]; refine wt 1 (.slice (some ⟨b, off, none⟩) (ts.length + 1) c) ?_; simp only [pu]; refine wt 2 (.int .i64 i) ?_; simp only [pu]; refine wt 3 (.int .i64 ((i : Int) + 1)) ?_; simp only [pu]; refine wt 4 (.int .i64 k) ?_; simp only [pu]; refine wt 5 (.slice (some ⟨b, off + (i + 1) * 5, none⟩) (k - (i + 1)) (c - (i + 1))) ?_; simp only [pu]; refine wt 6 (.slice (some ⟨b, off, none⟩) (ts.length + 1) c) ?_; simp only [pu]; refine wt 7 (.int .i64 i) ?_; simp only [pu]; refine wt 8 (.pointer (some ⟨b, off + i * 5, none⟩)) ?_; simp only [pu]; refine wt 9 (.pointer (some ⟨b, off + i * 5 + 1, none⟩)) ?_; simp only [pu]; refine wt 10 (.int .i64 y1) ?_; simp only [pu]; refine dI (i := 11) (by kernel_rfl) (by kernel_rfl) rfl (fun K1 hK1 => ?_); rw [if_pos (by kernel_rfl)]; go_simp; have HC := jp (some ⟨b, off + (i + 1) * 5, none⟩) (c - (i + 1)) ((ts.drop (i + 1)).take (k - (i + 1))) y1 w.drew HI.out.drew ((HL.out.turn (ai.of_below br.drew)).sub hk1 hk2) (by simp; omega) HOK.out.2.2.1; have hlen : ((ts.drop (i + 1)).take (k - (i + 1))).length = k - (i + 1) := by simp; omega
 rw [hlen] at HC; refine HC.mono ?_; rintro r w4 ⟨Γ4, rfl, h1, h2⟩; have HT4 : Hid (ai Γ w Γ4 w4) := (ai.of_below br.drew).trans h2; have HI4 := qd h1; have y1d := (HL.out.turn HT4.out).cell i (by omega) 1 (by omega); rw [HY.out] at y1d; simp only [ay.enc] at y1d; refine hK1.out _ _ y1d (fun hHeld => ?_); clear hK1 K1 h1 h2 HC
 try simp only [pu]
 refine aK ?_; exact HK.out Γ4 w4 HI4.out HT4.out
end Go.Proofs.YthkebhjaaikopaaGreatDoor
set_option linter.unusedSimpArgs false
set_option linter.unusedVariables false
namespace Go.Proofs.YthkebhjaaikopaaGreatDoor
open Go.ChangeShapes Go.WideShapes Go.ChangeAt Go.RowKit Go.Deep Go.Joins Go.Instr
def G0 : Gh := fun _ => none
theorem jQ (w : World) : aD G0 w := fun k r m c h => by cases h
theorem Fe.tokAt {Γ : Gh} {w : World} {b off c : Nat} {ts : List ay} {e : ay} (h : Fe Γ w b off c ts e) {i : Nat} (hi : i ≤ ts.length) : ∃ t : ay, (ts ++ [e]).getD i default = t ∧ w.cell? ⟨b, off + i * 5, none⟩ = some (.int .i64 t.kind) ∧ w.cell? ⟨b, off + i * 5 + 1, none⟩ = some (.int .i64 t.at1) ∧ w.cell? ⟨b, off + i * 5 + 2, none⟩ = some (.int .i64 t.line) ∧ w.cell? ⟨b, off + i * 5 + 3, none⟩ = some (.string t.text) ∧ w.cell? ⟨b, off + i * 5 + 4, none⟩ = some (.int .i64 t.n) :=
 ⟨_, rfl, h.cell i (by omega) 0 (by omega), h.cell i (by omega) 1 (by omega), h.cell i (by omega) 2 (by omega), h.cell i (by omega) 3 (by omega), h.cell i (by omega) 4 (by omega)⟩
theorem Fe.sl {Γ : Gh} {w : World} {b off c : Nat} {ts : List ay} {e : ay} (h : Fe Γ w b off c ts e) : Sl w 5 ay.enc (.slice (some ⟨b, off, none⟩) (ts.length + 1) c) (ts ++ [e]) :=
 ⟨some ⟨b, off, none⟩, c, by simp, by have := h.cap; simpa using this, h.max, fun _ => ⟨b, off, rfl, h.lt, fun i hi j hj => h.cell i (by simpa using hi) j hj⟩⟩
theorem Fe.of_sl {w : World} {v : Value} {ts : List ay} {e : ay} (h : Sl w 5 ay.enc v (ts ++ [e])) (ho : ∀ i, i < ts.length → dt (ts.getD i default)) (ha : dC e.at1) : ∃ b off c, v = .slice (some ⟨b, off, none⟩) (ts.length + 1) c ∧ Fe G0 w b off c ts e := by
 obtain ⟨a, c, h1, h2, h3, h4⟩ := h; obtain ⟨b, off, rfl, hb, hc⟩ := h4 (by simp); exact ⟨b, off, c, by simpa using h1, by simpa using h2, h3, hb, rfl, fun i hi j hj => hc i (by simpa using hi) j hj, ho, ha⟩
def j5 (w : World) (e : ay) (r : Ending) (w' : World) : Prop := ∃ v er a, r = .returned (.tuple #[v, .int .i64 er, .int .i64 a]) ∧ Below w.heap.size w w' ∧ (er = 0 → ∃ (b off c : Nat) (l : List ay), v = .slice (some ⟨b, off, none⟩) (l.length + 1) c ∧ Fe G0 w' b off c l e ∧ l.length ≤ 8192)
theorem eH {Γ : Gh} {w w1 w' : World} {e : ay} {r : Ending} (ht : ai G0 w Γ w1) (ha : dC e.at1) (h : rz Γ w1 e r w') : j5 w e r w' := by
 obtain ⟨v, er, a, h1, h2, h3⟩ := h; have ho := ht.outs.trans h2 fun x hx => ht.new x hx
 refine ⟨v, er, a, h1, ho.below (Nat.le_refl _) (fun k hk => absurd rfl hk), fun h0 => ?_⟩; obtain ⟨l, h4, _, h5, h6⟩ := h3 h0; obtain ⟨b, off, c, h7, h8⟩ := Fe.of_sl h4 h6 ha; exact ⟨b, off, c, l, h7, h8, h5⟩
set_option maxRecDepth 100000 in
theorem ny (b off c : Nat) (ts : List ay) (e : ay) (w : World) (hl : Fe G0 w b off c ts e) (hn : ts.length ≤ 900000) :
 Calls Tryz.prog 14 #[.slice (some ⟨b, off, none⟩) (ts.length + 1) c] w (j5 w e) := by
 have HL := qd hl; have hcap := hl.cap; obtain ⟨PP, hPP⟩ : ∃ PP, PP = j5 w e := ⟨_, rfl⟩; rw [← hPP]; have HPP := qd hPP; have HEA := qd hl.ea; clear hl hPP; go_enter Tryz.func14, Tryz.ntmps14; go_wp2_with fail; refine (iz _ (ts ++ [e]) w HL.out.sl).mono ?_; rintro r w1 ⟨⟨b1, rfl⟩, h1⟩; have HB1 := qd h1; clear h1; cases b1 with
 | false =>
   go_wp2_with fail; rw [HPP.out]; exact ⟨_, 16, 0, rfl, HB1.out, fun h => by cases h⟩
 | true =>
   go_upto_region 5 with fail
   generalize hW2 : World.alloc w1 _ = w2; obtain ⟨Γ1, HI2, HT2⟩ : ∃ Γ1, Hid (In Γ1 w2 w1.heap.size) ∧ Hid (ai G0 w Γ1 w2) := by
    obtain ⟨g1, g2, g3⟩ := (jQ w1).new (r := .work) (f := fun j => (#[Value.bool false, .slice none 0 0, .slice none 0 0, .int .i64 0, .slice none 0 0, .int .i64 0, .int .i64 0] : Array Value).getD j undef) ⟨false, 0, 0, 0, rfl, ⟨0, Rw.nil _ _, by omega⟩, ⟨0, Rw.nil _ _, by omega⟩, rfl, by decide, ⟨0, Rw.nil _ _, by omega⟩, rfl, by decide, rfl, by decide⟩ (cs := #[.bool false, .slice none 0 0, .slice none 0 0, .int .i64 0, .slice none 0 0, .int .i64 0, .int .i64 0]) rfl (fun j hj => by
     match j, hj with
     | 0, _ => rfl
     | 1, _ => rfl
     | 2, _ => rfl
     | 3, _ => rfl
     | 4, _ => rfl
     | 5, _ => rfl
     | 6, _ => rfl
     | q + 7, hj => exact absurd hj (by simp [Rl.sz]))
    exact ⟨_, ⟨by rw [← hW2]; exact g1, Gh.set_same _ _ _⟩, by rw [← hW2]; exact (ai.of_below HB1.out).trans g2⟩
   clear hW2; generalize w1.heap.size = wb at HI2 ⊢; go_wp2_with fail
   go_loopw [7, 9] (fun o i wr => ∃ (Γr : Gh) (k on : Nat) (oa : Option Addr) (oc : Nat), i = .int .i64 k ∧ k ≤ ts.length ∧ o = .slice oa on oc ∧ on ≤ k ∧ Hid (Rw Γr .tok (.slice oa on oc) on) ∧ Hid (In Γr wr wb) ∧ Hid (ai G0 w Γr wr)) (fun _ i _ => ts.length + 1 - (intOf i).toNat)
   case atStart => exact ⟨Γ1, 0, 0, none, 0, rfl, by omega, rfl, by omega, Rw.nil _ _, HI2, HT2⟩
   case round =>
    obtain ⟨Γr, k, on, oa, oc, rfl, hk, rfl, hon, hR, hI, hT⟩ := hrel; obtain ⟨inl, ma, mn, mc, ca, cn, cc, u, oa2, on2, oc2, er, at1, hf⟩ := hI.out.fields; have c5 := hf.c5; have hwb := hI.out.lt; clear hf; have HEr : Hid (Fe Γr wr b off c ts e) := HL.out.turn hT.out
    by_cases hkn : k < ts.length ∧ er = 0
    · obtain ⟨hk1, rfl⟩ := hkn; obtain ⟨t, het, d0, d1, d2, d3, d4⟩ := HEr.out.tokAt (i := k) (by omega); obtain ⟨t0, t1, t2, t3, t4⟩ := t; simp only at d0 d1 d2 d3 d4; have HTK : Hid (dt ⟨t0, t1, t2, t3, t4⟩) := by
       have := HEr.out.ok k hk1; rw [← dE (e := e) hk1, het] at this; exact this
      clear het; have hk2 : (k : Int) < (ts.length : Int) := by omega
      have hk3 : (k : Int) < (ts.length : Int) + 1 := by omega
      go_wp2_with fail; refine (bI ⟨t0, t1, t2, t3, t4⟩ _ wr).mono ?_; rintro r w3 ⟨⟨b3, rfl⟩, h3⟩; have HI3 : Hid (In Γr w3 wb) := hI.out.below h3; have HT3 : Hid (ai G0 w Γr w3) := hT.out.trans (ai.of_below h3); have HE3 := qd (HL.out.turn HT3.out); clear h3 d0 d1 d2 d3 d4 c5 hwb
      go_upto_region 10 with fail
      refine jt (fun _ _ _ _ _ h => h) ?_; refine uf rfl _ _ _ b off c ts e w3 HE3.out hn k hk1 b3 ?_; intro r r37 r38 r39 r40 r41 r42 r43 r44 r45 r46 r47 r48 r49 r50 r51 r52 r53 r54 r55; have HI4 : Hid (In Γr w3.drew wb) := HI3.out.drew; have HT4 : Hid (ai G0 w Γr w3.drew) := HT3.out.trans (ai.of_below br.drew); cases r with
      | true =>
        go_wp2_with fail; refine (cm w3.drew HI4.out).mono ?_; rintro r w5 ⟨⟨kp, rfl⟩, h5⟩; have HI5 : Hid (In Γr w5 wb) := HI4.out.below h5; have HT5 : Hid (ai G0 w Γr w5) := HT4.out.trans (ai.of_below h5); clear h5; cases kp with
        | true =>
          obtain ⟨t, het, d0, d1, d2, d3, d4⟩ := (HL.out.turn HT5.out).tokAt (i := k) (by omega); have HTK5 : Hid (dt t) := by
           have := (HL.out.turn HT5.out).ok k hk1; rw [← dE (e := e) hk1, het] at this; exact this
          obtain ⟨y0, y1, y2, y3, y4⟩ := t; simp only at d0 d1 d2 d3 d4; clear het; have hb5 := (HL.out.turn HT5.out).lt; go_wp2_with (at_builtin; go_must (refine aA (HI5.out.good.below (br.alloc (Nat.le_refl _) _)) aX rfl _ _ rfl (.slice oa on oc) on rfl hR.out ⟨w5.heap.size, 0, none⟩ 1 1 rfl (aC (f := ay.enc ⟨y0, y1, y2, y3, y4⟩) (al _ _) ⟨_, fun _ _ => rfl, HTK5.out⟩ (dx ⟨y0, y1, y2, y3, y4⟩)) (by omega) (by omega) ?_)); intro g6 c6 w6 Γ6 q1 q2 q3 _ _ _; have hq := (ai.of_below (Γ := Γr) ((Below.refl w5.heap.size w5).alloc (Nat.le_refl _) (.cells #[.int .i64 y0, .int .i64 y1, .int .i64 y2, .string y3, .int .i64 y4] 31))).trans q2; have HI6 : Hid (In Γ6 w6 wb) := HI5.out.turn q1 hq; have HT6 : Hid (ai G0 w Γ6 w6) := HT5.out.trans hq; have HR6 := qd q3; clear q1 q2 q3 hq d0 d1 d2 d3 d4; go_wp2_with fail; go_roundw
          case rel => exact ⟨Γ6, k + 1, on + 1, _, c6, by go_num, by omega, rfl, by omega, HR6, HI6, HT6⟩
          case measure => simp [intOf]; omega
        | false =>
          go_wp2_with fail; go_roundw
          case rel => exact ⟨Γr, k + 1, on, oa, oc, by go_num, by omega, rfl, by omega, hR, HI5, HT5⟩
          case measure => simp [intOf]; omega
      | false =>
        go_wp2_with fail
        go_loopw [12] (fun kk ws => ∃ q : Nat, kk = .int .i64 q ∧ k + 1 ≤ q ∧ q ≤ ts.length ∧ Hid (Below w3.heap.size w3 ws)) (fun kk _ => ts.length + 1 - (intOf kk).toNat)
        case atStart => exact ⟨k + 1, by go_num, by omega, by omega, br.drew⟩
        case round =>
         obtain ⟨q, rfl, hq1, hq2, hBs⟩ := hrel; have HEs : Hid (Fe Γr wr b off c ts e) := HE3.out.turn (ai.of_below hBs.out)
         go_upto_region 16 with fail
         refine jt (fun _ _ _ _ _ h => h) ?_; refine ue rfl _ _ _ b off c ts e wr HEs.out hn k q hk1 ?_; intro r r71 r72 r73 r74 r75 r76 r77 r78 r79 r80 r81 r82 r83 r84 r85 hr; have HBd : Hid (Below w3.heap.size w3 wr.drew) := hBs.out.trans (br.drew.mono hBs.out.size); cases r with
         | true =>
           have hq3 := hr rfl; clear hr; go_wp2_with fail; go_roundw
           case rel => exact ⟨q + 1, by go_num, by omega, by omega, HBd⟩
           case measure => simp [intOf]; omega
         | false =>
           clear hr; have HIs : Hid (In Γr wr.drew wb) := HI3.out.below HBd.out; have HTs : Hid (ai G0 w Γr wr.drew) := HT3.out.trans (ai.of_below HBd.out); go_wp2_with fail; refine (fh oa on oc wr.drew HIs.out (hR.out.view) (by omega)).mono ?_; rintro r w6 ⟨Γ6, rfl, h1, h2⟩; have HI6 := qd h1; have HT6 : Hid (ai G0 w Γ6 w6) := HTs.out.trans h2; have HE6 := qd (HL.out.turn HT6.out); clear h1 h2; obtain ⟨inl6, ma6, mn6, mc6, ca6, cn6, cc6, u6, oa6, on6, oc6, er6, at6, hf6⟩ := HI6.out.fields; have c56 := hf6.c5; have c26 := hf6.c2; have hwb6 := HI6.out.lt; clear hf6
           by_cases he6 : er6 = 0
           · subst he6
             go_upto_region 21 with fail
             refine jt (fun _ _ _ _ _ h => h) ?_; refine ud rfl _ _ _ b off c ts e w6 HE6.out hn wb k q HI6.out hk1 hq1 hq2 ?_; intro Γ7 w7 r97 r98 r99 r100 r101 r102 r103 r104 r105 r106 r107 r108 h1 h2; have HI7 := qd h1; have HT7 : Hid (ai G0 w Γ7 w7) := HT6.out.trans h2; clear h1 h2 c56 c26; go_wp2_with fail; go_roundw
             case rel => exact ⟨Γ7, q, 0, none, 0, rfl, hq2, rfl, by omega, Rw.nil _ _, HI7, HT7⟩
             case measure => simp [intOf]; omega
           · have he6' : (er6 == 0) = false := by rw [beq_eq_false_iff_ne]; exact he6
             go_wp2_with fail; go_roundw
             case rel => exact ⟨Γ6, q, 0, none, 0, rfl, hq2, rfl, by omega, Rw.nil _ _, HI6, HT6⟩
             case measure => simp [intOf]; omega
    · have hex : (¬ ((k : Int) < (ts.length : Int)) ∧ decide ((k : Int) < (ts.length : Int)) = false) ∨ ((k : Int) < (ts.length : Int) ∧ (er == 0) = false) := by
       by_cases h : k < ts.length
       · exact .inr ⟨by omega, by rw [beq_eq_false_iff_ne]; exact fun he => hkn ⟨h, he⟩⟩
       · exact .inl ⟨by omega, decide_eq_false (by omega)⟩
      clear hkn; rcases hex with ⟨hx1, hx2⟩ | ⟨hx1, hx2⟩
      all_goals
       go_wp2_with fail; refine (fh oa on oc wr hI.out (hR.out.view) (by omega)).mono ?_; rintro r w6 ⟨Γ6, rfl, h1, h2⟩; have HI6 := qd h1; have HT6 : Hid (ai G0 w Γ6 w6) := hT.out.trans h2; have HE6 := qd (HL.out.turn HT6.out); clear h1 h2; obtain ⟨inl6, ma6, mn6, mc6, ca6, cn6, cc6, u6, oa6, on6, oc6, er6, at6, hf6⟩ := HI6.out.fields; have c56 := hf6.c5; have c26 := hf6.c2; have hwb6 := HI6.out.lt; clear hf6
       by_cases hcn : cn6 = 0
       · subst hcn; clear c5 hwb c56; obtain ⟨t, het, d0, d1, d2, d3, d4⟩ := HE6.out.tokAt (i := ts.length) (by omega); rw [ey] at het; subst het; have hnn : (ts.length : Int) < (ts.length : Int) + 1 := by omega
         have hbl := HE6.out.lt; go_wp2_with fail; refine (ij e w6 HI6.out).mono ?_; rintro r w8 ⟨v8, er8, a8, rfl, ho, h8⟩; have HZ := qd (eH HT6.out HEA.out ⟨v8, er8, a8, rfl, ho, h8⟩); clear ho h8 d0 d1 d2 d3 d4; go_wp2_with fail; rw [HPP.out]; exact HZ.out
       · have hcn1 : (0 : Int) < (cn6 : Int) := by omega
         obtain ⟨t, het, d0, d1, d2, d3, d4⟩ := HE6.out.tokAt (i := ts.length) (by omega); rw [ey] at het; subst het; have hnn : (ts.length : Int) < (ts.length : Int) + 1 := by omega
         clear c5 hwb c56; go_wp2_with fail; refine (aB 6 e.at1 w6 HI6.out (by decide) HEA.out (by decide)).mono ?_; rintro r w7 ⟨rfl, h1, h2, _⟩; have HI7 := qd h1; have HT7 : Hid (ai G0 w Γ6 w7) := HT6.out.trans h2; have HE7 := qd (HL.out.turn HT7.out); clear h1 h2 d0 d1 d2 d3 d4 hnn; obtain ⟨t, het, d0, d1, d2, d3, d4⟩ := HE7.out.tokAt (i := ts.length) (by omega); rw [ey] at het; subst het; have hnn : (ts.length : Int) < (ts.length : Int) + 1 := by omega
         have hbl := HE7.out.lt; go_wp2_with fail; refine (ij e w7 HI7.out).mono ?_; rintro r w8 ⟨v8, er8, a8, rfl, ho, h8⟩; have HZ := qd (eH HT7.out HEA.out ⟨v8, er8, a8, rfl, ho, h8⟩); clear ho h8 d0 d1 d2 d3 d4; go_wp2_with fail; rw [HPP.out]; exact HZ.out
end Go.Proofs.YthkebhjaaikopaaGreatDoor
