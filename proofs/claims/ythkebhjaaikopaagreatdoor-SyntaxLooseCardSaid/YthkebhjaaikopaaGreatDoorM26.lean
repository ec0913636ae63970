/- Part of the proof of SyntaxLooseCardSaid (KN KO). -/
import Derived.Test.YthkebhjaaikopaaGreatDoorM25
set_option maxHeartbeats 8000000
set_option linter.unusedSimpArgs false
set_option linter.unusedVariables false
namespace Go.Proofs.YthkebhjaaikopaaGreatDoor
open Go.ChangeShapes Go.WideShapes Go.ChangeAt Go.RowKit Go.Deep Go.Joins Go.Instr
structure Sx (Γ : Gh) (w : World) (xb : Nat) (la : Option Addr) (ln lc at1 : Nat) (e : Int) (dp : Nat) : Prop where
 row : w.heap[xb]? = some (.cells #[.slice la ln lc, .int .i64 at1, .int .i64 e, .int .i64 dp] 159 (0, 0))
 good : aD Γ w
 no : Γ xb = none
 view : ci Γ .tok (.slice la ln lc) ln
 n : ln ≤ 1000000
 ple : at1 ≤ ln
 ok : dC e
section
variable {Γ : Gh} {w w' : World} {xb : Nat} {la : Option Addr} {ln lc at1 : Nat} {e : Int} {dp : Nat}
theorem Sx.c0 (h : Sx Γ w xb la ln lc at1 e dp) : w.cell? ⟨xb, 0, none⟩ = some (.slice la ln lc) := (cell_of_row w xb 0 _ _ _ h.row).trans rfl
theorem Sx.c1 (h : Sx Γ w xb la ln lc at1 e dp) : w.cell? ⟨xb, 1, none⟩ = some (.int .i64 at1) := (cell_of_row w xb 1 _ _ _ h.row).trans rfl
theorem Sx.c2 (h : Sx Γ w xb la ln lc at1 e dp) : w.cell? ⟨xb, 2, none⟩ = some (.int .i64 e) := (cell_of_row w xb 2 _ _ _ h.row).trans rfl
theorem Sx.c3 (h : Sx Γ w xb la ln lc at1 e dp) : w.cell? ⟨xb, 3, none⟩ = some (.int .i64 dp) := (cell_of_row w xb 3 _ _ _ h.row).trans rfl
theorem Sx.free (h : Sx Γ w xb la ln lc at1 e dp) (j : Nat) : w.frozen? ⟨xb, j, none⟩ = false := frozen_of_row w xb j _ _ h.row
theorem Sx.lt (h : Sx Γ w xb la ln lc at1 e dp) : xb < w.heap.size := af h.row
theorem Sx.below (h : Sx Γ w xb la ln lc at1 e dp) (hb : Below w.heap.size w w') : Sx Γ w' xb la ln lc at1 e dp := ⟨bZ hb h.row, h.good.below hb, h.no, h.view, h.n, h.ple, h.ok⟩
theorem Sx.set1 (h : Sx Γ w xb la ln lc at1 e dp) (k : Nat) (hk : k ≤ ln) : Sx Γ (w.setCell ⟨xb, 1, none⟩ (.int .i64 k)) xb la ln lc k e dp := ⟨heap_setCell_same w xb 1 _ _ _ h.row, h.good.box h.no 1 _, h.no, h.view, h.n, hk, h.ok⟩
theorem Sx.set2 (h : Sx Γ w xb la ln lc at1 e dp) (x : Int) (hx : dC x) : Sx Γ (w.setCell ⟨xb, 2, none⟩ (.int .i64 x)) xb la ln lc at1 x dp := ⟨heap_setCell_same w xb 2 _ _ _ h.row, h.good.box h.no 2 _, h.no, h.view, h.n, h.ple, hx⟩
theorem Sx.set3 (h : Sx Γ w xb la ln lc at1 e dp) (k : Nat) : Sx Γ (w.setCell ⟨xb, 3, none⟩ (.int .i64 k)) xb la ln lc at1 e k := ⟨heap_setCell_same w xb 3 _ _ _ h.row, h.good.box h.no 3 _, h.no, h.view, h.n, h.ple, h.ok⟩
theorem bz (w : World) (xb j : Nat) (u : Value) : am (fun k => k = xb) w (w.setCell ⟨xb, j, none⟩ u) := (am.refl (fun k => k = xb) w).setCell (p := ⟨xb, j, none⟩) (.inl rfl) u
end
theorem aw {xb : Nat} {a b c : World} (h : am (fun k => k = xb) a b) (k : am (fun k => k = xb) b c) : am (fun k => k = xb) a c := h.trans k fun x hx => .inl hx
def rA (Γ : Gh) (w : World) (xb : Nat) (la : Option Addr) (ln lc at1 : Nat) (e : Int) (dp : Nat) (r : Ending) (w' : World) : Prop := ∃ b at2, r = .returned (.bool b) ∧ Sx Γ w' xb la ln lc at2 e dp ∧ (b = true → at2 = at1 + 1) ∧ (b = false → at2 = at1) ∧ am (fun k => k = xb) w w'
theorem fv {Γ : Gh} {xb : Nat} {la : Option Addr} {ln lc at1 : Nat} {e : Int} {dp : Nat} (s : ByteArray) (w : World) (h : Sx Γ w xb la ln lc at1 e dp) :
 Calls Tryz.prog 166 #[.pointer (some ⟨xb, 0, none⟩), .string s] w (rA Γ w xb la ln lc at1 e dp) := by
 have H := qd h; have c0 := h.c0; have c1 := h.c1; have hn := h.n; have hle := h.ple; have hxl := h.lt; obtain ⟨PP, hPP⟩ : ∃ PP, PP = rA Γ w xb la ln lc at1 e dp := ⟨_, rfl⟩; rw [← hPP]; have HPP := qd hPP; clear h hPP
 by_cases hk : at1 < ln
 · obtain ⟨b, off, y, rfl, hb, hy, d0, d1, d2, d3, d4⟩ := H.out.view.tokAt H.out.good hk; obtain ⟨y0, y1, y2, y3, y4⟩ := y; simp only at d0 d1 d2 d3 d4; clear hy; have hk1 : (at1 : Int) < (ln : Int) := by omega
   go_enter Tryz.func166, Tryz.ntmps166; go_wp2_with fail; refine aj (z := 1000) (S := fun w' : World => w'.cell? ⟨xb, 0, none⟩ = some (.slice (some ⟨b, off, none⟩) ln lc) ∧ w'.cell? ⟨xb, 1, none⟩ = some (.int .i64 at1) ∧ w'.cell? ⟨b, off + at1 * 5, none⟩ = some (.int .i64 y0) ∧ w'.cell? ⟨b, off + at1 * 5 + 1, none⟩ = some (.int .i64 y1) ∧ w'.cell? ⟨b, off + at1 * 5 + 2, none⟩ = some (.int .i64 y2) ∧ w'.cell? ⟨b, off + at1 * 5 + 3, none⟩ = some (.string y3) ∧ w'.cell? ⟨b, off + at1 * 5 + 4, none⟩ = some (.int .i64 y4)) (by kernel_rfl) ⟨c0, c1, d0, d1, d2, d3, d4⟩ (fun hHeld => ?_); refine wt 0 (.pointer (some ⟨xb, 0, none⟩)) ?_; simp only [pu]; refine wt 1 (.pointer (some ⟨xb, 0, none⟩)) ?_; simp only [pu]; refine wt 2 (.pointer (some ⟨xb, 1, none⟩)) ?_; simp only [pu]; refine wt 3 (.int .i64 at1) ?_; simp only [pu]; refine wt 4 (.pointer (some ⟨xb, 0, none⟩)) ?_; simp only [pu]; refine wt 5 (.pointer (some ⟨xb, 0, none⟩)) ?_; simp only [pu]; refine wt 6 (.pointer (some ⟨xb, 0, none⟩)) ?_; simp only [pu]; refine wt 7 (.slice (some ⟨b, off, none⟩) ln lc) ?_; simp only [pu]; refine wt 8 (.int .i64 ln) ?_; simp only [pu]; refine wt 9 (.bool true) ?_; simp only [pu]; refine wt 10 (.bool true) ?_; simp only [pu]; refine wt 11 (.pointer (some ⟨xb, 0, none⟩)) ?_; simp only [pu]; refine wt 12 (.pointer (some ⟨xb, 0, none⟩)) ?_; simp only [pu]; refine wt 13 (.pointer (some ⟨xb, 0, none⟩)) ?_; simp only [pu]; refine wt 14 (.slice (some ⟨b, off, none⟩) ln lc) ?_; simp only [pu]; refine wt 15 (.pointer (some ⟨xb, 0, none⟩)) ?_; simp only [pu]; refine wt 16 (.pointer (some ⟨xb, 0, none⟩)) ?_; simp only [pu]; refine wt 17 (.pointer (some ⟨xb, 1, none⟩)) ?_; simp only [pu]; refine wt 18 (.int .i64 at1) ?_; simp only [pu]; refine wt 19 (.pointer (some ⟨b, off + at1 * 5, none⟩)) ?_; simp only [pu]; refine wt 20 (.agg #[.int .i64 y0, .int .i64 y1, .int .i64 y2, .string y3, .int .i64 y4]) ?_; simp only [pu]; refine wt 21 (.string s) ?_; simp only [pu]; refine dI (i := 22) (by kernel_rfl) (by kernel_rfl) rfl (fun K1 hK1 => ?_); rw [if_pos (by kernel_rfl)]; go_simp; refine (bI ⟨y0, y1, y2, y3, y4⟩ _ _).mono ?_; rintro e4 w4 ⟨⟨r, rfl⟩, hb4⟩; have HB4 : Hid (Below w.heap.size w w4) := br.drew.trans hb4; have H4 := qd (H.out.below HB4.out); refine hK1.out _ _ ⟨H4.out.c0, H4.out.c1, (HB4.out.cell (p := ⟨b, off + at1 * 5, none⟩) hb).trans d0, (HB4.out.cell (p := ⟨b, off + at1 * 5 + 1, none⟩) hb).trans d1, (HB4.out.cell (p := ⟨b, off + at1 * 5 + 2, none⟩) hb).trans d2, (HB4.out.cell (p := ⟨b, off + at1 * 5 + 3, none⟩) hb).trans d3, (HB4.out.cell (p := ⟨b, off + at1 * 5 + 4, none⟩) hb).trans d4⟩ (fun hHeld => ?_); clear hK1 K1 hb4 c0 c1 d0 d1 d2 d3 d4
   try simp only [pu]
   refine wt 23 (.bool r) ?_; simp only [pu]; refine aK ?_; clear hHeld; have hx4 := H4.out.lt; cases r with
   | false =>
     go_wp2_with fail; rw [HPP.out]; exact ⟨false, at1, rfl, H4.out, (fun h => by cases h), fun _ => rfl, am.of_below HB4.out⟩
   | true =>
     have c1 := H4.out.c1; have f1 := H4.out.free 1; have HS := qd (H4.out.set1 (at1 + 1) (by omega)); go_wp2_with fail; rw [HPP.out]; exact ⟨true, at1 + 1, rfl, HS.out, fun _ => rfl, (fun h => by cases h), (am.of_below HB4.out).trans (bz w4 xb 1 _) fun x hx => .inl hx⟩
 · have hk1 : ¬ ((at1 : Int) < (ln : Int)) := by omega
   have hk2 : decide ((at1 : Int) < (ln : Int)) = false := by simp; omega
   go_enter Tryz.func166, Tryz.ntmps166; go_wp2_with fail; go_region
   all_goals
    go_wp2_with fail; rw [HPP.out]; exact ⟨false, at1, rfl, H.out.below br.drew, (fun h => by cases h), fun _ => rfl, am.of_below br.drew⟩
end Go.Proofs.YthkebhjaaikopaaGreatDoor
set_option linter.unusedSimpArgs false
set_option linter.unusedVariables false
namespace Go.Proofs.YthkebhjaaikopaaGreatDoor
open Go.ChangeShapes Go.WideShapes Go.ChangeAt Go.RowKit Go.Deep Go.Joins Go.Instr
def rB (Γ : Gh) (w : World) (xb : Nat) (la : Option Addr) (ln lc at1 dp : Nat) (r : Ending) (w' : World) : Prop := ∃ v at2 e2, r = .returned (.int .i64 v) ∧ Sx Γ w' xb la ln lc at2 e2 dp ∧ at1 ≤ at2 ∧ am (fun k => k = xb) w w'
def kZ (f dp : Nat) : Prop := ∀ (Γ : Gh) (xb : Nat) (la : Option Addr) (ln lc at1 : Nat) (e : Int) (w : World), Sx Γ w xb la ln lc at1 e dp → Calls Tryz.prog f #[.pointer (some ⟨xb, 0, none⟩)] w (rB Γ w xb la ln lc at1 dp)
abbrev ld (dp : Nat) := kZ 199 dp
abbrev oT (dp : Nat) := kZ 185 dp
abbrev rF (dp : Nat) := kZ 165 dp
abbrev rD (dp : Nat) := kZ 138 dp
theorem dM (b : Bool) (w : World) : Calls Tryz.prog 167 #[.bool b] w fun r w' => (∃ v, r = .returned (.int .i64 v)) ∧ Below w.heap.size w w' := (kD b w).mono fun _ _ h => ⟨⟨_, h.1⟩, h.2⟩
def sY (w : World) (xb : Nat) : Nat := match w.cell? ⟨xb, 1, none⟩ with
 | some (.int _ n) => n.toNat
 | _ => 0
theorem Sx.atw {Γ : Gh} {w : World} {xb : Nat} {la : Option Addr} {ln lc at1 : Nat} {e : Int} {dp : Nat} (h : Sx Γ w xb la ln lc at1 e dp) : sY w xb = at1 := by
 unfold sY; rw [h.c1]; simp
theorem my (dp : Nat) (hC : oT dp) : rF dp := by
 intro Γ xb la ln lc at1 e w h; have H := qd h; have HC := qd hC; obtain ⟨PP, hPP⟩ : ∃ PP, PP = rB Γ w xb la ln lc at1 dp := ⟨_, rfl⟩; rw [← hPP]; have HPP := qd hPP; clear h hPP hC; go_enter Tryz.func165, Tryz.ntmps165; go_wp2_with fail; refine (HC.out Γ xb la ln lc at1 e w H.out).mono ?_; rintro r w1 ⟨v1, at2, e2, rfl, h1, h2, h3⟩; have H1 := qd h1; have HO1 := qd h3; clear h1 h3; go_wp2_with fail
 go_loopw [3] (fun v wr => ∃ (vv : Int) (k : Nat) (er : Int), v = .int .i64 vv ∧ Hid (Sx Γ wr xb la ln lc k er dp) ∧ at1 ≤ k ∧ Hid (am (fun j => j = xb) w wr)) (fun _ wr => ln + 1 - sY wr xb)
 case atStart => exact ⟨v1, at2, e2, rfl, H1, h2, HO1⟩
 case round =>
  obtain ⟨vv, k, er, rfl, hS, hk, hO⟩ := hrel; have c2 := hS.out.c2; have hxl := hS.out.lt
  by_cases he : er = 0
  · subst he; go_wp2_with fail; refine (fv _ wr hS.out).mono ?_; rintro r w2 ⟨b, at3, rfl, h1, h2, h3, h4⟩; have H2 := qd h1; have HO2 : Hid (am (fun j => j = xb) w w2) := aw hO.out h4; clear h1 h4 c2; cases b with
    | false =>
      obtain rfl := h3 rfl; clear h2; go_wp2_with fail; rw [HPP.out]; exact ⟨vv, _, _, rfl, H2.out, hk, HO2.out⟩
    | true =>
      obtain rfl := h2 rfl; clear h3; go_wp2_with fail; refine (HC.out Γ xb la ln lc (k + 1) 0 w2 H2.out).mono ?_; rintro r w3 ⟨u, at4, e4, rfl, h1, h2, h3⟩; have H3 := qd h1; have HO3 : Hid (am (fun j => j = xb) w w3) := aw HO2.out h3; have hat : Hid (sY wr xb = k) := hS.out.atw; clear h1 h3
      by_cases hv : vv = 0
      all_goals
       by_cases hu : u = 0
       all_goals
        go_wp2_with fail; refine (kD _ w3).mono ?_; rintro r w4 ⟨rfl, h4⟩; have H4 := qd (H3.out.below h4); have HO4 : Hid (am (fun j => j = xb) w w4) := aw HO3.out (am.of_below h4); have hat4 : Hid (sY w4 xb = at4) := H4.out.atw; clear h4; go_wp2_with fail; go_roundw
        case rel => exact ⟨_, at4, e4, rfl, H4, by omega, HO4⟩
        case measure => rw [hat.out, hat4.out]; have := H4.out.ple; omega
  · have he' : (er == 0) = false := by rw [beq_eq_false_iff_ne]; exact he
    go_wp2_with fail; rw [HPP.out]; exact ⟨vv, k, er, rfl, hS.out, hk, hO.out⟩
theorem oD (dp : Nat) (hC : rF dp) : rD dp := by
 intro Γ xb la ln lc at1 e w h; have H := qd h; have HC := qd hC; obtain ⟨PP, hPP⟩ : ∃ PP, PP = rB Γ w xb la ln lc at1 dp := ⟨_, rfl⟩; rw [← hPP]; have HPP := qd hPP; clear h hPP hC; go_enter Tryz.func138, Tryz.ntmps138; go_wp2_with fail; refine (HC.out Γ xb la ln lc at1 e w H.out).mono ?_; rintro r w1 ⟨v1, at2, e2, rfl, h1, h2, h3⟩; have H1 := qd h1; have HO1 := qd h3; clear h1 h3; go_wp2_with fail
 go_loopw [3] (fun v wr => ∃ (vv : Int) (k : Nat) (er : Int), v = .int .i64 vv ∧ Hid (Sx Γ wr xb la ln lc k er dp) ∧ at1 ≤ k ∧ Hid (am (fun j => j = xb) w wr)) (fun _ wr => ln + 1 - sY wr xb)
 case atStart => exact ⟨v1, at2, e2, rfl, H1, h2, HO1⟩
 case round =>
  obtain ⟨vv, k, er, rfl, hS, hk, hO⟩ := hrel; have c2 := hS.out.c2; have hxl := hS.out.lt
  by_cases he : er = 0
  · subst he; go_wp2_with fail; refine (fv _ wr hS.out).mono ?_; rintro r w2 ⟨b, at3, rfl, h1, h2, h3, h4⟩; have H2 := qd h1; have HO2 : Hid (am (fun j => j = xb) w w2) := aw hO.out h4; clear h1 h4 c2; cases b with
    | false =>
      obtain rfl := h3 rfl; clear h2; go_wp2_with fail; rw [HPP.out]; exact ⟨vv, _, _, rfl, H2.out, hk, HO2.out⟩
    | true =>
      obtain rfl := h2 rfl; clear h3; go_wp2_with fail; refine (HC.out Γ xb la ln lc (k + 1) 0 w2 H2.out).mono ?_; rintro r w3 ⟨u, at4, e4, rfl, h1, h2, h3⟩; have H3 := qd h1; have HO3 : Hid (am (fun j => j = xb) w w3) := aw HO2.out h3; have hat : Hid (sY wr xb = k) := hS.out.atw; clear h1 h3
      by_cases hv : vv = 0
      all_goals
       by_cases hu : u = 0
       all_goals
        go_wp2_with fail; refine (kD _ w3).mono ?_; rintro r w4 ⟨rfl, h4⟩; have H4 := qd (H3.out.below h4); have HO4 : Hid (am (fun j => j = xb) w w4) := aw HO3.out (am.of_below h4); have hat4 : Hid (sY w4 xb = at4) := H4.out.atw; clear h4; go_wp2_with fail; go_roundw
        case rel => exact ⟨_, at4, e4, rfl, H4, by omega, HO4⟩
        case measure => rw [hat.out, hat4.out]; have := H4.out.ple; omega
  · have he' : (er == 0) = false := by rw [beq_eq_false_iff_ne]; exact he
    go_wp2_with fail; rw [HPP.out]; exact ⟨vv, k, er, rfl, hS.out, hk, hO.out⟩
set_option maxRecDepth 100000 in
theorem jx (dp : Nat) (hC : ld dp) : oT dp := by
 intro Γ xb la ln lc at1 e w h; have H := qd h; have HC := qd hC; obtain ⟨PP, hPP⟩ : ∃ PP, PP = rB Γ w xb la ln lc at1 dp := ⟨_, rfl⟩; rw [← hPP]; have HPP := qd hPP; clear h hPP hC; go_enter Tryz.func185, Tryz.ntmps185; go_wp2_with fail; refine (HC.out Γ xb la ln lc at1 e w H.out).mono ?_; rintro r w1 ⟨v1, at2, e2, rfl, h1, hle, h3⟩; have H1 := qd h1; have HO1 := qd h3; have c0 := h1.c0; have c1 := h1.c1; have c2 := h1.c2; have hxl := h1.lt; have hn := h1.n; have hpl := h1.ple; clear h1 h3; have HRET : Hid (Sx Γ w1.drew xb la ln lc at2 e2 dp ∧ am (fun j => j = xb) w w1.drew) := ⟨H1.out.below br.drew, aw HO1.out (am.of_below br.drew)⟩
 by_cases he : e2 = 0
 · subst he
   by_cases hk : at2 < ln
   · obtain ⟨b, off, y, rfl, hb, hy, d0, d1, d2, d3, d4⟩ := H1.out.view.tokAt H1.out.good hk; obtain ⟨y0, y1, y2, y3, y4⟩ := y; simp only at d0 d1 d2 d3 d4; clear hy; have hk1 : ¬ ((ln : Int) ≤ (at2 : Int)) := by omega
     have hk2 : (at2 : Int) < (ln : Int) := by omega
     have hk3 : decide ((ln : Int) ≤ (at2 : Int)) = false := by simp; omega
     by_cases h4 : y0 = 4
     · subst h4; have HD : Hid (Sx Γ w1.drew.drew xb (some ⟨b, off, none⟩) ln lc at2 0 dp) := H1.out.below (br.drew.drew); have HOD : Hid (am (fun j => j = xb) w w1.drew.drew) := aw HO1.out (am.of_below (br.drew.drew)); have HS := qd (HD.out.set1 (at2 + 1) (by omega)); have HSO : Hid (am (fun j => j = xb) w (w1.drew.drew.setCell ⟨xb, 1, none⟩ (.int .i64 ((at2 + 1 : Nat) : Int)))) := aw HOD.out (bz _ xb 1 _); have f1 := H1.out.free 1; go_wp2_with fail; refine aj (z := 1000) (S := fun w' : World => w'.cell? ⟨xb, 2, none⟩ = some (.int .i64 0) ∧ w'.cell? ⟨xb, 1, none⟩ = some (.int .i64 at2) ∧ w'.cell? ⟨xb, 0, none⟩ = some (.slice (some ⟨b, off, none⟩) ln lc) ∧ w'.cell? ⟨b, off + at2 * 5, none⟩ = some (.int .i64 4)) (by kernel_rfl) ⟨c2, c1, c0, d0⟩ (fun hHeld => ?_); refine wt 0 (.pointer (some ⟨xb, 0, none⟩)) ?_; simp only [pu]; refine wt 1 (.pointer (some ⟨xb, 0, none⟩)) ?_; simp only [pu]; refine wt 2 (.pointer (some ⟨xb, 2, none⟩)) ?_; simp only [pu]; refine wt 3 (.int .i64 0) ?_; simp only [pu]; refine wt 4 (.bool false) ?_; simp only [pu]; refine wt 5 (.bool false) ?_; simp only [pu]; refine wt 6 (.pointer (some ⟨xb, 0, none⟩)) ?_; simp only [pu]; refine wt 7 (.pointer (some ⟨xb, 0, none⟩)) ?_; simp only [pu]; refine wt 8 (.pointer (some ⟨xb, 1, none⟩)) ?_; simp only [pu]; refine wt 9 (.int .i64 at2) ?_; simp only [pu]; refine wt 10 (.pointer (some ⟨xb, 0, none⟩)) ?_; simp only [pu]; refine wt 11 (.pointer (some ⟨xb, 0, none⟩)) ?_; simp only [pu]; refine wt 12 (.pointer (some ⟨xb, 0, none⟩)) ?_; simp only [pu]; refine wt 13 (.slice (some ⟨b, off, none⟩) ln lc) ?_; simp only [pu]; refine wt 14 (.int .i64 ln) ?_; simp only [pu]; refine wt 15 (.bool false) ?_; simp only [pu]; refine wt 16 (.bool false) ?_; simp only [pu]; refine wt 17 (.bool false) ?_; simp only [pu]; refine wt 18 (.pointer (some ⟨xb, 0, none⟩)) ?_; simp only [pu]; refine wt 19 (.pointer (some ⟨xb, 0, none⟩)) ?_; simp only [pu]; refine wt 20 (.pointer (some ⟨xb, 0, none⟩)) ?_; simp only [pu]; refine wt 21 (.slice (some ⟨b, off, none⟩) ln lc) ?_; simp only [pu]; refine wt 22 (.pointer (some ⟨xb, 0, none⟩)) ?_; simp only [pu]; refine wt 23 (.pointer (some ⟨xb, 0, none⟩)) ?_; simp only [pu]; refine wt 24 (.pointer (some ⟨xb, 1, none⟩)) ?_; simp only [pu]; refine wt 25 (.int .i64 at2) ?_; simp only [pu]; refine wt 26 (.pointer (some ⟨b, off + at2 * 5, none⟩)) ?_; simp only [pu]; refine wt 27 (.pointer (some ⟨b, off + at2 * 5, none⟩)) ?_; simp only [pu]; refine wt 28 (.int .i64 4) ?_; simp only [pu]; refine wt 29 (.bool false) ?_; simp only [pu]; refine wt 30 (.bool false) ?_; simp only [pu]; refine aK ?_; clear hHeld; simp only [List.getElem_toArray, List.getElem_cons_succ, List.getElem_cons_zero, pu]; go_wp2_with fail; go_region
       by_cases hw0 : y3 = ⟨#[61, 61]⟩
       · subst hw0; go_wp2_with fail; refine (HC.out Γ xb (some ⟨b, off, none⟩) ln lc (at2 + 1) 0 _ HS.out).mono ?_; rintro r w3 ⟨u, at4, e4, rfl, h1, h2, h3⟩; have H3 := qd h1; have HO3 : Hid (am (fun j => j = xb) w w3) := aw HSO.out h3; clear h1 h3; go_wp2_with fail; refine (dM _ w3).mono ?_; rintro r w4 ⟨⟨v5, rfl⟩, h4⟩; have H4 := qd (H3.out.below h4); have HO4 : Hid (am (fun j => j = xb) w w4) := aw HO3.out (am.of_below h4); clear h4; go_wp2_with fail; rw [HPP.out]; exact ⟨_, at4, e4, rfl, H4.out, by omega, HO4.out⟩
       · have hq0 : (y3.toList == [61, 61]) = false := by rw [show ([61, 61] : List UInt8) = (⟨#[61, 61]⟩ : ByteArray).toList from by rw [ByteArray.toList_eq], ce]; simp [hw0]
         clear hw0
         by_cases hw1 : y3 = ⟨#[33, 61]⟩
         · subst hw1; go_wp2_with fail; refine (HC.out Γ xb (some ⟨b, off, none⟩) ln lc (at2 + 1) 0 _ HS.out).mono ?_; rintro r w3 ⟨u, at4, e4, rfl, h1, h2, h3⟩; have H3 := qd h1; have HO3 : Hid (am (fun j => j = xb) w w3) := aw HSO.out h3; clear h1 h3; go_wp2_with fail; refine (dM _ w3).mono ?_; rintro r w4 ⟨⟨v5, rfl⟩, h4⟩; have H4 := qd (H3.out.below h4); have HO4 : Hid (am (fun j => j = xb) w w4) := aw HO3.out (am.of_below h4); clear h4; go_wp2_with fail; rw [HPP.out]; exact ⟨_, at4, e4, rfl, H4.out, by omega, HO4.out⟩
         · have hq1 : (y3.toList == [33, 61]) = false := by rw [show ([33, 61] : List UInt8) = (⟨#[33, 61]⟩ : ByteArray).toList from by rw [ByteArray.toList_eq], ce]; simp [hw1]
           clear hw1
           by_cases hw2 : y3 = ⟨#[60]⟩
           · subst hw2; go_wp2_with fail; refine (HC.out Γ xb (some ⟨b, off, none⟩) ln lc (at2 + 1) 0 _ HS.out).mono ?_; rintro r w3 ⟨u, at4, e4, rfl, h1, h2, h3⟩; have H3 := qd h1; have HO3 : Hid (am (fun j => j = xb) w w3) := aw HSO.out h3; clear h1 h3; go_wp2_with fail; refine (dM _ w3).mono ?_; rintro r w4 ⟨⟨v5, rfl⟩, h4⟩; have H4 := qd (H3.out.below h4); have HO4 : Hid (am (fun j => j = xb) w w4) := aw HO3.out (am.of_below h4); clear h4; go_wp2_with fail; rw [HPP.out]; exact ⟨_, at4, e4, rfl, H4.out, by omega, HO4.out⟩
           · have hq2 : (y3.toList == [60]) = false := by rw [show ([60] : List UInt8) = (⟨#[60]⟩ : ByteArray).toList from by rw [ByteArray.toList_eq], ce]; simp [hw2]
             clear hw2
             by_cases hw3 : y3 = ⟨#[60, 61]⟩
             · subst hw3; go_wp2_with fail; refine (HC.out Γ xb (some ⟨b, off, none⟩) ln lc (at2 + 1) 0 _ HS.out).mono ?_; rintro r w3 ⟨u, at4, e4, rfl, h1, h2, h3⟩; have H3 := qd h1; have HO3 : Hid (am (fun j => j = xb) w w3) := aw HSO.out h3; clear h1 h3; go_wp2_with fail; refine (dM _ w3).mono ?_; rintro r w4 ⟨⟨v5, rfl⟩, h4⟩; have H4 := qd (H3.out.below h4); have HO4 : Hid (am (fun j => j = xb) w w4) := aw HO3.out (am.of_below h4); clear h4; go_wp2_with fail; rw [HPP.out]; exact ⟨_, at4, e4, rfl, H4.out, by omega, HO4.out⟩
             · have hq3 : (y3.toList == [60, 61]) = false := by rw [show ([60, 61] : List UInt8) = (⟨#[60, 61]⟩ : ByteArray).toList from by rw [ByteArray.toList_eq], ce]; simp [hw3]
               clear hw3
               by_cases hw4 : y3 = ⟨#[62]⟩
               · subst hw4; go_wp2_with fail; refine (HC.out Γ xb (some ⟨b, off, none⟩) ln lc (at2 + 1) 0 _ HS.out).mono ?_; rintro r w3 ⟨u, at4, e4, rfl, h1, h2, h3⟩; have H3 := qd h1; have HO3 : Hid (am (fun j => j = xb) w w3) := aw HSO.out h3; clear h1 h3; go_wp2_with fail; refine (dM _ w3).mono ?_; rintro r w4 ⟨⟨v5, rfl⟩, h4⟩; have H4 := qd (H3.out.below h4); have HO4 : Hid (am (fun j => j = xb) w w4) := aw HO3.out (am.of_below h4); clear h4; go_wp2_with fail; rw [HPP.out]; exact ⟨_, at4, e4, rfl, H4.out, by omega, HO4.out⟩
               · have hq4 : (y3.toList == [62]) = false := by rw [show ([62] : List UInt8) = (⟨#[62]⟩ : ByteArray).toList from by rw [ByteArray.toList_eq], ce]; simp [hw4]
                 clear hw4
                 by_cases hw5 : y3 = ⟨#[62, 61]⟩
                 · subst hw5; go_wp2_with fail; refine (HC.out Γ xb (some ⟨b, off, none⟩) ln lc (at2 + 1) 0 _ HS.out).mono ?_; rintro r w3 ⟨u, at4, e4, rfl, h1, h2, h3⟩; have H3 := qd h1; have HO3 : Hid (am (fun j => j = xb) w w3) := aw HSO.out h3; clear h1 h3; go_wp2_with fail; refine (dM _ w3).mono ?_; rintro r w4 ⟨⟨v5, rfl⟩, h4⟩; have H4 := qd (H3.out.below h4); have HO4 : Hid (am (fun j => j = xb) w w4) := aw HO3.out (am.of_below h4); clear h4; go_wp2_with fail; rw [HPP.out]; exact ⟨_, at4, e4, rfl, H4.out, by omega, HO4.out⟩
                 · have hq5 : (y3.toList == [62, 61]) = false := by rw [show ([62, 61] : List UInt8) = (⟨#[62, 61]⟩ : ByteArray).toList from by rw [ByteArray.toList_eq], ce]; simp [hw5]
                   clear hw5; go_wp2_with fail; rw [HPP.out]; exact ⟨v1, at2, 0, rfl, HD.out, hle, HOD.out⟩
     · have h4' : (y0 == 4) = false := by rw [beq_eq_false_iff_ne]; exact h4
       go_wp2_with fail; refine aj (z := 1000) (S := fun w' : World => w'.cell? ⟨xb, 2, none⟩ = some (.int .i64 0) ∧ w'.cell? ⟨xb, 1, none⟩ = some (.int .i64 at2) ∧ w'.cell? ⟨xb, 0, none⟩ = some (.slice (some ⟨b, off, none⟩) ln lc) ∧ w'.cell? ⟨b, off + at2 * 5, none⟩ = some (.int .i64 y0)) (by kernel_rfl) ⟨c2, c1, c0, d0⟩ (fun hHeld => ?_); refine wt 0 (.pointer (some ⟨xb, 0, none⟩)) ?_; simp only [pu]; refine wt 1 (.pointer (some ⟨xb, 0, none⟩)) ?_; simp only [pu]; refine wt 2 (.pointer (some ⟨xb, 2, none⟩)) ?_; simp only [pu]; refine wt 3 (.int .i64 0) ?_; simp only [pu]; refine wt 4 (.bool false) ?_; simp only [pu]; refine wt 5 (.bool false) ?_; simp only [pu]; refine wt 6 (.pointer (some ⟨xb, 0, none⟩)) ?_; simp only [pu]; refine wt 7 (.pointer (some ⟨xb, 0, none⟩)) ?_; simp only [pu]; refine wt 8 (.pointer (some ⟨xb, 1, none⟩)) ?_; simp only [pu]; refine wt 9 (.int .i64 at2) ?_; simp only [pu]; refine wt 10 (.pointer (some ⟨xb, 0, none⟩)) ?_; simp only [pu]; refine wt 11 (.pointer (some ⟨xb, 0, none⟩)) ?_; simp only [pu]; refine wt 12 (.pointer (some ⟨xb, 0, none⟩)) ?_; simp only [pu]; refine wt 13 (.slice (some ⟨b, off, none⟩) ln lc) ?_; simp only [pu]; refine wt 14 (.int .i64 ln) ?_; simp only [pu]; refine wt 15 (.bool false) ?_; simp only [pu]; refine wt 16 (.bool false) ?_; simp only [pu]; refine wt 17 (.bool false) ?_; simp only [pu]; refine wt 18 (.pointer (some ⟨xb, 0, none⟩)) ?_; simp only [pu]; refine wt 19 (.pointer (some ⟨xb, 0, none⟩)) ?_; simp only [pu]; refine wt 20 (.pointer (some ⟨xb, 0, none⟩)) ?_; simp only [pu]; refine wt 21 (.slice (some ⟨b, off, none⟩) ln lc) ?_; simp only [pu]; refine wt 22 (.pointer (some ⟨xb, 0, none⟩)) ?_; simp only [pu]; refine wt 23 (.pointer (some ⟨xb, 0, none⟩)) ?_; simp only [pu]; refine wt 24 (.pointer (some ⟨xb, 1, none⟩)) ?_; simp only [pu]; refine wt 25 (.int .i64 at2) ?_; simp only [pu]; refine wt 26 (.pointer (some ⟨b, off + at2 * 5, none⟩)) ?_; simp only [pu]; refine wt 27 (.pointer (some ⟨b, off + at2 * 5, none⟩)) ?_; simp only [pu]; refine wt 28 (.int .i64 y0) ?_; simp only [pu]; refine wt 29 (.bool true) ?_; simp only [pu]; refine wt 30 (.bool true) ?_; simp only [pu]; refine aK ?_; clear hHeld; simp only [List.getElem_toArray, List.getElem_cons_succ, List.getElem_cons_zero, pu]; go_wp2_with fail; rw [HPP.out]; exact ⟨v1, at2, 0, rfl, HRET.out.1, hle, HRET.out.2⟩
   · have hk1 : (ln : Int) ≤ (at2 : Int) := by omega
     go_wp2_with fail; refine aj (z := 1000) (S := fun w' : World => w'.cell? ⟨xb, 2, none⟩ = some (.int .i64 0) ∧ w'.cell? ⟨xb, 1, none⟩ = some (.int .i64 at2) ∧ w'.cell? ⟨xb, 0, none⟩ = some (.slice la ln lc)) (by kernel_rfl) ⟨c2, c1, c0⟩ (fun hHeld => ?_); refine wt 0 (.pointer (some ⟨xb, 0, none⟩)) ?_; simp only [pu]; refine wt 1 (.pointer (some ⟨xb, 0, none⟩)) ?_; simp only [pu]; refine wt 2 (.pointer (some ⟨xb, 2, none⟩)) ?_; simp only [pu]; refine wt 3 (.int .i64 0) ?_; simp only [pu]; refine wt 4 (.bool false) ?_; simp only [pu]; refine wt 5 (.bool false) ?_; simp only [pu]; refine wt 6 (.pointer (some ⟨xb, 0, none⟩)) ?_; simp only [pu]; refine wt 7 (.pointer (some ⟨xb, 0, none⟩)) ?_; simp only [pu]; refine wt 8 (.pointer (some ⟨xb, 1, none⟩)) ?_; simp only [pu]; refine wt 9 (.int .i64 at2) ?_; simp only [pu]; refine wt 10 (.pointer (some ⟨xb, 0, none⟩)) ?_; simp only [pu]; refine wt 11 (.pointer (some ⟨xb, 0, none⟩)) ?_; simp only [pu]; refine wt 12 (.pointer (some ⟨xb, 0, none⟩)) ?_; simp only [pu]; refine wt 13 (.slice la ln lc) ?_; simp only [pu]; refine wt 14 (.int .i64 ln) ?_; simp only [pu]; refine wt 15 (.bool true) ?_; simp only [pu]; refine wt 16 (.bool true) ?_; simp only [pu]; refine wt 17 (.bool true) ?_; simp only [pu]; refine wu 18 ?_; simp only [pu]; refine wu 19 ?_; simp only [pu]; refine wu 20 ?_; simp only [pu]; refine wu 21 ?_; simp only [pu]; refine wu 22 ?_; simp only [pu]; refine wu 23 ?_; simp only [pu]; refine wu 24 ?_; simp only [pu]; refine wu 25 ?_; simp only [pu]; refine wu 26 ?_; simp only [pu]; refine wu 27 ?_; simp only [pu]; refine wu 28 ?_; simp only [pu]; refine wu 29 ?_; simp only [pu]; refine wt 30 (.bool true) ?_; simp only [pu]; refine aK ?_; clear hHeld; simp only [List.getElem_toArray, List.getElem_cons_succ, List.getElem_cons_zero, pu]; go_wp2_with fail; rw [HPP.out]; exact ⟨v1, at2, 0, rfl, HRET.out.1, hle, HRET.out.2⟩
 · have he' : (e2 == 0) = false := by rw [beq_eq_false_iff_ne]; exact he
   go_wp2_with fail; refine aj (z := 1000) (S := fun w' : World => w'.cell? ⟨xb, 2, none⟩ = some (.int .i64 e2)) (by kernel_rfl) c2 (fun hHeld => ?_); refine wt 0 (.pointer (some ⟨xb, 0, none⟩)) ?_; simp only [pu]; refine wt 1 (.pointer (some ⟨xb, 0, none⟩)) ?_; simp only [pu]; refine wt 2 (.pointer (some ⟨xb, 2, none⟩)) ?_; simp only [pu]; refine wt 3 (.int .i64 e2) ?_; simp only [pu]; refine wt 4 (.bool true) ?_; simp only [pu]; refine wt 5 (.bool true) ?_; simp only [pu]; refine wu 6 ?_; simp only [pu]; refine wu 7 ?_; simp only [pu]; refine wu 8 ?_; simp only [pu]; refine wu 9 ?_; simp only [pu]; refine wu 10 ?_; simp only [pu]; refine wu 11 ?_; simp only [pu]; refine wu 12 ?_; simp only [pu]; refine wu 13 ?_; simp only [pu]; refine wu 14 ?_; simp only [pu]; refine wu 15 ?_; simp only [pu]; refine wt 16 (.bool true) ?_; simp only [pu]; refine wt 17 (.bool true) ?_; simp only [pu]; refine wu 18 ?_; simp only [pu]; refine wu 19 ?_; simp only [pu]; refine wu 20 ?_; simp only [pu]; refine wu 21 ?_; simp only [pu]; refine wu 22 ?_; simp only [pu]; refine wu 23 ?_; simp only [pu]; refine wu 24 ?_; simp only [pu]; refine wu 25 ?_; simp only [pu]; refine wu 26 ?_; simp only [pu]; refine wu 27 ?_; simp only [pu]; refine wu 28 ?_; simp only [pu]; refine wu 29 ?_; simp only [pu]; refine wt 30 (.bool true) ?_; simp only [pu]; refine aK ?_; clear hHeld; simp only [List.getElem_toArray, List.getElem_cons_succ, List.getElem_cons_zero, pu]; go_wp2_with fail; rw [HPP.out]; exact ⟨v1, at2, e2, rfl, HRET.out.1, hle, HRET.out.2⟩
end Go.Proofs.YthkebhjaaikopaaGreatDoor
