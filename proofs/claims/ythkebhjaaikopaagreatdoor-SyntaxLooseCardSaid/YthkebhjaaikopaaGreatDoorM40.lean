/- Part of the proof of SyntaxLooseCardSaid (PEx). -/
import Derived.Test.YthkebhjaaikopaaGreatDoorM39
import Derived.MapKept
import Derived.BigRegion
set_option maxHeartbeats 8000000
namespace Go.Proofs.YthkebhjaaikopaaGreatDoor.Px
open Go.MapKept Go.ChangeShapes Go.WideShapes Go.ChangeAt Go.RowKit Go.Deep Go.Joins Go.Instr
def pY : Value := .agg #[.bool false, .slice none 0 0, .slice none 0 0]
theorem tX (w : World) : (zeroValue 146).run Tryz.prog w = .ok pY w := by kernel_rfl
def uv (a : Option (Nat × Value)) : Value := match a with
  | some (_, v) => .tuple #[v, .bool true]
  | none => .tuple #[pY, .bool false]
theorem tC (w : World) (kb : Nat) (es : Array MapEntry) (c : Nat) (s : ByteArray) (a : Option (Nat × Value)) (h : w.heap[kb]? = some (.map es c)) (hf : Instr.findNow .string (.string s) es.toList 0 = some a) :
    (Instr.lookup 97 (.map (some kb)) (.string s) true).run Tryz.prog w = .ok (uv a) w := by
  have h1 := run_getObj_map (P := Tryz.prog) w kb es c h; have h2 := run_checkKey (P := Tryz.prog) (w := w) (kt := 9) (k := .string s) Tryz.underlying9 (by simp [IsKey]) es.isEmpty 9999; have h3 := run_findKey (P := Tryz.prog) (w := w) (kt := 9) (k := .string s) Tryz.underlying9 hf; have h4 := tX w; unfold Instr.lookup; cases a with
  | none => simp [go_sem, h1, h2, h3, h4, uv]
  | some x =>
    obtain ⟨i, v⟩ := x; simp [go_sem, h1, h2, h3, uv]

structure js where
  with_ : Bool
  pa : Option Addr
  pn : Nat
  pc : Nat
  ba : Option Addr
  bn : Nat
  bc : Nat
def js.val (m : js) : Value := .agg #[.bool m.with_, .slice m.pa m.pn m.pc, .slice m.ba m.bn m.bc]
def uE : Option js → Value
  | some m => .tuple #[m.val, .bool true]
  | none => .tuple #[pY, .bool false]
def tW (es : Array MapEntry) (f : ByteArray → Option js) : Prop := ∀ s, ∃ a, Instr.findNow .string (.string s) es.toList 0 = some a ∧ uv a = uE (f s)
theorem qP (m : Option js) : ∃ b pa pn pc qa qn qc is, uE m = .tuple #[.agg #[.bool b, .slice pa pn pc, .slice qa qn qc], .bool is] ∧ (m = none → is = false) := by
  cases m with
  | none => exact ⟨_, _, _, _, _, _, _, _, rfl, fun _ => rfl⟩
  | some m => exact ⟨_, _, _, _, _, _, _, _, rfl, fun h => by cases h⟩
theorem bF {w : World} {base : Nat} {e : TypeId} {v : Value} {n size : Nat} {xs : List Value} (h : w.ownsRow base e size v n xs) : ∃ a c, v = .slice a n c := by
  rcases h.2 with ⟨rfl, h0⟩ | ⟨g, cap, cur, rfl, _⟩
  · have : n = 0 := by omega
    subst this; exact ⟨_, _, rfl⟩
  · exact ⟨_, _, rfl⟩
theorem ko (w : World) (n : Nat) (hn : n = w.heap.size) (x0 x1 x2 : Int) (x3 : ByteArray) (x4 : Int) :
    Sl (w.alloc (.cells #[.int .i64 x0, .int .i64 x1, .int .i64 x2, .string x3, .int .i64 x4] 31)) 5 ay.enc (.slice (some ⟨n, 0, none⟩) 1 1) [⟨x0, x1, x2, x3, x4⟩] := by
  subst hn; refine ⟨_, 1, rfl, Nat.le_refl _, by decide, fun _ => ⟨w.heap.size, 0, rfl, by simp, fun i hi j hj => ?_⟩⟩; obtain rfl : i = 0 := by simpa using hi
  match j, hj with
  | 0, _ => simp [go_sem, ay.enc]
  | 1, _ => simp [go_sem, ay.enc]
  | 2, _ => simp [go_sem, ay.enc]
  | 3, _ => simp [go_sem, ay.enc]
  | 4, _ => simp [go_sem, ay.enc]
  | _ + 5, hj => exact absurd hj (by omega)
theorem gY (a : Addr) (n c : Nat) : Sn (.slice (some a) n c) := fun _ _ h => by simp at h
end Go.Proofs.YthkebhjaaikopaaGreatDoor.Px
namespace Go.Proofs.YthkebhjaaikopaaGreatDoor
open Go.MapKept Go.ChangeShapes Go.WideShapes Go.ChangeAt Go.RowKit Go.Deep Go.Joins Go.Instr
theorem Sl.drew {α : Type} [Inhabited α] {w : World} {sz : Nat} {enc : α → Nat → Value} {v : Value} {l : List α} (h : Sl w sz enc v l) : Sl w.drew sz enc v l := h
end Go.Proofs.YthkebhjaaikopaaGreatDoor
namespace Go.Proofs.YthkebhjaaikopaaGreatDoor.Px
open Go.MapKept Go.ChangeShapes Go.WideShapes Go.ChangeAt Go.RowKit Go.Deep Go.Joins Go.Instr
theorem dB (l : List ay) (k : Nat) (h : k < l.length) : l.take (k + 1) = l.take k ++ [l.getD k default] := by
  rw [List.take_succ_eq_append_getElem h, List.getD_eq_getElem?_getD, List.getElem?_eq_getElem h]; rfl
set_option maxRecDepth 100000 in
theorem rf (l : List ay) (v : Value) (deep : Int) (pb db wb kb : Nat) (es : Array MapEntry) (clock : Nat) (f : ByteArray → Option js) (w : World) (hs : Sl w 5 ay.enc v l) (hl : l.length ≤ 8192)
    (hp : w.cell? ⟨pb, 0, none⟩ = some (.pointer (some ⟨wb, 0, none⟩))) (hk : w.cell? ⟨wb, 1, none⟩ = some (.map (some kb))) (hm : w.heap[kb]? = some (.map es clock))
    (hf : tW es f) (hpl : ∀ t ∈ l, t.kind = 1 → f t.text = none) :
    Calls Tryz.prog 158 #[v, .int .i64 deep, .pointer (some ⟨pb, 0, none⟩), .pointer (some ⟨db, 0, none⟩)] w fun e w' => ∃ v', e = .returned v' ∧ w'.ownsRow w.heap.size 31 5 v' l.length (fl l) ∧ Below w.heap.size w w' := by
  obtain ⟨aa, ca, rfl, ma, HA⟩ := aV hs; have hca : l.length ≤ ca := by obtain ⟨_, _, e, h, _⟩ := hs; injection e with e1 e2 e3; omega
  have hcm : ca ≤ 9223372036854775807 := by obtain ⟨_, _, e, _, h, _⟩ := hs; injection e with e1 e2 e3; subst e3; unfold maxLen at h; omega
  have hpb := World.block_lt_of_cell? w _ hp; have hwb := World.block_lt_of_cell? w _ hk; have hkb : kb < w.heap.size := (Array.getElem?_eq_some_iff.1 hm).1; clear hs; have HP := qd hp; have HK := qd hk; have HM := qd hm; have HF := qd hf; have HL := qd hpl; clear hp hk hm hf hpl; go_enter Tryz.func158, Tryz.ntmps158; go_wp2
  go_loopw [0, 7] (fun s o wr => ∃ (k : Nat) (a : Option Addr) (c : Nat), k ≤ l.length ∧ s = .slice a (l.length - k) c ∧ l.length - k ≤ c ∧ c ≤ 9223372036854775807 ∧ (k < l.length → ∃ b off, aa = some ⟨b, off, none⟩ ∧ a = some ⟨b, off + k * 5, none⟩) ∧ Hid (wr.ownsRow w.heap.size 31 5 o k (fl (l.take k))) ∧ Below w.heap.size w wr) (fun s _ _ => match s with | .slice _ n _ => n | _ => 0)
  case atStart => exact ⟨0, aa, ca, Nat.zero_le _, rfl, by omega, by omega, fun h => by obtain ⟨b, off, h1, -⟩ := HA.out h; exact ⟨b, off, h1, by simpa using h1⟩, World.ownsRow_nil _ _ _ _, by go_grown⟩
  case round =>
    obtain ⟨k, a, c, hk, rfl, hc1, hc2, ha, hown, hB⟩ := hrel
    by_cases hlt : k < l.length
    · obtain ⟨b, off, rfl, rfl⟩ := ha hlt; obtain ⟨_, _, e, hb, hc⟩ := HA.out (by omega); injection e with e; injection e with e1 e2; subst e1; subst e2; have cc := cK (w := wr) (b := b) (off := off + k * 5) fun j hj => (hB.cell (p := ⟨b, off + k * 5 + j, none⟩) hb).trans (hc k hlt j hj)
      have hx := HL.out (l.getD k default) (by simp [List.getD_eq_getElem?_getD, hlt]); have HT := qd (dB l k hlt); clear hc; generalize l.getD k default = x at *; obtain ⟨x0, x1, x2, x3, x4⟩ := x; obtain ⟨c0, c1, c2, c3, c4⟩ := cc; simp only at c0 c1 c2 c3 c4 hx; obtain ⟨fa, hfa, hfl⟩ := HF.out x3; obtain ⟨mb, pa, pn, pc, qa, qn, qc, is, hform, his⟩ := qP (f x3); have hmW : ∀ W : World, Below wr.heap.size wr W → (Instr.lookup 97 (.map (some kb)) (.string x3) true).run Tryz.prog W = .ok (.tuple #[.agg #[.bool mb, .slice pa pn pc, .slice qa qn qc], .bool is]) W := by
        intro W hW; rw [tC W kb es clock x3 fa (by rw [hW.block kb (by have := hB.size; omega), hB.block kb hkb]; exact HM.out) hfa, hfl, hform]
      have hsz := hB.size; have p0 := (hB.cell (p := ⟨pb, 0, none⟩) hpb).trans HP.out; have k0 := (hB.cell (p := ⟨wb, 1, none⟩) hwb).trans HK.out; have HI : Hid (x0 = 1 → is = false) := fun h => his (hx h)
      clear hfa hfl hform hx ha his; have hone : c = 1 → l.length - k = 1 := by omega
      by_cases hcap : c = 1
      · have hk1 := hone hcap; subst hcap; clear hone; go_wp2; generalize hW1 : World.alloc wr _ = W1; have hg : Below wr.heap.size wr W1 := by rw [← hW1]; go_grown
        have hs1 : W1.heap.size = wr.heap.size + 1 := by rw [← hW1]; simp [go_sem]
        have t0 : W1.cell? ⟨wr.heap.size, 0, none⟩ = some (.int .i64 x0) := by rw [← hW1]; simp [go_sem]
        have t1 : W1.cell? ⟨wr.heap.size, 1, none⟩ = some (.int .i64 x1) := by rw [← hW1]; simp [go_sem]
        have t2 : W1.cell? ⟨wr.heap.size, 2, none⟩ = some (.int .i64 x2) := by rw [← hW1]; simp [go_sem]
        have t3 : W1.cell? ⟨wr.heap.size, 3, none⟩ = some (.string x3) := by rw [← hW1]; simp [go_sem]
        have t4 : W1.cell? ⟨wr.heap.size, 4, none⟩ = some (.int .i64 x4) := by rw [← hW1]; simp [go_sem]
        have HO1 : Hid (W1.ownsRow w.heap.size 31 5 u7 k (fl (l.take k))) := by rw [← hW1]; exact hown.out.alloc _
        clear hW1 hown; have p1 := (hg.cell (p := ⟨pb, 0, none⟩) (by simp; omega)).trans p0; have k1 := (hg.cell (p := ⟨wb, 1, none⟩) (by simp; omega)).trans k0; have l1 := hmW W1.drew hg.drew; have l2 := hmW (W1.alloc (.cells #[.bool false, .slice none 0 0, .slice none 0 0] 146)).drew ((hg.alloc (by omega) _).drew); clear hmW c0 c1 c2 c3 c4 p0 k0; have hs2 : wr.heap.size < W1.heap.size := by omega
        have hp2 : pb < W1.heap.size := by omega
        have hw2 : wb < W1.heap.size := by omega
        have HG := qd hg; have HS1 := qd hs1; clear hg hs1; go_region
        all_goals
          by_cases hx0 : x0 = 1
          · have hi := HI.out hx0; subst hx0; subst hi; clear HI; go_wp2_with (at_builtin; go_must (refine cd rfl _ _ rfl w.heap.size _ k (l.take k) rfl ((HO1.out.alloc _).alloc _).drew _ [⟨1, x1, x2, x3, x4⟩] rfl (ko _ _ (by simp) _ _ _ _ _).drew (gY _ _ _) (by simp; omega) (by simp; omega) ?c4))
            case c4 =>
              intro v' w3 hown' hgrow; have HO3 := qd hown'; have HB3 : Hid (Below w.heap.size w w3) := (((((hB.trans (HG.out.mono hsz)).alloc (by omega) _).alloc (by simp; omega) _).drew).grown hgrow (by simp; omega) (fun g hg => (HO1.out.lt g hg).1)); obtain ⟨a', c', rfl⟩ := bF hown'; clear hown' hgrow; go_wp2; go_roundw
              case rel => exact ⟨k + 1, some ⟨b, off + k * 5, none⟩, 0, by omega, by rw [show l.length - (k + 1) = 0 by omega], by omega, by omega, fun h => absurd h (by omega), by rw [HT.out]; exact HO3, HB3.out⟩
              case measure => simp; omega
          · clear HI; go_wp2_with (at_builtin; go_must (refine cd rfl _ _ rfl w.heap.size _ k (l.take k) rfl ((HO1.out.alloc _).alloc _).drew _ [⟨x0, x1, x2, x3, x4⟩] rfl (ko _ _ (by simp) _ _ _ _ _).drew (gY _ _ _) (by simp; omega) (by simp; omega) ?c4))
            case c4 =>
              intro v' w3 hown' hgrow; have HO3 := qd hown'; have HB3 : Hid (Below w.heap.size w w3) := (((((hB.trans (HG.out.mono hsz)).alloc (by omega) _).alloc (by simp; omega) _).drew).grown hgrow (by simp; omega) (fun g hg => (HO1.out.lt g hg).1)); obtain ⟨a', c', rfl⟩ := bF hown'; clear hown' hgrow; go_wp2; go_roundw
              case rel => exact ⟨k + 1, some ⟨b, off + k * 5, none⟩, 0, by omega, by rw [show l.length - (k + 1) = 0 by omega], by omega, by omega, fun h => absurd h (by omega), by rw [HT.out]; exact HO3, HB3.out⟩
              case measure => simp; omega
      · clear hone; go_wp2; generalize hW1 : World.alloc wr _ = W1; have hg : Below wr.heap.size wr W1 := by rw [← hW1]; go_grown
        have hs1 : W1.heap.size = wr.heap.size + 1 := by rw [← hW1]; simp [go_sem]
        have t0 : W1.cell? ⟨wr.heap.size, 0, none⟩ = some (.int .i64 x0) := by rw [← hW1]; simp [go_sem]
        have t1 : W1.cell? ⟨wr.heap.size, 1, none⟩ = some (.int .i64 x1) := by rw [← hW1]; simp [go_sem]
        have t2 : W1.cell? ⟨wr.heap.size, 2, none⟩ = some (.int .i64 x2) := by rw [← hW1]; simp [go_sem]
        have t3 : W1.cell? ⟨wr.heap.size, 3, none⟩ = some (.string x3) := by rw [← hW1]; simp [go_sem]
        have t4 : W1.cell? ⟨wr.heap.size, 4, none⟩ = some (.int .i64 x4) := by rw [← hW1]; simp [go_sem]
        have HO1 : Hid (W1.ownsRow w.heap.size 31 5 u7 k (fl (l.take k))) := by rw [← hW1]; exact hown.out.alloc _
        clear hW1 hown; have p1 := (hg.cell (p := ⟨pb, 0, none⟩) (by simp; omega)).trans p0; have k1 := (hg.cell (p := ⟨wb, 1, none⟩) (by simp; omega)).trans k0; have l1 := hmW W1.drew hg.drew; have l2 := hmW (W1.alloc (.cells #[.bool false, .slice none 0 0, .slice none 0 0] 146)).drew ((hg.alloc (by omega) _).drew); clear hmW c0 c1 c2 c3 c4 p0 k0; have hs2 : wr.heap.size < W1.heap.size := by omega
        have hp2 : pb < W1.heap.size := by omega
        have hw2 : wb < W1.heap.size := by omega
        have HG := qd hg; have HS1 := qd hs1; clear hg hs1; go_region
        all_goals
          by_cases hx0 : x0 = 1
          · have hi := HI.out hx0; subst hx0; subst hi; clear HI; go_wp2_with (at_builtin; go_must (refine cd rfl _ _ rfl w.heap.size _ k (l.take k) rfl ((HO1.out.alloc _).alloc _).drew _ [⟨1, x1, x2, x3, x4⟩] rfl (ko _ _ (by simp) _ _ _ _ _).drew (gY _ _ _) (by simp; omega) (by simp; omega) ?c4))
            case c4 =>
              intro v' w3 hown' hgrow; have HO3 := qd hown'; have HB3 : Hid (Below w.heap.size w w3) := (((((hB.trans (HG.out.mono hsz)).alloc (by omega) _).alloc (by simp; omega) _).drew).grown hgrow (by simp; omega) (fun g hg => (HO1.out.lt g hg).1)); obtain ⟨a', c', rfl⟩ := bF hown'; clear hown' hgrow; go_wp2; go_roundw
              case rel => exact ⟨k + 1, _, _, by omega, rfl, by omega, by omega, fun h => ⟨b, off, rfl, by rw [Nat.add_mul, Nat.one_mul, ← Nat.add_assoc]⟩, by rw [HT.out]; exact HO3, HB3.out⟩
              case measure => simp; omega
          · clear HI; go_wp2_with (at_builtin; go_must (refine cd rfl _ _ rfl w.heap.size _ k (l.take k) rfl ((HO1.out.alloc _).alloc _).drew _ [⟨x0, x1, x2, x3, x4⟩] rfl (ko _ _ (by simp) _ _ _ _ _).drew (gY _ _ _) (by simp; omega) (by simp; omega) ?c4))
            case c4 =>
              intro v' w3 hown' hgrow; have HO3 := qd hown'; have HB3 : Hid (Below w.heap.size w w3) := (((((hB.trans (HG.out.mono hsz)).alloc (by omega) _).alloc (by simp; omega) _).drew).grown hgrow (by simp; omega) (fun g hg => (HO1.out.lt g hg).1)); obtain ⟨a', c', rfl⟩ := bF hown'; clear hown' hgrow; go_wp2; go_roundw
              case rel => exact ⟨k + 1, _, _, by omega, rfl, by omega, by omega, fun h => ⟨b, off, rfl, by rw [Nat.add_mul, Nat.one_mul, ← Nat.add_assoc]⟩, by rw [HT.out]; exact HO3, HB3.out⟩
              case measure => simp; omega
    · go_wp2; go_ret; have : k = l.length := by omega
      subst this; rw [List.take_length] at hown; exact ⟨_, rfl, hown.out, hB⟩
end Go.Proofs.YthkebhjaaikopaaGreatDoor.Px
