/- Part of the proof of SyntaxLooseCardSaid (ZP ZR ZT). -/
import Derived.Test.YthkebhjaaikopaaGreatDoorM04
import Derived.MapKept
import Derived.IntWalk
import Derived.Test.YthkebhjaaikopaaGreatDoorM01
set_option maxHeartbeats 8000000
namespace Go.Proofs.YthkebhjaaikopaaGreatDoor
open Go.ChangeShapes Go.WideShapes Go.ChangeAt Go.RowKit Go.Deep Go.Joins Go.Instr Go.MapKept
theorem uk : lh 22 31 5 := eX Tryz.underlying22 (by kernel_rfl) (by decide)
theorem ti (l : List ay) : ∀ x ∈ l, ∀ j, j < 5 → (ay.enc x j).oneCell' = true := by
 intro x _ j _; unfold ay.enc
 split <;> rfl
theorem rh (v : Value) (l : List ay) (w : World) (hs : Sl w 5 ay.enc v l) (h0 : 0 < l.length) (hl : l.length ≤ 1000000) :
 Calls Tryz.prog 19 #[v] w fun e w' => ∃ v', e = .returned v' ∧ Ow w' w.heap.size 31 5 ay.enc v' l ∧ Below w.heap.size w w' := by
 have hs' := hs; obtain ⟨aa, ca, rfl, ma, HA⟩ := aV hs; obtain ⟨b, off, rfl, hb, -⟩ := HA.out h0; clear hs HA; have q22 : ∀ (w : World) (a : Option Addr) (n c n' c' : Nat), (binOp .eql 22 (.slice a n c) (.slice none n' c')).run Tryz.prog w = .ok (.bool a.isNone) w := fun w a n c n' c' => Lib.run_eql_slice_nil w _ _ a n c n' c' Tryz.underlying22
 have HS := qd hs'; clear hs'; go_enter Tryz.func19, Tryz.ntmps19; go_wp2_with (at_builtin; refine mB uk rfl _ _ rfl w.heap.size ay.enc _ [] rfl (World.ownsRow_made w #[] 0 (Nat.le_refl _) (Nat.zero_le _) rfl) (.slice (some ⟨b, off, none⟩) l.length ca) l rfl (HS.out.keep (br.alloc (Nat.le_refl _) _)) (fun n c h => by simp at h) (ti l) (by simp; omega) (by simp) ?_); intro v' w1 hown hgrow; have HO := qd (show Ow w1 w.heap.size 31 5 ay.enc v' l by simpa using hown); have hB : Below w.heap.size w w1 := ((Below.refl _ w).alloc (Nat.le_refl _) _).grown hgrow (by simp) (by intro k hk; simp [Value.ownBlock] at hk; omega); clear hown hgrow; go_wp2; go_ret; exact ⟨v', rfl, HO.out, hB⟩
theorem kS (t : ay) (w : World) : Calls Tryz.prog 17 #[t.val] w fun e w' => e = .returned (.bool (decide (t.kind = 0))) ∧ Below w.heap.size w w' := by
 unfold ay.val; obtain ⟨k, a, l, x, n⟩ := t
 by_cases h1 : k = 0
 · subst h1; go_enter Tryz.func17, Tryz.ntmps17; go_wp2; go_ret; exact ⟨cD (by simp), by go_grown⟩
 · go_enter Tryz.func17, Tryz.ntmps17; go_wp2; go_ret; exact ⟨cD (by simp [h1]), by go_grown⟩
theorem iV (t : ay) (w : World) (r : Bool) (h : Hid (decide (t.kind = 0) = r)) : Calls Tryz.prog 17 #[t.val] w fun e w' => e = .returned (.bool r) ∧ Below w.heap.size w w' := by
 have := kS t w; rwa [h.out] at this
def bG (l : List ay) : Bool := decide (0 < l.length ∧ ∀ i, i < l.length → ((l.getD i default).kind = 0 ↔ i + 1 = l.length))
theorem cK {w : World} {b off : Nat} {x : ay} (h : ∀ j, j < 5 → w.cell? ⟨b, off + j, none⟩ = some (x.enc j)) :
 w.cell? ⟨b, off, none⟩ = some (.int .i64 x.kind) ∧ w.cell? ⟨b, off + 1, none⟩ = some (.int .i64 x.at1) ∧ w.cell? ⟨b, off + 2, none⟩ = some (.int .i64 x.line) ∧ w.cell? ⟨b, off + 3, none⟩ = some (.string x.text) ∧ w.cell? ⟨b, off + 4, none⟩ = some (.int .i64 x.n) :=
 ⟨h 0 (by omega), h 1 (by omega), h 2 (by omega), h 3 (by omega), h 4 (by omega)⟩
theorem qX (v : Value) (l : List ay) (w : World) (hs : Sl w 5 ay.enc v l) (hr : bG l = true) :
 Calls Tryz.prog 16 #[v, .func (.func 17) #[] #[]] w fun e w' => e = .returned (.int .i64 ((l.length : Int) - 1)) ∧ Below w.heap.size w w' := by
 unfold bG at hr; obtain ⟨h0, hr⟩ := of_decide_eq_true hr; obtain ⟨aa, ca, rfl, ma, HA⟩ := aV hs; clear hs; have HR := qd hr; clear hr; go_enter Tryz.func16, Tryz.ntmps16; go_wp2
 go_loopw [5, 8] (fun i5 i wr => ∃ k : Nat, k < l.length ∧ i = .int .i64 k ∧ Below w.heap.size w wr) (fun _ i _ => l.length - (intOf i).toNat)
 case atStart => exact ⟨0, h0, rfl, by go_grown⟩
 case round =>
  obtain ⟨k, hlt, rfl, hB⟩ := hrel; obtain ⟨b, o, rfl, hb, hc⟩ := HA.out (by omega); have c := cK (w := wr) (b := b) (off := o + k * 5) fun j hj => (hB.cell (p := ⟨b, o + k * 5 + j, none⟩) hb).trans (hc k hlt j hj)
  clear hc; have hx := HR.out k hlt; have HB := qd hB; have hsz := hB.size; clear hB; generalize l.getD k default = x at *; obtain ⟨c0, c1, c2, c3, c4⟩ := c
  by_cases hlast : k + 1 = l.length
  · have HK := qd (show decide (x.kind = 0) = true by simp [hx, hlast]); have HL := qd hlast; clear hx hlast; go_wp2_with (go_at_call 17; refine (iV x _ _ HK).mono ?_; rintro e w1 ⟨rfl, hw1⟩); have H1 : Hid (Below w.heap.size w w1) := HB.out.trans (hw1.mono (by omega)); clear hw1; go_ret; have : (k : Int) = (l.length : Int) - 1 := by have := HL.out; omega
    exact ⟨mY this, H1.out⟩
  · have HK := qd (show decide (x.kind = 0) = false by simp [hx, hlast]); clear hx; go_wp2_with (go_at_call 17; refine (iV x _ _ HK).mono ?_; rintro e w1 ⟨rfl, hw1⟩); have H1 : Hid (Below w.heap.size w w1) := HB.out.trans (hw1.mono (by omega)); clear hw1; go_roundw
    case rel => exact ⟨k + 1, by omega, by go_num, H1.out⟩
    case measure => simp [intOf]; omega
def ei (l : List (ByteArray × Value)) (es : List MapEntry) : Prop := es.map (fun e => (e.key, e.val)) = l.map (fun p => (Value.string p.1, p.2))
def mA (t : ByteArray) : List (ByteArray × Value) → Option Value
 | [] => none
 | p :: l => if ej p.1 t then some p.2 else mA t l
theorem qm (a b : ByteArray) : Instr.sameNow .string (.string a) (.string b) = some (ej a b) := by
 obtain ⟨r, h1, h2⟩ := sameNow_of_keys (d := .string) (a := .string a) (b := .string b) (by simp [IsKey]) (by simp [IsKey]); rw [h1]
 congr 1
 unfold ej; rw [Bool.eq_iff_iff, h2]; simp
theorem fi (t : ByteArray) : ∀ (l : List (ByteArray × Value)) (es : List MapEntry) (i : Nat), ei l es → ∃ a, Instr.findNow .string (.string t) es i = some a ∧ a.map (·.2) = mA t l
 | [], es, i, h => by
   unfold ei at h; cases es with
   | nil => exact ⟨none, rfl, rfl⟩
   | cons e es => simp at h
 | p :: l, es, i, h => by
   unfold ei at h; cases es with
   | nil => simp at h
   | cons e es =>
     simp only [List.map_cons, List.cons.injEq, Prod.mk.injEq] at h; obtain ⟨⟨hk, hv⟩, hr⟩ := h; unfold Instr.findNow; rw [hk, qm]
     by_cases he : t = p.1
     · have e1 : ej t p.1 = true := by unfold ej; simpa using he
       have e2 : ej p.1 t = true := by unfold ej; simpa using he.symm
       rw [e1]; exact ⟨some (i, e.val), rfl, by simp [mA, e2, hv]⟩
     · have e1 : ej t p.1 = false := by unfold ej; simpa using he
       have e2 : ej p.1 t = false := by unfold ej; simpa using fun h => he h.symm
       rw [e1]; obtain ⟨a, h1, h2⟩ := fi t l es (i + 1) hr; exact ⟨a, h1, by simp [mA, e2, h2]⟩
theorem pN {l : List (ByteArray × Value)} {es : Array MapEntry} (h : ei l es.toList) (s : ByteArray) (v : Value) (c : Nat) : ei (l ++ [(s, v)]) (es.push { key := .string s, val := v, born := c }).toList := by
 unfold ei at *; simp [h]
theorem fK (w : World) (mty kt et : TypeId) (r clock : Nat) (es : Array MapEntry) (s : ByteArray) (val : Value) (hm : Tryz.prog.underlying mty = some (.map kt et)) (hk : Tryz.prog.underlying kt = some .string) (hb : w.heap[r]? = some (.map es clock)) (hf : Instr.findNow .string (.string s) es.toList 0 = some none) :
 (Instr.mapUpdate mty (.map (some r)) (.string s) val).run Tryz.prog w = .ok () { w with heap := w.heap.setIfInBounds r (.map (es.push { key := .string s, val := val, born := clock }) (clock + 1)) } := by
 have hc : (Instr.checkKey false 10000 kt (.string s)).run Tryz.prog w = .ok () w := run_checkKey (k := .string s) hk (by simp [IsKey]) false 9999; simp [Instr.mapUpdate, run_underlying hm, Go.MapKept.run_getObj_map hb, hc, run_findKey hk hf, run_setObj_map _ hb, Result.andThen]
theorem z4 (w : World) : (zeroValue 4).run Tryz.prog w = .ok (.bool false) w := by kernel_rfl
theorem z3 (w : World) : (zeroValue 3).run Tryz.prog w = .ok (.int .i64 0) w := by kernel_rfl
theorem qO (w : World) (r clock : Nat) (es : Array MapEntry) (l : List (ByteArray × Value)) (t : ByteArray) (hb : w.heap[r]? = some (.map es clock)) (h : ei l es.toList) :
 (Instr.lookup 49 (.map (some r)) (.string t) false).run Tryz.prog w = .ok ((mA t l).getD (.bool false)) w := by
 obtain ⟨a, h0, h5⟩ := fi t l es.toList 0 h; have h1 := Go.MapKept.run_getObj_map (P := Tryz.prog) hb; have h2 := run_checkKey (P := Tryz.prog) (w := w) (kt := 9) (k := .string t) Tryz.underlying9 (by simp [IsKey]) es.isEmpty 9999; have h3 := run_findKey (P := Tryz.prog) (w := w) (kt := 9) (k := .string t) Tryz.underlying9 h0; have h4 := z4 w; rw [← h5]; unfold Instr.lookup; cases a with
 | none => simp [go_sem, h1, h2, h3, h4]
 | some x =>
   obtain ⟨i, v⟩ := x; simp [go_sem, h1, h2, h3]
theorem lV (w : World) (r clock : Nat) (es : Array MapEntry) (l : List (ByteArray × Value)) (t : ByteArray) (hb : w.heap[r]? = some (.map es clock)) (h : ei l es.toList) :
 (Instr.lookup 50 (.map (some r)) (.string t) false).run Tryz.prog w = .ok ((mA t l).getD (.int .i64 0)) w := by
 obtain ⟨a, h0, h5⟩ := fi t l es.toList 0 h; have h1 := Go.MapKept.run_getObj_map (P := Tryz.prog) hb; have h2 := run_checkKey (P := Tryz.prog) (w := w) (kt := 9) (k := .string t) Tryz.underlying9 (by simp [IsKey]) es.isEmpty 9999; have h3 := run_findKey (P := Tryz.prog) (w := w) (kt := 9) (k := .string t) Tryz.underlying9 h0; have h4 := z3 w; rw [← h5]; unfold Instr.lookup; cases a with
 | none => simp [go_sem, h1, h2, h3, h4]
 | some x =>
   obtain ⟨i, v⟩ := x; simp [go_sem, h1, h2, h3]
theorem jS (t : ByteArray) : ∀ (l : List ByteArray), (mA t (l.map fun a => (a, Value.bool true))).getD (.bool false) = .bool (fs l t)
 | [] => rfl
 | a :: l => by
   have h := jS t l; unfold fs at *
   by_cases he : ej a t = true
   · simp [mA, he]
   · have he' : ej a t = false := by simpa using he
     simpa [mA, he'] using h
theorem iP (t : ByteArray) : ∀ (l : List (ByteArray × Int)), (mA t (l.map fun p => (p.1, Value.int .i64 p.2))).getD (.int .i64 0) = .int .i64 (gv l t)
 | [] => rfl
 | p :: l => by
   have h := iP t l; unfold gv at *
   by_cases he : ej p.1 t = true
   · simp [mA, he]
   · have he' : ej p.1 t = false := by simpa using he
     simpa [mA, he'] using h
theorem qA {w : World} {kb : Nat} {o : Obj} : am (fun k => k = kb) w { w with heap := w.heap.setIfInBounds kb o } :=
 ⟨rfl, rfl, rfl, by simp, fun k _ h => by
  show (w.heap.setIfInBounds kb o)[k]? = _; rw [Array.getElem?_setIfInBounds_ne (fun e => h e.symm)]⟩
theorem sg (w : World) (mty et : TypeId) (r clock : Nat) (es : Array MapEntry) (s : ByteArray) (val : Value) (l : List (ByteArray × Value)) (hm : Tryz.prog.underlying mty = some (.map 9 et)) (hb : w.heap[r]? = some (.map es clock)) (hE : ei l es.toList) (hn : (mA s l).isNone = true) :
 ∃ (es' : Array MapEntry) (w' : World), (Instr.mapUpdate mty (.map (some r)) (.string s) val).run Tryz.prog w = .ok () w' ∧ w'.heap[r]? = some (.map es' (clock + 1)) ∧ ei (l ++ [(s, val)]) es'.toList ∧ am (fun k => k = r) w w' := by
 obtain ⟨a, h1, h2⟩ := fi s l es.toList 0 hE; cases a with
 | some x => rw [← h2] at hn; simp at hn
 | none =>
   have hlt := af hb; refine ⟨_, _, fK w mty 9 et r clock es s val hm Tryz.underlying9 hb h1, ?_, pN hE s val clock, ?_⟩
   · show (w.heap.setIfInBounds r _)[r]? = _; rw [Array.getElem?_setIfInBounds_self_of_lt hlt]
   · exact qA
theorem ie (w : World) {ops : Array Oper} {rest : List Oper} {o : Oper} {a : Act} {Q : Exit → Act → World → Prop} (hg : o.guard = none) (m x v : Operand) (t et : TypeId) (hop : o.op = .mapUpdate t m x v ∨ o.op = .insert t m x v) (ht : Tryz.prog.underlying t = some (.map 9 et)) (r clock : Nat) (es : Array MapEntry) (hm : a.eval m = .map (some r)) (s : ByteArray) (hx : a.eval x = .string s) (val : Value) (hv : a.eval v = val) (l : List (ByteArray × Value)) (hb : w.heap[r]? = some (.map es clock)) (hE : ei l es.toList) (hn : (mA s l).isNone = true)
 (hK : ∀ (es' : Array MapEntry) (w' : World), w'.heap[r]? = some (.map es' (clock + 1)) → ei (l ++ [(s, val)]) es'.toList → am (fun k => k = r) w w' → wpList Tryz.prog ops Q rest (a.put o.dst undef) w') :
 wpList Tryz.prog ops Q (o :: rest) a w := by
 refine wpList_plain hg fun K' hK' => ?_
 obtain ⟨es', w', hrun, r1, r2, r3⟩ := sg w t et r clock es s val l ht hb hE hn; unfold Oper.wp; rcases hop with hop | hop
 all_goals
  simp [execOp, hop, hm, hx, hv, hrun, Result.andThen]; exact hK' _ _ (hK es' w' r1 r2 r3)
def gx (k : List (ByteArray × Value)) : List (ByteArray × Value) → Bool
 | [] => true
 | p :: l => (mA p.1 k).isNone && gx (k ++ [p]) l
theorem gC {ops : Array Oper} {rest : List Oper} {a : Act} {Q : Exit → Act → World → Prop} (m : Operand) (t et : TypeId) (ht : Tryz.prog.underlying t = some (.map 9 et)) (r : Nat) (hm : a.eval m = .map (some r)) :
 ∀ (l : List (ByteArray × Value)) (os : List Oper) (k : List (ByteArray × Value)) (w : World) (clock : Nat) (es : Array MapEntry), os.map (fun o => (o.guard, o.dst, o.op)) = l.map (fun p => (none, none, Op.insert t m (.const (.string p.1)) (.const p.2))) → w.heap[r]? = some (.map es clock) → ei k es.toList → gx k l = true →
   (∀ (es' : Array MapEntry) (c' : Nat) (w' : World), w'.heap[r]? = some (.map es' c') → ei (k ++ l) es'.toList → am (fun k => k = r) w w' → wpList Tryz.prog ops Q rest a w') → wpList Tryz.prog ops Q (os ++ rest) a w
 | [], os, k, w, clock, es, hos, hb, hE, _, hK => by
   cases os with
   | nil => exact hK es clock w hb (by simpa using hE) (am.refl _ _)
   | cons o os => simp at hos
 | p :: l, os, k, w, clock, es, hos, hb, hE, hf, hK => by
   cases os with
   | nil => simp at hos
   | cons o os =>
     simp only [List.map_cons, List.cons.injEq, Prod.mk.injEq] at hos; obtain ⟨⟨h1, h2, h3⟩, h4⟩ := hos; simp only [gx, Bool.and_eq_true] at hf; refine ie w h1 m _ _ t et (.inr h3) ht r clock es hm p.1 rfl p.2 rfl k hb hE hf.1 ?_; intro es' w' g1 g2 g3; have hp : a.put o.dst undef = a := by rw [h2]; rfl
     rw [hp]; refine gC m t et ht r hm l os (k ++ [p]) w' _ es' h4 g1 g2 hf.2 ?_; intro es2 c2 w2 k1 k2 k3; exact hK es2 c2 w2 k1 (by simpa using k2) (g3.trans k3 (fun x hx => .inl hx))
theorem fE {ops : Array Oper} {L : List Oper} {a : Act} {Q : Exit → Act → World → Prop} (n : Nat) (m : Operand) (t et : TypeId) (ht : Tryz.prog.underlying t = some (.map 9 et)) (r : Nat) (hm : a.eval m = .map (some r)) (l : List (ByteArray × Value)) (k : List (ByteArray × Value)) (w : World) (clock : Nat) (es : Array MapEntry) (hos : (L.take n).map (fun o => (o.guard, o.dst, o.op)) = l.map (fun p => (none, none, Op.insert t m (.const (.string p.1)) (.const p.2)))) (hb : w.heap[r]? = some (.map es clock)) (hE : ei k es.toList) (hf : gx k l = true)
 (hK : ∀ (es' : Array MapEntry) (c' : Nat) (w' : World), w'.heap[r]? = some (.map es' c') → ei (k ++ l) es'.toList → am (fun k => k = r) w w' → wpList Tryz.prog ops Q (L.drop n) a w') : wpList Tryz.prog ops Q L a w := by
 rw [← List.take_append_drop n L]; exact gC m t et ht r hm l (L.take n) k w clock es hos hb hE hf hK
theorem ru (w : World) (a b c : Obj) : (((w.alloc a).alloc b).alloc c).heap[w.heap.size]? = some a := by
 show (((w.heap.push a).push b).push c)[w.heap.size]? = _; rw [Array.getElem?_push, if_neg (by simp; omega), Array.getElem?_push, if_neg (by simp), Array.getElem?_push, if_pos rfl]
theorem kX (w : World) (a b c : Obj) : (((w.alloc a).alloc b).alloc c).heap[w.heap.size + 1]? = some b := by
 show (((w.heap.push a).push b).push c)[w.heap.size + 1]? = _; rw [Array.getElem?_push, if_neg (by simp), Array.getElem?_push, if_pos (by simp)]
theorem kY (w : World) (a b c : Obj) : (((w.alloc a).alloc b).alloc c).heap[w.heap.size + 1 + 1]? = some c := by
 show (((w.heap.push a).push b).push c)[w.heap.size + 1 + 1]? = _; rw [Array.getElem?_push, if_pos (by simp)]
structure lf (w : World) : Prop where
 tab : Lib.TabIs Tryz.prog w "strings.asciiSpace" .u8 Lib.asciiSpaceTab
 types : ∃ b o c, w.heap[2]? = some (.cells #[.slice (some ⟨b, o, none⟩) 10 c] 53 (0, 0)) ∧ 10 ≤ c ∧ c ≤ 1000 ∧ b < w.heap.size ∧ ∀ j, j < 9 → w.cell? ⟨b, o + 1 + j, none⟩ = some (.string (cz.getD j default))
 shows : ∃ b o c, w.heap[3]? = some (.cells #[.slice (some ⟨b, o, none⟩) 4 c] 53 (0, 0)) ∧ 4 ≤ c ∧ c ≤ 1000 ∧ b < w.heap.size ∧ ∀ j, j < 3 → w.cell? ⟨b, o + 1 + j, none⟩ = some (.string (cJ.getD j default))
 levels : ∃ cs, w.heap[5]? = some (.cells cs 195 (0, 0)) ∧ ∀ k, k < 10 → ∃ b o c, cs[2 * k]? = some (.slice (some ⟨b, o, none⟩) (az k).length c) ∧ cs[2 * k + 1]? = some (.int .i64 (ef k)) ∧ (az k).length ≤ c ∧ c ≤ 1000 ∧ b < w.heap.size ∧ ∀ j, j < (az k).length → w.cell? ⟨b, o + j, none⟩ = some (.string ((az k).getD j default))
 size : 6 ≤ w.heap.size
def fC (l : List ay) (w : World) (r : R Int) (e : Ending) (w' : World) : Prop :=
 match r with
 | .ok _ s' => ∃ (E : aN) (v : Value) (T : List mz), E.L = l ∧ w.heap.size ≤ E.B ∧ e = .returned (.tuple #[v, .int .i64 0, .int .i64 0]) ∧ T.map mz.nd = s'.tree ∧ Ow w' E.B 39 6 E.encN v T ∧ (∀ t ∈ T, Ow w' E.B 3 1 bC t.kv t.nd.kids) ∧ s'.tree.length ≤ 16384 ∧ Below w.heap.size w w'
 | .err c p => e = .returned (.tuple #[.slice none 0 0, .int .i64 c, .int .i64 (l.getD p default).at1]) ∧ Below w.heap.size w w'
 | .stuck => False
theorem qx {w : World} {B : Nat} {v : Value} {l : List ay} (h : Ow w B 31 5 ay.enc v l) (h0 : 0 < l.length) : ∃ (cur : Array Value) (cap tb : Nat), v = .slice (some ⟨tb, 0, none⟩) l.length cap ∧ (w.heap[tb]? = some (.cells cur 31 (0, 0)) ∧ (∀ i, i < l.length → ∀ j, j < 5 → w.cell? ⟨tb, i * 5 + j, none⟩ = some ((l.getD i default).enc j)) ∧ B ≤ tb) ∧ l.length ≤ cap ∧ cap ≤ 9223372036854775807 := by
 rcases h.2 with ⟨rfl, h1⟩ | ⟨g, cap, cur, rfl, hb, hh, h1, h2, h3, h4⟩
 · omega
 · obtain ⟨a, c, e, _, hc⟩ := aV (ek h); injection e with e1 e2 e3; subst e1; obtain ⟨b, o, e, hlt, hc⟩ := hc.out h0; injection e with e; injection e with e1 e2 e3; subst e1; subst e2; exact ⟨cur, cap, g, rfl, ⟨hh, fun i hi j hj => by simpa using hc i hi j hj, hb⟩, h1, h2⟩
theorem jC {w w' : World} (h : Lib.TabIs Tryz.prog w "strings.asciiSpace" .u8 Lib.asciiSpaceTab) (hb : Below w.heap.size w w') : Lib.TabIs Tryz.prog w' "strings.asciiSpace" .u8 Lib.asciiSpaceTab := by
 unfold Lib.TabIs World.var? at h ⊢; rw [show Tryz.prog.globalNamed "strings.asciiSpace" = some 0 by kernel_rfl] at h ⊢; simp only [Option.bind_some] at h ⊢; have hlt : 0 < w.heap.size := by
  rcases Nat.lt_or_ge 0 w.heap.size with h' | h'
  · exact h'
  · rw [Array.getElem?_eq_none h'] at h; cases h
 rw [hb.block 0 hlt]; exact h
def qt : List UInt8 := [97,99,116,105,118,101,32,97,115,115,101,114,116,32,97,116,111,109,105,99,32,98,105,116,32,98,111,111,108,32,98,114,101,97,107,32,98,121,116,101,32,99,104,97,110,32,100,95,115,116,101,112,32,100,111,32,101,108,115,101,32,101,109,112,116,121,32,101,110,97,98,108,101,100,32,101,118,97,108,32,102,97,108,115,101,32,102,105,32,102,111,114,32,102,117,108,108,32,103,111,116,111,32,104,105,100,100,101,110,32,105,102,32,105,110,32,105,110,105,116,32,105,110,108,105,110,101,32,105,110,116,32,108,101,110,32,108,111,99,97,108,32,109,116,121,112,101,32,110,101,109,112,116,121,32,110,101,118,101,114,32,110,102,117,108,108,32,110,112,95,32,111,100,32,111,102,32,112,99,95,118,97,108,117,101,32,112,105,100,32,112,114,105,110,116,102,32,112,114,105,110,116,109,32,112,114,105,111,114,105,116,121,32,112,114,111,99,116,121,112,101,32,112,114,111,118,105,100,101,100,32,114,117,110,32,115,101,108,101,99,116,32,115,104,111,114,116,32,115,104,111,119,32,115,107,105,112,32,116,105,109,101,111,117,116,32,116,114,117,101,32,116,121,112,101,100,101,102,32,117,110,108,101,115,115,32,117,110,115,105,103,110,101,100,32,120,114,32,120,115,32,95,32,95,108,97,115,116,32,95,110,114,95,112,114,32,95,112,105,100]
theorem pj : ∀ b ∈ qt, b.toNat < 128 := by decide +kernel
theorem iR : (Lib.fields qt).map (fun l => (⟨l.toArray⟩ : ByteArray)) = bE := by decide +kernel
set_option maxRecDepth 20000 in
theorem nN (t : ByteArray) (w : World) (ht : t.data.toList = qt) (htab : Lib.TabIs Tryz.prog w "strings.asciiSpace" .u8 Lib.asciiSpaceTab) : Calls Tryz.prog 20 #[.string t] w fun e w' => e = .returned (.slice (some ⟨w.heap.size, 0, none⟩) 57 57) ∧ w' = w.alloc (.cells (bE.map Value.string).toArray 9) := by
 have h := Tryz.strings_Fields t w (by show t.data.toList.length < _; rw [ht]; decide) (fun j b hj => pj b (by rw [ht] at hj; exact List.mem_of_getElem? hj)) htab; rw [ht] at h; have e1 : (Lib.fields qt).length = 57 := by
  have := congrArg List.length iR; rw [List.length_map] at this; exact this.trans (by decide +kernel)
 have e2 : ((Lib.fields qt).map fun l => Value.string ⟨l.toArray⟩) = bE.map Value.string := by
  rw [← iR, List.map_map]; rfl
 rw [e1, e2] at h; exact h
theorem ew (w : World) (o : Obj) : (w.alloc o).heap[w.heap.size]? = some o := by
 show (w.heap.push _)[w.heap.size]? = _; rw [Array.getElem?_push, if_pos rfl]
theorem l5 (w : World) (o : Obj) {k : Nat} (h : k < w.heap.size) : (w.alloc o).heap[k]? = w.heap[k]? := Below.heap_alloc _ _ _ h
def lX (l : List (ByteArray × Int)) : List (ByteArray × Value) := l.map fun p => (p.1, .int .i64 p.2)
theorem nE : gx [] (lX fW) = true := by decide +kernel
theorem oe : gx [] (lX eJ) = true := by decide +kernel
def sN (l : List ByteArray) : List (ByteArray × Value) := l.map fun a => (a, .bool true)
theorem ll : ∀ k, k < 57 → (mA (bE.getD k default) (sN (bE.take k))).isNone = true := by decide +kernel
theorem mE (k : Nat) (hk : k < 57) : sN (bE.take k) ++ [(bE.getD k default, .bool true)] = sN (bE.take (k + 1)) := by
 unfold sN; rw [List.take_add_one, List.map_append]
 congr 1
 have : bE.length = 57 := by decide +kernel
 simp [List.getD_eq_getElem?_getD, show k < bE.length by omega]
theorem lf.keep {w w' : World} (h : lf w) (hb : Below w.heap.size w w') : lf w' := by
 have hs := h.size; have hz := hb.size; refine ⟨jC h.tab hb, ?_, ?_, ?_, by omega⟩
 · obtain ⟨b, o, c, h1, h2, h3, h4, h5⟩ := h.types; exact ⟨b, o, c, (hb.block 2 (by omega)).trans h1, h2, h3, by omega, fun j hj => (hb.cell (p := ⟨b, o + 1 + j, none⟩) h4).trans (h5 j hj)⟩
 · obtain ⟨b, o, c, h1, h2, h3, h4, h5⟩ := h.shows; exact ⟨b, o, c, (hb.block 3 (by omega)).trans h1, h2, h3, by omega, fun j hj => (hb.cell (p := ⟨b, o + 1 + j, none⟩) h4).trans (h5 j hj)⟩
 · obtain ⟨cs, h1, h2⟩ := h.levels; refine ⟨cs, (hb.block 5 (by omega)).trans h1, fun k hk => ?_⟩; obtain ⟨b, o, c, a1, a2, a3, a4, a5, a6⟩ := h2 k hk; exact ⟨b, o, c, a1, a2, a3, a4, by omega, fun j hj => (hb.cell (p := ⟨b, o + j, none⟩) a5).trans (a6 j hj)⟩
theorem oU : bE.take 57 = bE := by decide +kernel
theorem qZ {E : aN} {b : Bd} {tv : TV} {W w1 : World} {R : R Int} {c a : Int} (hh : d6 E b tv W (VI ap) R (bi c a) w1) : ∃ p tv', R = .err c p ∧ a = (E.tk p).at1 ∧ cH E b tv W tv' w1 := by
 cases R with
 | ok x s =>
   obtain ⟨v, tv', e, _⟩ := hh; unfold bi at e; cases e
 | err c' p =>
   obtain ⟨tv', e, hf⟩ := hh; have e1 : c = c' ∧ a = (E.tk p).at1 := by unfold bi at e; simpa using e
   obtain ⟨rfl, e2⟩ := e1; exact ⟨p, tv', rfl, e2, hf⟩
 | stuck => exact hh.elim
theorem aE.iten {α γ : Type} {E : aN} {b : Bd} {V : α → Value → TV → World → Prop} {PP : Ending → World → Prop} {s s1 : St} {tv : TV} {w : World} {c : Prop} [Decidable c] {p q : Pm γ} {g : γ → Pm α} (h : aE E b V PP s tv w (((if c then p else q : Pm γ) >>= g) s1)) (hc : c) : aE E b V PP s tv w ((p >>= g) s1) := by rw [if_pos hc] at h; exact h
theorem aE.ifen {α γ : Type} {E : aN} {b : Bd} {V : α → Value → TV → World → Prop} {PP : Ending → World → Prop} {s s1 : St} {tv : TV} {w : World} {c : Prop} [Decidable c] {p q : Pm γ} {g : γ → Pm α} (h : aE E b V PP s tv w (((if c then p else q : Pm γ) >>= g) s1)) (hc : ¬ c) : aE E b V PP s tv w ((q >>= g) s1) := by rw [if_neg hc] at h; exact h
theorem qF {K : List KT} {n d : Nat} {r : cT} {s0 s : St} (hE : aM K) (H : bs K n r) (L : Lt K d s0 s) (hn : 20 * (K.length - s.i) ≤ n) : ak (modul K r) s (hZ K (d + 1) s0) := lT hE H L hn fun _ _ h1 h2 => ⟨h1, h2⟩
theorem q9 {l : List ay} {i : Nat} (h : i < l.length) : (l.map ay.kt).getD i default = (l.getD i default).kt := by
 simp [List.getD_eq_getElem?_getD, h]
theorem sy {l : List ay} (h : bG l = true) : aM (l.map ay.kt) := by
 unfold bG at h; obtain ⟨h0, h⟩ := of_decide_eq_true h; have hlen : (l.map ay.kt).length = l.length := by simp
 have htk : ∀ i, i < l.length → (tok (l.map ay.kt) i).kind = (l.getD i default).kind := fun i hi => by
  unfold tok; rw [q9 hi]; rfl
 refine ⟨by omega, ?_, fun i hi => ?_⟩
 · rw [hlen, htk _ (by omega)]; exact (h _ (by omega)).2 (by omega)
 · rw [htk _ (by omega)]; intro h1; have := (h _ (by omega)).1 h1; omega
theorem rb (w W : World) (l : List ay) (tb pb mb kb ab cap : Nat) (cur : Array Value) (es1 es2 es3 : Array MapEntry) (c1 c2 c3 : Nat) (h0 : 0 < l.length) (hl : l.length ≤ 1000000) (hsz : ∀ t ∈ l, t.text.size ≤ 1000000) (G : lf w) (hr : bG l = true)
 (hp : W.heap[pb]? = some (.cells #[.slice (some ⟨tb, 0, none⟩) l.length cap, .slice none 0 0, .map (some mb), .map (some kb), .map (some ab), .int .i64 0, .bool false] 52 (0, 0)))
 (ht : W.heap[tb]? = some (.cells cur 31 (0, 0))) (htc : ∀ i, i < l.length → ∀ j, j < 5 → W.cell? ⟨tb, i * 5 + j, none⟩ = some ((l.getD i default).enc j)) (hcap : l.length ≤ cap) (hm : W.heap[mb]? = some (.map es1 c1)) (hk : W.heap[kb]? = some (.map es2 c2)) (ha : W.heap[ab]? = some (.map es3 c3))
 (e1 : ei (sN bE) es1.toList) (e2 : ei (lX fW) es2.toList) (e3 : ei (lX eJ) es3.toList) (hlow : Below w.heap.size w W) (bp : w.heap.size ≤ pb) (nt : tb ≠ pb) (nm : mb ≠ pb) (nk : kb ≠ pb) (na : ab ≠ pb) :
 ax ⟨l, pb, tb, cap, mb, kb, ab, w.heap.size, .cells cur 31 (0, 0), .map es1 c1, .map es2 c2, .map es3 c3, w⟩ ∧ PI ⟨l, pb, tb, cap, mb, kb, ab, w.heap.size, .cells cur 31 (0, 0), .map es1 c1, .map es2 c2, .map es3 c3, w⟩ ⟨0, [], 0, false⟩ ⟨.slice none 0 0, fun _ => False⟩ W := by
 refine ⟨⟨?_, hcap, by show l.length ≤ 1000000000; omega, sy hr, ⟨_, rfl⟩, ⟨_, _, rfl⟩, ⟨_, _, rfl⟩, ⟨_, _, rfl⟩, hsz, G.types, G.shows, G.levels, G.size, nt, nm, nk, na, bp, ?_, ?_, ?_⟩, ?_⟩
 · intro w2 h2 i hi j hj; exact (World.cell?_of_block (a := ⟨tb, i * 5 + j, none⟩) (h2.trans ht.symm)).trans (htc i hi j hj)
 · intro w2 t h2; rw [qO w2 mb c1 es1 (sN bE) t h2 e1]; exact congrArg (fun v => Result.ok v w2) (jS t bE)
 · intro w2 t h2; rw [lV w2 kb c2 es2 (lX fW) t h2 e2]; exact congrArg (fun v => Result.ok v w2) (iP t fW)
 · intro w2 t h2; rw [lV w2 ab c3 es3 (lX eJ) t h2 e3]; exact congrArg (fun v => Result.ok v w2) (iP t eJ)
 · refine ⟨?_, ht, hm, hk, ha, ⟨[], rfl, gp _ _ _ _ _, fun t ht => by simp at ht⟩, h0, Int.le_refl _, by decide, by decide, hlow, hlow.size, fun g hg => hg.elim⟩; rw [hp]; unfold aN.row; simp
def nS (a b c : Nat) : List Deferred := [{ target := .fn (.func 18) #[.pointer (some ⟨a, 0, none⟩), .pointer (some ⟨b, 0, none⟩), .pointer (some ⟨c, 0, none⟩)], args := #[] }]
theorem nD (w w1 : World) (l : List ay) (T : Array Value) (c a : Int) (p : Nat) (R : R Int) (hR : R = .err c p) (ha : a = (l.getD p default).at1) (q0 q1 q2 : Nat) (h2 : T.getD 2 undef = .pointer (some ⟨q0, 0, none⟩)) (h3 : T.getD 3 undef = .pointer (some ⟨q1, 0, none⟩)) (h4 : T.getD 4 undef = .pointer (some ⟨q2, 0, none⟩))
 (r0 : w1.heap[q0]? = some (.cells #[.slice none 0 0] 27 (0, 0))) (r1 : w1.heap[q1]? = some (.cells #[.int .i64 0] 23 (0, 0))) (r2 : w1.heap[q2]? = some (.cells #[.int .i64 0] 3 (0, 0))) (n01 : q0 ≠ q1) (n02 : q0 ≠ q2) (n12 : q1 ≠ q2) (b0 : w.heap.size ≤ q0) (b1 : w.heap.size ≤ q1) (b2 : w.heap.size ≤ q2) (hlow : Below w.heap.size w w1) :
 bodyPostD Tryz.prog Tryz.f7 (fC l w R) (.panic [{ v := .iface 45 (.agg #[.int .i64 c, .int .i64 a]), recovered := false }]) { tmps := T, defers := nS q0 q1 q2 } w1 := by
 unfold bodyPostD nS; refine leaves_cons (f := 18) (args := #[.pointer (some ⟨q0, 0, none⟩), .pointer (some ⟨q1, 0, none⟩), .pointer (some ⟨q2, 0, none⟩)]) (by simp) (by simp [go_sem]) ?_; refine (nY q0 q1 q2 c a _ _ _ _ _ _ w1 r0 r1 r2 n01 n02 n12).mono ?_; rintro e u' w'' ⟨rfl, rfl, g0, g1, g2, ho⟩; have k0 : w''.cell? ⟨q0, 0, none⟩ = some (.slice none 0 0) := (cell_of_row w'' _ 0 _ _ _ g0).trans rfl; have k1 : w''.cell? ⟨q1, 0, none⟩ = some (.int .i64 c) := (cell_of_row w'' _ 0 _ _ _ g1).trans rfl; have k2 : w''.cell? ⟨q2, 0, none⟩ = some (.int .i64 a) := (cell_of_row w'' _ 0 _ _ _ g2).trans rfl; have hb : Below w.heap.size w w'' := hlow.trans (ho.below hlow.size (fun k hk => by rcases hk with rfl | rfl | rfl <;> assumption)); simp only [Array.getD_eq_getD_getElem?] at h2 h3 h4; simp [Leaves, settle, results, Tryz.results7, go_sem, k0, k1, k2, h2, h3, h4]; rw [hR]; exact ⟨by rw [ha], hb⟩
def Q4 (PP : Ending → World → Prop) (q0 q1 q2 : Nat) (Q : Exit → Act → World → Prop) : Exit → Act → World → Prop
 | .panic c, a, w => (a.tmps.getD 2 undef = .pointer (some ⟨q0, 0, none⟩) ∧ a.tmps.getD 3 undef = .pointer (some ⟨q1, 0, none⟩) ∧ a.tmps.getD 4 undef = .pointer (some ⟨q2, 0, none⟩) ∧ a.defers = nS q0 q1 q2) ∧ ∃ k x, c = [{ v := .iface 45 (.agg #[.int .i64 k, .int .i64 x]), recovered := false }] ∧ PP (bi k x) w
 | e, a, w => Q e a w
theorem eA {PP : Ending → World → Prop} {q0 q1 q2 : Nat} {Q : Exit → Act → World → Prop} {c : List PanicEntry} {a : Act} {w : World} {k : Nat} {v : Value} (hk : 5 ≤ k) (h : Q4 PP q0 q1 q2 Q (.panic c) (a.put (some k) v) w) : Q4 PP q0 q1 q2 Q (.panic c) a w := by
 obtain ⟨⟨h2, h3, h4, h5⟩, h6⟩ := h; refine ⟨⟨?_, ?_, ?_, h5⟩, h6⟩
 · rw [← h2]; show _ = (a.tmps.setIfInBounds k v).getD 2 undef; rw [Array.getD_eq_getD_getElem?, Array.getD_eq_getD_getElem?, Array.getElem?_setIfInBounds_ne (by omega)]
 · rw [← h3]; show _ = (a.tmps.setIfInBounds k v).getD 3 undef; rw [Array.getD_eq_getD_getElem?, Array.getD_eq_getD_getElem?, Array.getElem?_setIfInBounds_ne (by omega)]
 · rw [← h4]; show _ = (a.tmps.setIfInBounds k v).getD 4 undef; rw [Array.getD_eq_getD_getElem?, Array.getD_eq_getD_getElem?, Array.getElem?_setIfInBounds_ne (by omega)]
theorem jH {PP : Ending → World → Prop} {q0 q1 q2 : Nat} {Q : Exit → Act → World → Prop} {a : Act} {w : World} (h : Q .normal a w) : Q4 PP q0 q1 q2 Q .normal a w := h
theorem sQ {P : Program} {c : Code} {PP : Ending → World → Prop} {q0 q1 q2 : Nat} {Q : Exit → Act → World → Prop} {a : Act} {w : World} (h : c.wp P (Q4 PP q0 q1 q2 Q) a w) (hQ : ∀ (T : Array Value) (k x : Int) (w1 : World), T.getD 2 undef = .pointer (some ⟨q0, 0, none⟩) → T.getD 3 undef = .pointer (some ⟨q1, 0, none⟩) → T.getD 4 undef = .pointer (some ⟨q2, 0, none⟩) → PP (bi k x) w1 → Q (.panic [{ v := .iface 45 (.agg #[.int .i64 k, .int .i64 x]), recovered := false }]) { tmps := T, defers := nS q0 q1 q2 } w1) : c.wp P Q a w :=
 wp_mono h fun e a w h => by
  cases e with
  | panic c =>
    obtain ⟨⟨h2, h3, h4, h5⟩, k, x, rfl, h7⟩ := h; obtain ⟨T, ds⟩ := a; simp only at h5; subst h5; exact hQ T k x w h2 h3 h4 h7
  | normal => exact h
  | exit id => exact h
  | goto l => exact h
  | ret => exact h
  | outgrown => exact h
theorem q7 {E : aN} {b : Bd} {tv : TV} {W w1 : World} {R : R Int} {v : Value} (hh : d6 E b tv W (VI ap) R (.returned v) w1) : ∃ x s' tv', R = .ok x s' ∧ PI E s' tv' w1 ∧ cH E b tv W tv' w1 := by
 cases R with
 | ok x s =>
   obtain ⟨v, tv', e, _, h1, h2⟩ := hh; exact ⟨x, s, tv', rfl, h1, h2⟩
 | err c' p =>
   obtain ⟨tv', e, hf⟩ := hh; unfold bi at e; cases e
 | stuck => exact hh.elim
theorem ni {w w1 w3 : World} {E : aN} {tv : TV} {l : List ay} {R : R Int} {x : Int} {s : St} {q0 q1 q2 : Nat} (hR : R = .ok x s) (hPI : PI E s tv w1) (hL : E.L = l) (hB : w.heap.size ≤ E.B) (h0 : q0 < E.B) (h1 : q1 < E.B) (h2 : q2 < E.B) (ho : am (fun k => k = q0 ∨ k = q1 ∨ k = q2) w1 w3) (hlow : Below w.heap.size w w3) : fC l w R (.returned (.tuple #[tv.v, .int .i64 0, .int .i64 0])) w3 := by
 subst hR; obtain ⟨T, a1, a2, a3⟩ := hPI.tree; have hno : ∀ g, E.B ≤ g → ¬ (g = q0 ∨ g = q1 ∨ g = q2) := fun g hg => by omega
 exact ⟨E, tv.v, T, hL, hB, rfl, a1, bS a2 ho (fun g hg hS => hno g (a2.lt g hg).1 hS), fun t ht => bS (a3 t ht).1 ho (fun g hg hS => hno g ((a3 t ht).1.lt g hg).1 hS), hPI.len, hlow⟩
theorem qU {w w3 : World} {l : List ay} {R : R Int} {T : Array Value} {v : Value} {q0 q1 q2 : Nat} (h2 : T.getD 2 undef = .pointer (some ⟨q0, 0, none⟩)) (h3 : T.getD 3 undef = .pointer (some ⟨q1, 0, none⟩)) (h4 : T.getD 4 undef = .pointer (some ⟨q2, 0, none⟩)) (k0 : w3.cell? ⟨q0, 0, none⟩ = some v) (k1 : w3.cell? ⟨q1, 0, none⟩ = some (.int .i64 0)) (k2 : w3.cell? ⟨q2, 0, none⟩ = some (.int .i64 0)) (h : fC l w R (.returned (.tuple #[v, .int .i64 0, .int .i64 0])) w3) : Leaves Tryz.prog Tryz.f7 T (fC l w R) (nS q0 q1 q2) .returning w3 := by
 unfold nS; refine leaves_cons (f := 18) (args := #[.pointer (some ⟨q0, 0, none⟩), .pointer (some ⟨q1, 0, none⟩), .pointer (some ⟨q2, 0, none⟩)]) (by simp) (by simp [go_sem]) ?_; refine (eG _ _ _ _).mono ?_; rintro e u' w'' ⟨rfl, rfl, rfl⟩; simp only [Array.getD_eq_getD_getElem?] at h2 h3 h4; simp [Leaves, settle, results, Tryz.results7, go_sem, k0, k1, k2, h2, h3, h4]; exact h
end Go.Proofs.YthkebhjaaikopaaGreatDoor
