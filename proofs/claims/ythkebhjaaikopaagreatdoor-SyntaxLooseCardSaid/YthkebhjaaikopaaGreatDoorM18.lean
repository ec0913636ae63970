/- Part of the proof of SyntaxLooseCardSaid (KA KB). -/
import Derived.Test.YthkebhjaaikopaaGreatDoorM01
import Derived.Deep.AppendLies
set_option maxHeartbeats 8000000
namespace Go.Proofs.YthkebhjaaikopaaGreatDoor
open Go.ChangeShapes Go.WideShapes Go.ChangeAt Go.RowKit Go.Deep Go.Joins Go.Instr
inductive Rl
 | tok | mac | cond | str | row | work
def Rl.sz : Rl → Nat
 | .tok => 5 | .mac => 4 | .cond => 4 | .str => 1 | .row => 1 | .work => 7
def Rl.el : Rl → TypeId
 | .tok => 31 | .mac => 116 | .cond => 110 | .str => 9 | .row => 22 | .work => 73
theorem Rl.pos (r : Rl) : 0 < r.sz := by cases r <;> decide
abbrev Gh := Nat → Option (Rl × Nat × Nat)
def Gh.le (a b : Gh) : Prop := ∀ k r m c, a k = some (r, m, c) → ∃ n, m ≤ n ∧ b k = some (r, n, c)
theorem Gh.le.refl (a : Gh) : a.le a := fun _ _ m _ h => ⟨m, Nat.le_refl _, h⟩
theorem Gh.le.trans {a b c : Gh} (h : a.le b) (k : b.le c) : a.le c := fun i r m cc hi => by
 obtain ⟨n, h1, h2⟩ := h i r m cc hi; obtain ⟨p, h3, h4⟩ := k i r n cc h2; exact ⟨p, Nat.le_trans h1 h3, h4⟩
theorem Gh.le.some {a b : Gh} (h : a.le b) {k : Nat} (hk : a k ≠ none) : b k ≠ none := by
 cases e : a k with
 | none => exact absurd e hk
 | some x =>
   obtain ⟨r, m, c⟩ := x; obtain ⟨n, _, h2⟩ := h k r m c e; rw [h2]; simp
def ci (Γ : Gh) (r : Rl) (v : Value) (n : Nat) : Prop := ∃ a cap, v = .slice a n cap ∧ n ≤ cap ∧ cap ≤ maxLen ∧ (0 < n → ∃ b off m c, a = some ⟨b, off * r.sz, none⟩ ∧ Γ b = some (r, m, c) ∧ off + n ≤ m)
def Rw (Γ : Gh) (r : Rl) (v : Value) (n : Nat) : Prop := (v = .slice none 0 0 ∧ n = 0) ∨ ∃ g cap m, v = .slice (some ⟨g, 0, none⟩) n cap ∧ Γ g = some (r, m, cap) ∧ n ≤ m ∧ n ≤ cap ∧ cap ≤ maxLen
theorem ci.le {a b : Gh} (h : a.le b) {r : Rl} {v : Value} {n : Nat} (hv : ci a r v n) : ci b r v n := by
 obtain ⟨ad, cap, h1, h2, h3, h4⟩ := hv; refine ⟨ad, cap, h1, h2, h3, fun hn => ?_⟩; obtain ⟨k, off, m, c, e1, e2, e3⟩ := h4 hn; obtain ⟨m', h5, h6⟩ := h k r m c e2; exact ⟨k, off, m', c, e1, h6, by omega⟩
theorem Rw.le {a b : Gh} (h : a.le b) {r : Rl} {v : Value} {n : Nat} (hv : Rw a r v n) : Rw b r v n := by
 rcases hv with hv | ⟨g, cap, m, h1, h2, h3, h4, h5⟩
 · exact .inl hv
 · obtain ⟨m', h6, h7⟩ := h g r m cap h2; exact .inr ⟨g, cap, m', h1, h7, by omega, h4, h5⟩
theorem Rw.view {a : Gh} {r : Rl} {v : Value} {n : Nat} (hv : Rw a r v n) : ci a r v n := by
 rcases hv with ⟨rfl, rfl⟩ | ⟨g, cap, m, h1, h2, h3, h4, h5⟩
 · exact ⟨none, 0, rfl, Nat.le_refl _, by decide, fun h => absurd h (by simp)⟩
 · exact ⟨_, cap, h1, h4, h5, fun _ => ⟨g, 0, m, cap, by simp, h2, by omega⟩⟩
theorem Rw.nil (Γ : Gh) (r : Rl) : Rw Γ r (.slice none 0 0) 0 := .inl ⟨rfl, rfl⟩
theorem Rw.slice {a : Gh} {r : Rl} {v : Value} {n : Nat} (hv : Rw a r v n) : ∃ ad cap, v = .slice ad n cap := by
 rcases hv with ⟨rfl, rfl⟩ | ⟨g, cap, m, h1, h2, h3, h4, h5⟩
 · exact ⟨_, _, rfl⟩
 · exact ⟨_, _, h1⟩
def dt (t : ay) : Prop := t.kind ≠ 0 ∧ t.text.size ≤ 1000000 ∧ dC t.at1 ∧ dC t.line ∧ dC t.n ∧ dC t.kind
def cG (Γ : Gh) : Rl → (Nat → Value) → Prop
 | .tok, f => ∃ t : ay, (∀ j, j < 5 → f j = t.enc j) ∧ dt t
 | .mac, f => ∃ s b n, f 0 = .string s ∧ f 1 = .bool b ∧ ci Γ .str (f 2) n ∧ n ≤ 8 ∧ (b = false → n = 0) ∧ ∃ k, ci Γ .tok (f 3) k ∧ k ≤ 1000000
 | .cond, f => ∀ j, j < 4 → ∃ b, f j = .bool b
 | .str, f => ∃ s, f 0 = .string s
 | .row, f => ∃ n, Rw Γ .tok (f 0) n ∧ n ≤ 2000000
 | .work, f => ∃ inl u e at1, f 0 = .bool inl ∧ (∃ n, Rw Γ .mac (f 1) n ∧ n ≤ 64) ∧ (∃ n, Rw Γ .cond (f 2) n ∧ n ≤ 16) ∧ f 3 = .int .i64 u ∧ dC u ∧ (∃ n, Rw Γ .tok (f 4) n ∧ n ≤ 8192) ∧ f 5 = .int .i64 e ∧ dC e ∧ f 6 = .int .i64 at1 ∧ dC at1
theorem cG.le {a b : Gh} (h : a.le b) {r : Rl} {f : Nat → Value} (hv : cG a r f) : cG b r f := by
 cases r with
 | tok => exact hv
 | mac =>
   obtain ⟨s, b, n, h1, h2, h3, h4, h5, k, h6, h7⟩ := hv; exact ⟨s, b, n, h1, h2, h3.le h, h4, h5, k, h6.le h, h7⟩
 | cond => exact hv
 | str => exact hv
 | row =>
   obtain ⟨n, h1, h2⟩ := hv; exact ⟨n, h1.le h, h2⟩
 | work =>
   obtain ⟨inl, u, e, at1, h0, ⟨n1, h1, k1⟩, ⟨n2, h2, k2⟩, h3, k3, ⟨n4, h4, k4⟩, h5⟩ := hv; exact ⟨inl, u, e, at1, h0, ⟨n1, h1.le h, k1⟩, ⟨n2, h2.le h, k2⟩, h3, k3, ⟨n4, h4.le h, k4⟩, h5⟩
theorem cG.congr {a : Gh} {r : Rl} {f g : Nat → Value} (hv : cG a r f) (h : ∀ j, j < r.sz → g j = f j) : cG a r g := by
 cases r with
 | tok =>
   obtain ⟨t, h1, h2⟩ := hv; exact ⟨t, fun j hj => (h j hj).trans (h1 j hj), h2⟩
 | mac => simp only [cG] at hv ⊢; rw [h 0 (by decide), h 1 (by decide), h 2 (by decide), h 3 (by decide)]; exact hv
 | cond => exact fun j hj => by rw [h j hj]; exact hv j hj
 | str => simp only [cG] at hv ⊢; rw [h 0 (by decide)]; exact hv
 | row => simp only [cG] at hv ⊢; rw [h 0 (by decide)]; exact hv
 | work => simp only [cG] at hv ⊢; rw [h 0 (by decide), h 1 (by decide), h 2 (by decide), h 3 (by decide), h 4 (by decide), h 5 (by decide), h 6 (by decide)]; exact hv
theorem ci.one {a : Gh} {r : Rl} {v : Value} {n : Nat} (hv : ci a r v n) : v.oneCell' = true := by
 obtain ⟨ad, cap, rfl, _⟩ := hv; rfl
theorem cG.one {a : Gh} {r : Rl} {f : Nat → Value} (hv : cG a r f) : ∀ j, j < r.sz → (f j).oneCell' = true := by
 intro j hj; cases r with
 | tok =>
   obtain ⟨t, h1, h2⟩ := hv; rw [h1 j hj]; unfold ay.enc
   split <;> rfl
 | mac =>
   obtain ⟨s, b, n, h1, h2, h3, h4, h5, k, h6, h7⟩ := hv
   match j, hj with
   | 0, _ => rw [h1]; rfl
   | 1, _ => rw [h2]; rfl
   | 2, _ => exact h3.one
   | 3, _ => exact h6.one
   | k + 4, hj => exact absurd hj (by simp [Rl.sz])
 | cond => obtain ⟨b, hb⟩ := hv j hj; rw [hb]; rfl
 | str =>
   obtain ⟨s, hb⟩ := hv
   match j, hj with
   | 0, _ => rw [hb]; rfl
   | k + 1, hj => exact absurd hj (by simp [Rl.sz])
 | row =>
   obtain ⟨s, hb, _⟩ := hv
   match j, hj with
   | 0, _ => exact hb.view.one
   | k + 1, hj => exact absurd hj (by simp [Rl.sz])
 | work =>
   obtain ⟨inl, u, e, at1, h0, ⟨n1, h1, k1⟩, ⟨n2, h2, k2⟩, h3, k3, ⟨n4, h4, k4⟩, h5, k5, h6, k6⟩ := hv
   match j, hj with
   | 0, _ => rw [h0]; rfl
   | 1, _ => exact h1.view.one
   | 2, _ => exact h2.view.one
   | 3, _ => rw [h3]; rfl
   | 4, _ => exact h4.view.one
   | 5, _ => rw [h5]; rfl
   | 6, _ => rw [h6]; rfl
   | k + 7, hj => exact absurd hj (by simp [Rl.sz])
def uI (Γ : Gh) (w : World) (k : Nat) (r : Rl) (m c : Nat) : Prop := ∃ cur, w.heap[k]? = some (.cells cur r.el (0, 0)) ∧ cur.size = c * r.sz ∧ m ≤ c ∧ c ≤ maxLen ∧ ∀ i, i < m → ∃ f, cG Γ r f ∧ ∀ j, j < r.sz → cur[i * r.sz + j]? = some (f j)
def aD (Γ : Gh) (w : World) : Prop := ∀ k r m c, Γ k = some (r, m, c) → uI Γ w k r m c
theorem aD.lt {Γ : Gh} {w : World} (h : aD Γ w) {k : Nat} (hk : Γ k ≠ none) : k < w.heap.size := by
 cases e : Γ k with
 | none => exact absurd e hk
 | some x =>
   obtain ⟨r, m, c⟩ := x; obtain ⟨cur, h1, _⟩ := h k r m c e; exact af h1
structure ai (Γ : Gh) (w : World) (Γ' : Gh) (w' : World) : Prop where
 le : Γ.le Γ'
 new : ∀ k, Γ' k ≠ none → Γ k ≠ none ∨ w.heap.size ≤ k
 outs : am (fun k => Γ k ≠ none) w w'
theorem ai.refl (Γ : Gh) (w : World) : ai Γ w Γ w := ⟨Gh.le.refl _, fun _ h => .inl h, am.refl _ _⟩
theorem ai.trans {a b c : Gh} {u v w : World} (h : ai a u b v) (k : ai b v c w) : ai a u c w :=
 ⟨h.le.trans k.le, fun i hi => by
  rcases k.new i hi with h1 | h1
  · exact h.new i h1
  · exact .inr (Nat.le_trans h.outs.size h1), h.outs.trans k.outs fun i hi => h.new i hi⟩
theorem ai.of_below {Γ : Gh} {w w' : World} (h : Below w.heap.size w w') : ai Γ w Γ w' := ⟨Gh.le.refl _, fun _ h => .inl h, am.of_below h⟩
theorem aD.below {Γ : Gh} {w w' : World} (h : aD Γ w) (hb : Below w.heap.size w w') : aD Γ w' := fun k r m c hk => by
 obtain ⟨cur, h1, h2⟩ := h k r m c hk; exact ⟨cur, (hb.block k (af h1)).trans h1, h2⟩
theorem aD.outs {Γ : Gh} {w w' : World} {S : Nat → Prop} (h : aD Γ w) (hb : am S w w') (hS : ∀ k, S k → Γ k = none) : aD Γ w' := fun k r m c hk => by
 obtain ⟨cur, h1, h2⟩ := h k r m c hk; exact ⟨cur, (hb.block k (af h1) (fun e => by rw [hS k e] at hk; cases hk)).trans h1, h2⟩
theorem ci.cells {Γ : Gh} {w : World} {r : Rl} {v : Value} {n : Nat} (hG : aD Γ w) (hv : ci Γ r v n) : ∃ a cap, v = .slice a n cap ∧ n ≤ cap ∧ cap ≤ maxLen ∧ (0 < n → ∃ b off, a = some ⟨b, off, none⟩ ∧ b < w.heap.size ∧ Γ b ≠ none ∧ ∀ i, i < n → ∃ f, cG Γ r f ∧ ∀ j, j < r.sz → w.cell? ⟨b, off + i * r.sz + j, none⟩ = some (f j)) := by
 obtain ⟨a, cap, h1, h2, h3, h4⟩ := hv; refine ⟨a, cap, h1, h2, h3, fun hn => ?_⟩; obtain ⟨b, off, m, c, e1, e2, e3⟩ := h4 hn; obtain ⟨cur, g1, g2, g3, g4, g5⟩ := hG b r m c e2; refine ⟨b, off * r.sz, e1, af g1, by rw [e2]; simp, fun i hi => ?_⟩; obtain ⟨f, k1, k2⟩ := g5 (off + i) (by omega); refine ⟨f, k1, fun j hj => ?_⟩; rw [cell_of_row w b _ cur _ _ g1, ← k2 j hj, Nat.add_mul]
theorem gJ {α : Type} [Inhabited α] (n : Nat) (Q : Nat → α → Prop) (h : ∀ i, i < n → ∃ x, Q i x) : ∃ l : List α, l.length = n ∧ ∀ i, i < n → Q i (l.getD i default) := by
 induction n with
 | zero => exact ⟨[], rfl, fun i hi => absurd hi (by omega)⟩
 | succ n ih =>
   obtain ⟨l, hl, hq⟩ := ih (fun i hi => h i (by omega)); obtain ⟨x, hx⟩ := h n (by omega); refine ⟨l ++ [x], by simp [hl], fun i hi => ?_⟩
   by_cases e : i < n
   · have := hq i e; simpa [List.getD_eq_getElem?_getD, List.getElem?_append, hl, e] using this
   · have : i = n := by omega
     subst this; simpa [List.getD_eq_getElem?_getD, List.getElem?_append, hl] using hx
theorem ci.toks {Γ : Gh} {w : World} {v : Value} {n : Nat} (hG : aD Γ w) (hv : ci Γ .tok v n) : ∃ l, Sl w 5 ay.enc v l ∧ l.length = n ∧ ∀ i, i < l.length → dt (l.getD i default) := by
 obtain ⟨a, cap, rfl, h2, h3, h4⟩ := hv.cells hG; rcases Nat.eq_zero_or_pos n with rfl | hn
 · exact ⟨[], ⟨a, cap, rfl, h2, h3, fun h => absurd h (by simp)⟩, rfl, fun i hi => absurd hi (by simp)⟩
 · obtain ⟨b, off, e1, e2, _, e3⟩ := h4 hn; obtain ⟨l, hl, hq⟩ := gJ n (fun i t => dt t ∧ ∀ j, j < 5 → w.cell? ⟨b, off + i * 5 + j, none⟩ = some (ay.enc t j)) fun i hi => by
    obtain ⟨f, ⟨t, k1, k2⟩, k3⟩ := e3 i hi; exact ⟨t, k2, fun j hj => (k3 j hj).trans (congrArg some (k1 j hj))⟩
   exact ⟨l, ⟨a, cap, by rw [hl], by omega, h3, fun _ => ⟨b, off, e1, e2, fun i hi j hj => (hq i (by omega)).2 j hj⟩⟩, hl, fun i hi => (hq i (by omega)).1⟩
theorem mD {Γ : Gh} {w : World} {b : Nat} (hG : aD Γ w) (hb : Γ b = some (.work, 1, 1)) : ∃ inl mv mn cv cn u ov on e at1, w.heap[b]? = some (.cells #[.bool inl, mv, cv, .int .i64 u, ov, .int .i64 e, .int .i64 at1] (Rl.el .work) (0, 0)) ∧ Rw Γ .mac mv mn ∧ mn ≤ 64 ∧ Rw Γ .cond cv cn ∧ cn ≤ 16 ∧ dC u ∧ Rw Γ .tok ov on ∧ on ≤ 8192 ∧ dC e ∧ dC at1 := by
 obtain ⟨cur, g1, g2, g3, g4, g5⟩ := hG b _ _ _ hb; obtain ⟨f, ⟨inl, u, e, at1, h0, ⟨n1, h1, k1⟩, ⟨n2, h2, k2⟩, h3, k3, ⟨n4, h4, k4⟩, h5, k5, h6, k6⟩, k7⟩ := g5 0 (by omega); refine ⟨inl, f 1, n1, f 2, n2, u, f 4, n4, e, at1, ?_, h1, k1, h2, k2, k3, h4, k4, k5, k6⟩; rw [g1, ← h0, ← h3, ← h5, ← h6]; have hs : cur.size = 7 := g2; have : cur = #[f 0, f 1, f 2, f 3, f 4, f 5, f 6] := by
  apply Array.ext
  · rw [hs]; rfl
  · intro i hi hi2; have h9 := k7 i (by rw [hs] at hi; exact hi); simp only [Nat.zero_mul, Nat.zero_add, Array.getElem?_eq_getElem hi] at h9; injection h9 with h9; rw [h9]; rw [hs] at hi
    match i, hi with
    | 0, _ => rfl
    | 1, _ => rfl
    | 2, _ => rfl
    | 3, _ => rfl
    | 4, _ => rfl
    | 5, _ => rfl
    | 6, _ => rfl
 rw [this]
def Gh.set (Γ : Gh) (g : Nat) (x : Rl × Nat × Nat) : Gh := fun k => if k = g then some x else Γ k
theorem Gh.set_same (Γ : Gh) (g : Nat) (x : Rl × Nat × Nat) : Γ.set g x g = some x := if_pos rfl
theorem Gh.set_ne (Γ : Gh) {g k : Nat} (x : Rl × Nat × Nat) (h : k ≠ g) : Γ.set g x k = Γ k := if_neg h
theorem Gh.set_le (Γ : Gh) {g : Nat} {r : Rl} {m c : Nat} (h : ∀ r' m' c', Γ g = some (r', m', c') → r' = r ∧ c' = c ∧ m' ≤ m) : Γ.le (Γ.set g (r, m, c)) := fun k r' m' c' hk => by
 by_cases e : k = g
 · subst e; obtain ⟨rfl, rfl, h3⟩ := h r' m' c' hk; exact ⟨m, h3, Gh.set_same _ _ _⟩
 · exact ⟨m', Nat.le_refl _, by rw [Gh.set_ne _ _ e]; exact hk⟩
def gO (Γ : Gh) (r : Rl) (w : World) (ad : Option Addr) (m : Nat) : Prop := 0 < m → ∃ b off, ad = some ⟨b, off, none⟩ ∧ ∀ i, i < m → ∃ f, cG Γ r f ∧ ∀ j, j < r.sz → w.cell? ⟨b, off + i * r.sz + j, none⟩ = some (f j)
theorem gz (b off j : Nat) : (⟨b, off, none⟩ : Addr).add j = ⟨b, off + j, none⟩ := by unfold Addr.add; split <;> simp_all
theorem nP {α : Type} [Inhabited α] (n : Nat) (Q : Nat → α → Prop) (h : ∀ i, i < n → ∃ x, Q i x) : ∃ f : Nat → α, ∀ i, i < n → Q i (f i) := by
 obtain ⟨l, _, hq⟩ := gJ n Q h; exact ⟨fun i => l.getD i default, hq⟩
theorem lz {k m sz : Nat} (hsz : 0 < sz) (h : k < m * sz) : k / sz < m ∧ k % sz < sz ∧ k / sz * sz + k % sz = k := by
 refine ⟨(Nat.div_lt_iff_lt_mul hsz).2 h, Nat.mod_lt _ hsz, ?_⟩; have := Nat.div_add_mod k sz; rw [Nat.mul_comm] at this; exact this
theorem d8 {i j n sz : Nat} (hi : i < n) (hj : j < sz) : i * sz + j < n * sz := by
 have h : (i + 1) * sz ≤ n * sz := Nat.mul_le_mul_right _ hi; rw [Nat.add_mul] at h; omega
def cX (sz m : Nat) (F : Nat → Nat → Value) : List Value := (List.range (m * sz)).map fun k => F (k / sz) (k % sz)
theorem jU (sz m : Nat) (F : Nat → Nat → Value) : (cX sz m F).length = m * sz := by simp [cX]
theorem eV {sz m : Nat} (F : Nat → Nat → Value) {i j : Nat} (hi : i < m) (hj : j < sz) : (cX sz m F)[i * sz + j]? = some (F i j) := by
 have h := d8 hi hj; unfold cX; rw [List.getElem?_map, List.getElem?_range h]; simp only [Option.map_some]; have h0 : 0 < sz := by omega
 rw [show (i * sz + j) / sz = i by rw [Nat.mul_comm, Nat.mul_add_div h0, Nat.div_eq_of_lt hj]; rfl, show (i * sz + j) % sz = j by rw [Nat.mul_comm, Nat.mul_add_mod, Nat.mod_eq_of_lt hj]]
theorem jT {sz m : Nat} (hsz : 0 < sz) (F : Nat → Nat → Value) {k : Nat} {u : Value} (h : (cX sz m F)[k]? = some u) : ∃ i j, i < m ∧ j < sz ∧ k = i * sz + j ∧ u = F i j := by
 have hk : k < m * sz := by
  have := (List.getElem?_eq_some_iff.1 h).1; rwa [jU] at this
 obtain ⟨h1, h2, h3⟩ := lz hsz hk; refine ⟨_, _, h1, h2, h3.symm, ?_⟩; rw [← h3, eV F h1 h2] at h; exact (Option.some.inj h).symm
theorem qo {Γ : Gh} {w : World} (hG : aD Γ w) {r : Rl} {t ty : TypeId} (hT : lh t r.el r.sz) {v : Value} {n m c : Nat} (hv : Rw Γ r v n) (ad : Addr) (hx : gO Γ r w (some ad) m) (hm : 0 < m) (hle : n + m ≤ 1000000000) :
 ∃ g cap w' Γ', (Builtin.append_ #[t, t] ty #[v, .slice (some ad) m c]).run Tryz.prog w = .ok (.slice (some ⟨g, 0, none⟩) (n + m) cap) w' ∧ aD Γ' w' ∧ ai Γ w Γ' w' ∧ Rw Γ' r (.slice (some ⟨g, 0, none⟩) (n + m) cap) (n + m) ∧ am (fun k => v.ownBlock = some k ∧ Γ k ≠ none) w w' ∧ g < w'.heap.size ∧ Γ' g ≠ none ∧ ∀ i j u, i < m → j < r.sz → w.cell? (ad.add (i * r.sz + j)) = some u → w'.cell? ⟨g, (n + i) * r.sz + j, none⟩ = some u := by
 obtain ⟨i, z, hi, hz, hs1, hz2, hby⟩ := hT.ex; have hsz := hT.pos; obtain ⟨b, off, e1, e2⟩ := hx hm; injection e1 with e1; subst e1
 haveI : Inhabited (Nat → Value) := ⟨fun _ => undef⟩
 obtain ⟨F, hF⟩ := nP m _ e2; have hl := jU r.sz m F; have hnews : ∀ j u, (cX r.sz m F)[j]? = some u → w.cell? ((⟨b, off, none⟩ : Addr).add j) = some u := fun j u hj => by
  obtain ⟨i1, j1, h1, h2, rfl, rfl⟩ := jT hsz F hj; rw [gz, ← Nat.add_assoc]; exact (hF i1 h1).2 j1 h2
 have h1 : ∀ u ∈ cX r.sz m F, u.oneCell' = true := fun u hu => by
  obtain ⟨k, hk⟩ := List.mem_iff_getElem?.1 hu; obtain ⟨i1, j1, k1, k2, _, rfl⟩ := jT hsz F hk; exact (hF i1 k1).1.one j1 k2
 have hFu : ∀ i1 j u, i1 < m → j < r.sz → w.cell? ((⟨b, off, none⟩ : Addr).add (i1 * r.sz + j)) = some u → u = F i1 j := fun i1 j u h2 h3 h4 => by
  have h5 := (hF i1 h2).2 j h3; rw [gz, ← Nat.add_assoc, h5] at h4; exact (Option.some.inj h4).symm
 have hl' : (cX r.sz m F).length = m * i.size := by rw [hl, hs1]
 have hbytes : (n + m) * i.bytes ≤ 140737488355328 := by
  have := Nat.mul_le_mul hle hby
  omega
 have hcap : ∀ old, grownCap w (n + m) old r.el ≤ maxLen := fun old => grownCap_le_maxLen w (n + m) old r.el (by unfold maxLen; omega)
 have hzc : ∀ q, (Builtin.zeroCells z.cells q).size = q * r.sz := fun q => by rw [size_zeroCells, hz2]
 have fresh : ∀ (olds : List Value) (old : Nat), olds.length = n * r.sz → (∀ i1, i1 < n → ∃ f, cG Γ r f ∧ ∀ j, j < r.sz → olds[i1 * r.sz + j]? = some (f j)) →
  aD (Γ.set w.heap.size (r, n + m, grownCap w (n + m) old r.el)) (w.drew.alloc (.cells (olds.toArray ++ (cX r.sz m F).toArray ++ Builtin.zeroCells z.cells (grownCap w (n + m) old r.el - (n + m))) r.el)) ∧
  ai Γ w (Γ.set w.heap.size (r, n + m, grownCap w (n + m) old r.el)) (w.drew.alloc (.cells (olds.toArray ++ (cX r.sz m F).toArray ++ Builtin.zeroCells z.cells (grownCap w (n + m) old r.el - (n + m))) r.el)) ∧
  Rw (Γ.set w.heap.size (r, n + m, grownCap w (n + m) old r.el)) r (.slice (some ⟨w.heap.size, 0, none⟩) (n + m) (grownCap w (n + m) old r.el)) (n + m) ∧
  ∀ i1 j u, i1 < m → j < r.sz → w.cell? ((⟨b, off, none⟩ : Addr).add (i1 * r.sz + j)) = some u → (w.drew.alloc (.cells (olds.toArray ++ (cX r.sz m F).toArray ++ Builtin.zeroCells z.cells (grownCap w (n + m) old r.el - (n + m))) r.el)).cell? ⟨w.heap.size, (n + i1) * r.sz + j, none⟩ = some u := by
  intro olds old hol hold; have hge := grownCap_ge w (n + m) old r.el; have key : ∀ k u, (olds ++ cX r.sz m F)[k]? = some u → (olds.toArray ++ (cX r.sz m F).toArray ++ Builtin.zeroCells z.cells (grownCap w (n + m) old r.el - (n + m)))[k]? = some u := fun k u hu => by
   rw [Array.getElem?_append_left]
   · simpa using hu
   · have := (List.getElem?_eq_some_iff.1 hu).1; simpa using this
  have hno : Γ w.heap.size = none := by
   cases e : Γ w.heap.size with
   | none => rfl
   | some x => exact absurd (hG.lt (k := w.heap.size) (by rw [e]; simp)) (by omega)
  have hle' : Γ.le (Γ.set w.heap.size (r, n + m, grownCap w (n + m) old r.el)) := Gh.set_le Γ fun r' m' c' h => by rw [hno] at h; cases h
  refine ⟨fun k r' m' c' hk => ?_, ⟨hle', fun k hk => ?_, ?_⟩, .inr ⟨_, _, n + m, rfl, Gh.set_same _ _ _, Nat.le_refl _, hge, hcap old⟩, fun i1 j u h1 h2 h3 => ?_⟩
  · by_cases e : k = w.heap.size
    · subst e; rw [Gh.set_same] at hk; injection hk with hk; injection hk with k1 hk; injection hk with k2 k3; subst k1 k2 k3; refine ⟨_, heap_alloc_new w.drew _, ?_, hge, hcap old, fun i1 h1 => ?_⟩
      · simp only [Array.size_append, List.size_toArray, hzc, hol, hl, ← Nat.add_mul]; rw [Nat.add_sub_of_le hge]
      · rcases Nat.lt_or_ge i1 n with h2 | h2
        · obtain ⟨f, k1, k2⟩ := hold i1 h2; refine ⟨f, k1.le hle', fun j hj => key _ _ ?_⟩; rw [List.getElem?_append_left (by rw [hol]; exact d8 h2 hj)]; exact k2 j hj
        · refine ⟨F (i1 - n), (hF (i1 - n) (by omega)).1.le hle', fun j hj => key _ _ ?_⟩; have h3 : i1 * r.sz + j = n * r.sz + ((i1 - n) * r.sz + j) := by
           rw [← Nat.add_assoc, ← Nat.add_mul, Nat.add_sub_of_le h2]
          rw [h3, List.getElem?_append_right (by rw [hol]; omega), hol, Nat.add_sub_cancel_left]; exact eV F (by omega) hj
    · rw [Gh.set_ne _ _ e] at hk; obtain ⟨cur, g1, g2, g3, g4, g5⟩ := hG k r' m' c' hk; refine ⟨cur, (heap_alloc_old w.drew _ (af g1)).trans g1, g2, g3, g4, fun i1 h1 => ?_⟩; obtain ⟨f, k1, k2⟩ := g5 i1 h1; exact ⟨f, k1.le hle', k2⟩
  · by_cases e : k = w.heap.size
    · exact .inr (by omega)
    · rw [Gh.set_ne _ _ e] at hk; exact .inl hk
  · exact am.of_below ((br.drew).alloc (by simp) _)
  · refine (cell_of_row _ _ _ _ _ _ (heap_alloc_new w.drew _)).trans ?_; rw [hFu i1 j u h1 h2 h3]; refine key _ _ ?_; rw [Nat.add_mul, Nat.add_assoc, List.getElem?_append_right (by rw [hol]; omega), hol, Nat.add_sub_cancel_left]; exact eV F h1 h2
 rcases hv with ⟨rfl, rfl⟩ | ⟨g, cap, m0, rfl, hg, hnm, hnc, hcm⟩
 · have hr := run_append_nil (P := Tryz.prog) w t ty r.el i z hT.und hi hz ⟨b, off, none⟩ m c (cX r.sz m F) hl' hnews hm (by omega) (by have hb := hbytes; simp only [Nat.zero_add] at hb; omega); obtain ⟨k1, k2, k3, k4⟩ := fresh [] 0 (by simp) (fun i1 h => absurd h (by omega)); simp only [Nat.zero_add, Array.empty_append] at k1 k2 k3 k4 ⊢; exact ⟨_, _, _, _, hr, k1, k2, k3, am.of_below ((br.drew).alloc (by simp) _), by simp, by rw [Gh.set_same]; simp, k4⟩
 · obtain ⟨cur, g1, g2, g3, g4, g5⟩ := hG g r m0 cap hg; have hlen : cur.toList.length = cap * r.sz := by simp [g2]
   by_cases hroom : n + m ≤ cap
   · have hcapm : (n + m) * r.sz ≤ cap * r.sz := Nat.mul_le_mul_right _ hroom; have hfit : n * r.sz + m * r.sz ≤ cap * r.sz := by rw [← Nat.add_mul]; exact hcapm
     have hr := run_append_room (P := Tryz.prog) w t ty r.el i hT.und hi g n cap cur g1 ⟨b, off, none⟩ m c (cX r.sz m F) hl' hnews h1 hroom (by rw [hl, hs1, g2]; exact hfit); rw [hs1] at hr; have hle' : Γ.le (Γ.set g (r, max m0 (n + m), cap)) := Gh.set_le Γ fun r' m' c' h => by
      rw [hg] at h; injection h with h; injection h with k1 h; injection h with k2 k3; exact ⟨k1.symm, k3.symm, by omega⟩
     have hcells : ∀ q, (cur.toList.take (n * r.sz) ++ cX r.sz m F ++ cur.toList.drop (n * r.sz + (cX r.sz m F).length))[q]? = if q < n * r.sz then cur[q]? else if q < n * r.sz + m * r.sz then (cX r.sz m F)[q - n * r.sz]? else cur[q]? := fun q => by
      have ht : (cur.toList.take (n * r.sz)).length = n * r.sz := by rw [List.length_take, hlen]; omega
      by_cases h2 : q < n * r.sz
      · rw [if_pos h2, List.append_assoc, List.getElem?_append_left (by rw [ht]; exact h2), List.getElem?_take, if_pos h2]; simp
      · rw [if_neg h2]
        by_cases h3 : q < n * r.sz + m * r.sz
        · rw [if_pos h3, List.getElem?_append_left (by rw [List.length_append, ht, hl]; exact h3), List.getElem?_append_right (by rw [ht]; omega), ht]
        · rw [if_neg h3, List.getElem?_append_right (by rw [List.length_append, ht, hl]; omega), List.length_append, ht, hl, List.getElem?_drop]; have : n * r.sz + m * r.sz + (q - (n * r.sz + m * r.sz)) = q := by omega
          rw [this]; simp
     refine ⟨g, cap, _, Γ.set g (r, max m0 (n + m), cap), hr, fun k r' m' c' hk => ?_, ⟨hle', fun k hk => ?_, ?_⟩, .inr ⟨_, _, max m0 (n + m), rfl, Gh.set_same _ _ _, by omega, hroom, hcm⟩, ?_, ?_, by rw [Gh.set_same]; simp, fun i1 j u q1 q2 q3 => ?_⟩
     · by_cases e : k = g
       · subst e; rw [Gh.set_same] at hk; injection hk with hk; injection hk with k1 hk; injection hk with k2 k3; subst k1 k2 k3; refine ⟨_, setRow_heap w k cur _ r.el _ g1, ?_, by omega, hcm, fun i1 h1 => ?_⟩
         · simp only [List.size_toArray, List.length_append, List.length_take, List.length_drop, Array.length_toList, hl, g2]; omega
         · simp only [List.getElem?_toArray, hcells]
           by_cases h2 : i1 < n
           · obtain ⟨f, k1, k2⟩ := g5 i1 (by omega); refine ⟨f, k1.le hle', fun j hj => ?_⟩; rw [if_pos (d8 h2 hj)]; exact k2 j hj
           · have hge : n * r.sz ≤ i1 * r.sz := Nat.mul_le_mul_right _ (by omega)
             by_cases h3 : i1 < n + m
             · refine ⟨F (i1 - n), (hF (i1 - n) (by omega)).1.le hle', fun j hj => ?_⟩; have h4 := d8 h3 hj; rw [Nat.add_mul] at h4; rw [if_neg (by omega), if_pos h4]; have h5 : i1 * r.sz + j - n * r.sz = (i1 - n) * r.sz + j := by
                rw [Nat.sub_mul]; omega
               rw [h5]; exact eV F (by omega) hj
             · obtain ⟨f, k1, k2⟩ := g5 i1 (by omega); have h4 : (n + m) * r.sz ≤ i1 * r.sz := Nat.mul_le_mul_right _ (by omega); rw [Nat.add_mul] at h4; refine ⟨f, k1.le hle', fun j hj => ?_⟩; rw [if_neg (by omega), if_neg (by omega)]; exact k2 j hj
       · rw [Gh.set_ne _ _ e] at hk; obtain ⟨cur', k1, k2, k3, k4, k5⟩ := hG k r' m' c' hk; refine ⟨cur', (setRow_other w g k _ e).trans k1, k2, k3, k4, fun i1 h1 => ?_⟩; obtain ⟨f, k6, k7⟩ := k5 i1 h1; exact ⟨f, k6.le hle', k7⟩
     · by_cases e : k = g
       · subst e; exact .inl (by rw [hg]; simp)
       · rw [Gh.set_ne _ _ e] at hk; exact .inl hk
     · exact ⟨rfl, rfl, rfl, by simp, fun k _ hk => setRow_other w g k _ (fun e => hk (by rw [e, hg]; simp))⟩
     · exact ⟨rfl, rfl, rfl, by simp, fun k _ hk => setRow_other w g k _ (fun e => hk (by rw [e]; exact ⟨rfl, by rw [hg]; simp⟩))⟩
     · have := af g1; simpa using this
     · rw [cell_of_row _ _ _ _ _ _ (setRow_heap w g cur _ r.el _ g1), hFu i1 j u q1 q2 q3]; simp only [List.getElem?_toArray, hcells]; have h4 := d8 q1 q2; rw [if_neg (by rw [Nat.add_mul]; omega), if_pos (by rw [Nat.add_mul]; omega)]; have h5 : (n + i1) * r.sz + j - n * r.sz = i1 * r.sz + j := by
        rw [Nat.add_mul]; omega
       rw [h5]; exact eV F q1 q2
   · have hmul : n * r.sz ≤ cap * r.sz := Nat.mul_le_mul_right _ hnc; have hlo : (cur.toList.take (n * r.sz)).length = n * r.sz := by rw [List.length_take, hlen]; omega
     have holds : ∀ j u, (cur.toList.take (n * r.sz))[j]? = some u → w.cell? ((⟨g, 0, none⟩ : Addr).add j) = some u := fun j u hj => by
      rw [gz, Nat.zero_add, cell_of_row w g j cur _ _ g1]; rw [List.getElem?_take] at hj
      split at hj
      · simpa using hj
      · cases hj
     have hr := run_append_grow (P := Tryz.prog) w t ty r.el i z hT.und hi hz ⟨g, 0, none⟩ n cap _ (by rw [hlo, hs1]) holds ⟨b, off, none⟩ m c (cX r.sz m F) hl' hnews (by omega) (by omega) (growslice_fits (by omega) hbytes); obtain ⟨k1, k2, k3, k4⟩ := fresh (cur.toList.take (n * r.sz)) cap hlo (fun i1 h => by
      obtain ⟨f, q1, q2⟩ := g5 i1 (by omega); refine ⟨f, q1, fun j hj => ?_⟩; rw [List.getElem?_take, if_pos (d8 h hj)]; simpa using q2 j hj)
     exact ⟨_, _, _, _, hr, k1, k2, k3, am.of_below ((br.drew).alloc (by simp) _), by simp, by rw [Gh.set_same]; simp, k4⟩
end Go.Proofs.YthkebhjaaikopaaGreatDoor
