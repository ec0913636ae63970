/- Part of the proof of CompileForCardSaid. -/
import Derived.Test.YthhgndcpeeifeaaGreatDoorE00
import Derived.Below
import Derived.Laws.Sem
import Derived.Laws.World
import Derived.Orders
import Derived.Laws.Cells
set_option linter.unusedVariables false
set_option linter.unusedSimpArgs false
set_option linter.unusedSectionVars false
set_option linter.constructorNameAsVariable false
namespace Go.Ev
open Go Go.RowKit
/-- A renaming: where a block lies, how many cells are there, how many are spoken of, of which type; and what the letters stand for. -/
structure Rn where
  blk : Id → Option Nat
  csz : Id → Nat
  ext : Id → Nat
  ty : Id → TypeId
  sy : Nat → Value
  wb : World
  off : Id → Nat
/-! what the unknown values are -/
/-- A number's figures. -/
def decN : Nat → Nat → List UInt8
  | 0, _ => [48]
  | f + 1, n => if n < 10 then [UInt8.ofNat (48 + n)] else decN f (n / 10) ++ [UInt8.ofNat (48 + n % 10)]
def dec (n : Nat) : List UInt8 := decN 10 n
/-- A rope's bytes. -/
def rope (A B : Nat) : Nat → Nat → List UInt8
  | 0, _ => []
  | n + 1, c => (if c % 256 = 1 then dec A else if c % 256 = 2 then dec B else [UInt8.ofNat (c % 256)]) ++ rope A B n (c / 256)
/-- The value of a code. -/
def den (A B : Nat) (M : Int) (k : Nat) : Value :=
  if k % 2 = 1 then .string ⟨(rope A B (k / 2 % 65536) (k / 131072)).toArray⟩
  else if k = 0 then .int .i64 A
  else if k = 2 then .int .i64 B
  else if k = 4 then .int .i64 M
  else .int .i64 ((((k / 2 - 8) / 16 + (k / 2 - 8) / 4 % 4 * (dec A).length + (k / 2 - 8) % 4 * (dec B).length : Nat) : Int))
theorem decN_ne : ∀ f n, decN f n ≠ []
  | 0, _ => by simp [decN]
  | f + 1, n => by unfold decN; split <;> simp
theorem decN_dig : ∀ f n, ∀ b ∈ decN f n, 48 ≤ b.toNat ∧ b.toNat ≤ 57
  | 0, n, b, hb => by simp [decN] at hb; subst hb; decide
  | f + 1, n, b, hb => by
    unfold decN at hb
    split at hb
    · rename_i h
      rw [List.mem_singleton] at hb; subst hb
      have : (UInt8.ofNat (48 + n)).toNat = 48 + n := by simp only [UInt8.toNat_ofNat']; omega
      omega
    · rcases List.mem_append.1 hb with hb | hb
      · exact decN_dig f _ b hb
      · rw [List.mem_singleton] at hb; subst hb
        have : (UInt8.ofNat (48 + n % 10)).toNat = 48 + n % 10 := by simp only [UInt8.toNat_ofNat']; omega
        omega
theorem decN_len : ∀ f n, 1 ≤ (decN f n).length ∧ (decN f n).length ≤ f + 1
  | 0, _ => by simp [decN]
  | f + 1, n => by
    unfold decN; split
    · simp
    · have := decN_len f (n / 10)
      simp; omega
theorem decN_len2 : ∀ f n, n < 10 ^ f → 1 ≤ f → (decN f n).length ≤ f
  | 0, _, _, h => by omega
  | f + 1, n, h, _ => by
    unfold decN; split
    · simp
    · rename_i h10
      have hf : 1 ≤ f := by
        rcases Nat.eq_zero_or_pos f with h0 | h0
        · subst h0; simp at h; omega
        · exact h0
      have := decN_len2 f (n / 10) (by rw [Nat.pow_succ] at h; omega) hf
      simp; omega
theorem dec_len {n : Nat} (h : n < 2147483648) : 1 ≤ (dec n).length ∧ (dec n).length ≤ 10 := ⟨(decN_len 10 n).1, decN_len2 10 n (by omega) (by omega)⟩
/-- What the unknown values are: two numbers' ones. -/
def Known (sy : Nat → Value) : Prop := ∃ A B M, A < 2147483648 ∧ B < 2147483648 ∧ sy = den A B M
def Sc : Value → Prop
  | .agg _ => False
  | .tuple _ => False
  | _ => True
section
variable (P : Program) (ρ : Rn)
mutual
def RV : AV → Value → Prop
  | .u, _ => True
  | .b x, v => v = .bool x
  | .i k n, v => v = .int k n
  | .s n c, v => ∃ s : ByteArray, v = .string s ∧ s.data.toList.length = n ∧ encB s.data.toList = c
  | .p b o, v => ∃ a, ρ.blk b = some a ∧ v = .pointer (some ⟨a, ρ.off b + o, none⟩)
  | .p0, v => v = .pointer none
  | .sl b o n, v => ∃ a ad cap, ρ.blk b = some a ∧ v = .slice (some ad) n cap ∧ n ≤ cap ∧
      (ad = ⟨a, ρ.off b + o, none⟩ ∧ o + cap * P.cellsOf (ρ.ty b) ≤ ρ.csz b ∧ ρ.ext b ≤ o + cap * P.cellsOf (ρ.ty b) ∨ n = 0 ∧ cap = 0 ∧ ρ.ext b ≤ o)
  | .sl0, v => v = .slice none 0 0
  | .m b, v => ∃ a, ρ.blk b = some a ∧ v = .map (some a)
  | .m0, v => v = .map none
  | .f fn x y, v => ∃ x' y', v = .func fn x' y' ∧ RL x x'.toList ∧ RL y y'.toList
  | .f0, v => v = .nilFunc
  | .if_ t x, v => ∃ x', v = .iface t x' ∧ RV x x'
  | .if0, v => v = .nilIface
  | .g l, v => ∃ c, v = .agg c ∧ RL l c.toList
  | .t l, v => ∃ c, v = .tuple c ∧ RL l c.toList
  | .y k, v => v = ρ.sy k ∧ Sc v
  | .sw b, v => ∃ a, ρ.blk b = some a ∧ v = .slice (some ⟨a, 0, none⟩) (ρ.ext b) (ρ.csz b)
def RL : List AV → List Value → Prop
  | [], l => l = []
  | a :: x, l => ∃ b y, l = b :: y ∧ RV a b ∧ RL x y
end
end
/-- A renaming that knows more. -/
structure Rn.le (ρ ρ' : Rn) : Prop where
  h : ∀ b a, ρ.blk b = some a → ρ'.blk b = some a ∧ ρ'.csz b = ρ.csz b ∧ ρ'.ext b = ρ.ext b ∧ ρ'.ty b = ρ.ty b
  sy : ρ'.sy = ρ.sy
  wb : ρ'.wb = ρ.wb
  of : ∀ b a, ρ.blk b = some a → ρ'.off b = ρ.off b
theorem Rn.le.refl (ρ : Rn) : ρ.le ρ := ⟨fun _ _ h => ⟨h, rfl, rfl, rfl⟩, rfl, rfl, fun _ _ _ => rfl⟩
theorem Rn.le.trans {a b c : Rn} (h : a.le b) (k : b.le c) : a.le c :=
  ⟨fun i x hx => by
    obtain ⟨h1, h2, h3, h4⟩ := h.h i x hx
    obtain ⟨k1, k2, k3, k4⟩ := k.h i x h1
    exact ⟨k1, k2.trans h2, k3.trans h3, k4.trans h4⟩, k.sy.trans h.sy, k.wb.trans h.wb, fun i x hx => (k.of i x (h.h i x hx).1).trans (h.of i x hx)⟩
section
variable {P : Program} {ρ ρ' : Rn}
mutual
theorem RV.mono (h : ρ.le ρ') : ∀ (a : AV) (v : Value), RV P ρ a v → RV P ρ' a v
  | .u, _, _ => by simp only [RV]
  | .b _, _, k | .i _ _, _, k | .p0, _, k | .sl0, _, k | .m0, _, k | .f0, _, k | .if0, _, k | .s _ _, _, k => by simpa only [RV] using k
  | .p b o, v, k => by
    simp only [RV] at k ⊢
    obtain ⟨a, ha, hv⟩ := k
    exact ⟨a, (h.h b a ha).1, by rw [h.of b a ha]; exact hv⟩
  | .sl b o n, v, k => by
    simp only [RV] at k ⊢
    obtain ⟨a, ad, cap, ha, hv, hn, hc⟩ := k
    obtain ⟨h1, h2, h3, h4⟩ := h.h b a ha
    exact ⟨a, ad, cap, h1, hv, hn, by rw [h2, h3, h4, h.of b a ha]; exact hc⟩
  | .m b, v, k => by
    simp only [RV] at k ⊢
    obtain ⟨a, ha, hv⟩ := k
    exact ⟨a, (h.h b a ha).1, hv⟩
  | .f fn x y, v, k => by
    simp only [RV] at k ⊢
    obtain ⟨x', y', hv, hx, hy⟩ := k
    exact ⟨x', y', hv, RL.mono h x _ hx, RL.mono h y _ hy⟩
  | .if_ t x, v, k => by
    simp only [RV] at k ⊢
    obtain ⟨x', hv, hx⟩ := k
    exact ⟨x', hv, RV.mono h x _ hx⟩
  | .g l, v, k => by
    simp only [RV] at k ⊢
    obtain ⟨c, hv, hl⟩ := k
    exact ⟨c, hv, RL.mono h l _ hl⟩
  | .t l, v, k => by
    simp only [RV] at k ⊢
    obtain ⟨c, hv, hl⟩ := k
    exact ⟨c, hv, RL.mono h l _ hl⟩
  | .y n, v, k => by
    simp only [RV] at k ⊢
    exact ⟨by rw [h.sy]; exact k.1, k.2⟩
  | .sw b, v, k => by
    simp only [RV] at k ⊢
    obtain ⟨a, ha, hv⟩ := k
    obtain ⟨h1, h2, h3, h4⟩ := h.h b a ha
    exact ⟨a, h1, by rw [h2, h3]; exact hv⟩
theorem RL.mono (h : ρ.le ρ') : ∀ (a : List AV) (v : List Value), RL P ρ a v → RL P ρ' a v
  | [], _, k => by simpa only [RL] using k
  | a :: x, l, k => by
    simp only [RL] at k ⊢
    obtain ⟨b, y, hl, hb, hy⟩ := k
    exact ⟨b, y, hl, RV.mono h a b hb, RL.mono h x y hy⟩
end
theorem RL.length : ∀ {l : List AV} {l' : List Value}, RL P ρ l l' → l.length = l'.length
  | [], _, h => by simp only [RL] at h; simp [h]
  | _ :: _, _, h => by
    simp only [RL] at h
    obtain ⟨b, y, rfl, _, hy⟩ := h
    simp [RL.length hy]
theorem RL.get : ∀ {l : List AV} {l' : List Value} (j : Nat), RL P ρ l l' → j < l.length → ∃ v, l'[j]? = some v ∧ RV P ρ (l.getD j .u) v
  | [], _, _, _, hj => by simp at hj
  | a :: x, _, j, h, hj => by
    simp only [RL] at h
    obtain ⟨b, y, rfl, hb, hy⟩ := h
    cases j with
    | zero => exact ⟨b, rfl, hb⟩
    | succ j => obtain ⟨v, h1, h2⟩ := RL.get j hy (by simpa using hj); exact ⟨v, by simpa using h1, by simpa using h2⟩
theorem RL.of : ∀ {l : List AV} {l' : List Value}, l.length = l'.length → (∀ j, j < l.length → ∃ v, l'[j]? = some v ∧ RV P ρ (l.getD j .u) v) → RL P ρ l l'
  | [], [], _, _ => by simp only [RL]
  | [], _ :: _, h, _ => by simp at h
  | _ :: _, [], h, _ => by simp at h
  | a :: x, b :: y, h, k => by
    simp only [RL]
    refine ⟨b, y, rfl, ?_, RL.of (by simpa using h) fun j hj => ?_⟩
    · obtain ⟨v, h1, h2⟩ := k 0 (by simp)
      simp at h1 h2; exact h1 ▸ h2
    · obtain ⟨v, h1, h2⟩ := k (j + 1) (by simpa using hj)
      exact ⟨v, by simpa using h1, by simpa using h2⟩
theorem RL.append : ∀ {l r : List AV} {l' r' : List Value}, RL P ρ l l' → RL P ρ r r' → RL P ρ (l ++ r) (l' ++ r')
  | [], _, _, _, h, k => by simp only [RL] at h; subst h; exact k
  | a :: x, r, _, r', h, k => by
    simp only [RL] at h
    obtain ⟨b, y, rfl, hb, hy⟩ := h
    show RL P ρ (a :: (x ++ r)) (b :: (y ++ r'))
    simp only [RL]
    exact ⟨b, y ++ r', rfl, hb, RL.append hy k⟩
end

/-- The entries of a map, one behind the other. -/
structure MP (P : Program) (ρ : Rn) (es : List (AV × AV)) (es' : Array MapEntry) : Prop where
  size : es.length = es'.size
  ent : ∀ j, j < es.length → ∃ e, es'[j]? = some e ∧ RV P ρ (es.getD j (.u, .u)).1 e.key ∧ RV P ρ (es.getD j (.u, .u)).2 e.val
theorem MP.mono {P : Program} {ρ ρ' : Rn} (h : ρ.le ρ') {es : List (AV × AV)} {es' : Array MapEntry} (k : MP P ρ es es') : MP P ρ' es es' :=
  ⟨k.size, fun j hj => let ⟨e, h1, h2, h3⟩ := k.ent j hj; ⟨e, h1, RV.mono h _ _ h2, RV.mono h _ _ h3⟩⟩
/-- Keys that are known numbers, no two the same. -/
def KD (es : List (AV × AV)) : Prop := (∀ e ∈ es, ∃ n, e.1 = .i .i64 n) ∧ (es.map (·.1)).Nodup
/-- The entries of a map; where the keys are known numbers: in whatever order. -/
def MR (P : Program) (ρ : Rn) (es : List (AV × AV)) (es' : Array MapEntry) : Prop := ∃ l, MP P ρ l es' ∧ (l = es ∨ l.Perm es ∧ KD es)
theorem MR.mono {P : Program} {ρ ρ' : Rn} (h : ρ.le ρ') {es : List (AV × AV)} {es' : Array MapEntry} (k : MR P ρ es es') : MR P ρ' es es' :=
  let ⟨l, h1, h2⟩ := k; ⟨l, h1.mono h, h2⟩
theorem MR.size {P : Program} {ρ : Rn} {es : List (AV × AV)} {es' : Array MapEntry} (k : MR P ρ es es') : es.length = es'.size := by
  obtain ⟨l, h1, rfl | ⟨h2, _⟩⟩ := k
  · exact h1.size
  · rw [← h2.length_eq]; exact h1.size
theorem MR.nil {P : Program} {ρ : Rn} : MR P ρ [] #[] := ⟨[], ⟨rfl, fun j hj => absurd hj (Nat.not_lt_zero _)⟩, .inl rfl⟩

/-- No cell is frozen, nor the place behind the last one, but of bytes. -/
def Thaw (P : Program) (e : TypeId) (n lo hi : Nat) : Prop := ∀ j, (j < n ∨ j = n ∧ P.underlying e ≠ some (.int .u8)) → ¬ (lo ≤ j ∧ j < hi)
/-- A block of the world holds what an abstract object says. -/
def Holds (P : Program) (base : Nat) (ρ : Rn) (b : Id) (a : Nat) (w : World) : AObj → Prop
  | .no => True
  | .c own e n t => ρ.ext b = n ∧ ρ.ty b = e ∧ n ≤ t.room ∧ ∃ cs lo hi, (∃ e', w.heap[a]? = some (.cells cs e' (lo, hi)) ∧ (own = true ∨ inBr b = false → e' = e)) ∧ cs.size = ρ.off b + ρ.csz b ∧ ρ.off b + n ≤ cs.size ∧
      (∀ j, j < n → ∃ v, cs[ρ.off b + j]? = some v ∧ RV P ρ (t.get j) v) ∧ (own = true → base ≤ a ∧ Thaw P e cs.size lo hi)
  | .m es k => base ≤ a ∧ ∃ es', w.heap[a]? = some (.map es' k) ∧ MR P ρ es es'
  | .bs e k => ρ.ty b = e ∧ base ≤ a ∧ ∃ cs lo hi s, w.heap[a]? = some (.cells cs e (lo, hi)) ∧ cs.size = ρ.csz b ∧ ρ.sy k = .string s ∧ ρ.ext b = s.data.size ∧ ρ.ext b ≤ cs.size ∧
      (∀ j (hj : j < s.data.size), cs[j]? = some (.int .u8 s.data[j].toNat)) ∧ ∀ j, j < cs.size → ¬ (lo ≤ j ∧ j < hi)
theorem Holds.mono {P : Program} {base : Nat} {ρ ρ' : Rn} (h : ρ.le ρ') {b : Id} {a : Nat} {w : World} {o : AObj} (hb : ρ.blk b = some a) (k : Holds P base ρ b a w o) : Holds P base ρ' b a w o := by
  obtain ⟨_, h2, h3, h4⟩ := h.h b a hb
  cases o with
  | no => trivial
  | c own e n t =>
    obtain ⟨k1, k2, k3, cs, lo, hi, k4, k5, k6, k7, k8⟩ := k
    exact ⟨h3.trans k1, h4.trans k2, k3, cs, lo, hi, k4, by rw [h.of b a hb, h2]; exact k5, by rw [h.of b a hb]; exact k6, fun j hj => let ⟨v, e1, e2⟩ := k7 j hj; ⟨v, by rw [h.of b a hb]; exact e1, RV.mono h _ _ e2⟩, k8⟩
  | m es k' => exact ⟨k.1, let ⟨es', e1, e2⟩ := k.2; ⟨es', e1, e2.mono h⟩⟩
  | bs e k' =>
    obtain ⟨k1, k2, cs, lo, hi, s, k3, k4, k5, k6, k7, k8⟩ := k
    exact ⟨h4.trans k1, k2, cs, lo, hi, s, k3, k4.trans h2.symm, by rw [h.sy]; exact k5, h3.trans k6, by rw [h3]; exact k7, k8⟩
theorem Holds.world {P : Program} {base : Nat} {ρ : Rn} {b : Id} {a : Nat} {w w' : World} {o : AObj} (h : w'.heap[a]? = w.heap[a]?) (k : Holds P base ρ b a w o) : Holds P base ρ b a w' o := by
  cases o with
  | no => trivial
  | c own e n t => unfold Holds at k ⊢; rw [h]; exact k
  | m es k' => unfold Holds at k ⊢; rw [h]; exact k
  | bs e k' => unfold Holds at k ⊢; rw [h]; exact k

def Live (h : Hp) (b : Id) : Prop := hat b h.t ≠ .no
def Own (h : Hp) (b : Id) : Prop := (∃ e n t, hat b h.t = .c true e n t) ∨ (∃ es k, hat b h.t = .m es k) ∨ ∃ e k, hat b h.t = .bs e k
theorem Own.live {h : Hp} {b : Id} (k : Own h b) : Live h b := by
  rcases k with ⟨e, n, t, k⟩ | ⟨es, n, k⟩ | ⟨e, n, k⟩ <;> (unfold Live; rw [k]; exact fun h => by cases h)
/-- The abstract heap stands for the world's. -/
structure Sim (P : Program) (base : Nat) (ρ : Rn) (h : Hp) (w : World) : Prop where
  bs : base ≤ w.heap.size
  lt : ∀ b a, ρ.blk b = some a → a < w.heap.size
  ob : ∀ b a, ρ.blk b = some a → Holds P base ρ b a w (hat b h.t)
  inj : ∀ b c a, ρ.blk b = some a → ρ.blk c = some a → Own h b → Live h c → b = c
  nx : ∀ n, h.nx ≤ n → n < 32768 → ρ.blk (idOf n) = none
  gl : ∀ g, g < P.globals.size → ρ.blk (idOf g) = some g
  kn : Known ρ.sy
  tb : ∀ i, i < base → w.heap[i]? = ρ.wb.heap[i]?
  ct : ∀ g (hg : g < P.globals.size), ρ.csz (idOf g) = P.cellsOf P.globals[g].type ∧ ρ.off (idOf g) = 0
  oz : ∀ b a, ρ.blk b = some a → Own h b ∨ inBr b = false → ρ.off b = 0
/-- A step: what it may turn. -/
structure Stp (P : Program) (base : Nat) (ρ : Rn) (h : Hp) (w : World) (ρ' : Rn) (h' : Hp) (w' : World) : Prop where
  le : ρ.le ρ'
  sim : Sim P base ρ' h' w'
  bl : Below base w w'
  nx : h.nx ≤ h'.nx
  keep : ∀ a, a < w.heap.size → (∀ b, ρ.blk b = some a → ¬ Own h b) → w'.heap[a]? = w.heap[a]?
  old : ∀ n, n < h.nx → n < 32768 → ρ.blk (idOf n) = none → ρ'.blk (idOf n) = none → hat (idOf n) h'.t = hat (idOf n) h.t
  fresh : ∀ n, n < h.nx → n < 32768 → ρ.blk (idOf n) = none → ρ'.blk (idOf n) = none
  img : ∀ b a, ρ'.blk b = some a → Own h' b → w.heap.size ≤ a ∨ ∃ c, ρ.blk c = some a ∧ Own h c
  lv : ∀ b a, ρ'.blk b = some a → Live h' b → w.heap.size ≤ a ∨ ∃ c, ρ.blk c = some a ∧ Live h c
section
variable {P : Program} {base : Nat} {ρ ρ' ρ'' : Rn} {h h' h'' : Hp} {w w' w'' : World}
theorem Stp.refl (s : Sim P base ρ h w) : Stp P base ρ h w ρ h w :=
  ⟨.refl ρ, s, .refl _ _, Nat.le_refl _, fun _ _ _ => rfl, fun _ _ _ _ _ => rfl, fun _ _ _ k => k, fun b a k l => .inr ⟨b, k, l⟩, fun b a k l => .inr ⟨b, k, l⟩⟩
/-- A world that is another one in what counts (a draw). -/
theorem Sim.world (s : Sim P base ρ h w) (hh : w'.heap = w.heap) : Sim P base ρ h w' :=
  ⟨by rw [hh]; exact s.bs, by rw [hh]; exact s.lt, fun b a k => (s.ob b a k).world (by rw [hh]), s.inj, s.nx, s.gl, s.kn, by rw [hh]; exact s.tb, s.ct, s.oz⟩
theorem Stp.draw (s : Sim P base ρ h w) : Stp P base ρ h w ρ h w.drew :=
  ⟨.refl ρ, s.world rfl, Below.drew (.refl _ _), Nat.le_refl _, fun _ _ _ => rfl, fun _ _ _ _ _ => rfl, fun _ _ _ k => k, fun b a k l => .inr ⟨b, k, l⟩, fun b a k l => .inr ⟨b, k, l⟩⟩

/-- What a block is, is changed, in the world and in the abstract heap alike. -/
theorem Own.put {b c : Id} {o : AObj} (hl : Own h b) (lc : Own ⟨hput b o h.t, h.nx⟩ c) : Own h c := by
  by_cases e : b = c
  · exact e ▸ hl
  · unfold Own at lc ⊢
    rw [show hat c (Hp.mk (hput b o h.t) h.nx).t = hat c h.t from hat_hput_ne _ _ e] at lc; exact lc
theorem Live.put {b c : Id} {o : AObj} (hl : Live h b) (lc : Live ⟨hput b o h.t, h.nx⟩ c) : Live h c := by
  by_cases e : b = c
  · exact e ▸ hl
  · unfold Live at lc ⊢
    rw [show hat c (Hp.mk (hput b o h.t) h.nx).t = hat c h.t from hat_hput_ne _ _ e] at lc; exact lc
theorem Sim.put (s : Sim P base ρ h w) {b : Id} {a : Nat} (hb : ρ.blk b = some a) (hl : Own h b) (hba : base ≤ a) {o : AObj} (hsz : w'.heap.size = w.heap.size)
    (hw : ∀ k, k ≠ a → w'.heap[k]? = w.heap[k]?) (ho : Holds P base ρ b a w' o) (hn : o ≠ .no) : Sim P base ρ ⟨hput b o h.t, h.nx⟩ w' := by
  refine ⟨by rw [hsz]; exact s.bs, by rw [hsz]; exact s.lt, fun c a' hc => ?_, fun c d a' hc hd lc ld => ?_, s.nx, s.gl, s.kn, fun i hi => (hw i (by omega)).trans (s.tb i hi), s.ct, fun c a' hc ho => s.oz c a' hc (ho.imp hl.put id)⟩
  · by_cases e : b = c
    · subst e; rw [hb] at hc; cases hc
      show Holds P base ρ b a w' (hat b (hput b o h.t))
      rw [hat_hput_self]; exact ho
    · show Holds P base ρ c a' w' (hat c (hput b o h.t))
      rw [hat_hput_ne _ _ e]
      by_cases hne : hat c h.t = .no
      · rw [hne]; trivial
      · exact (s.ob c a' hc).world (hw a' fun e2 => e (s.inj b c a hb (e2 ▸ hc) hl hne))
  · exact s.inj c d a' hc hd (hl.put lc) (hl.live.put ld)
theorem Stp.put (s : Sim P base ρ h w) {b : Id} {a : Nat} (hb : ρ.blk b = some a) (hl : Own h b) (hba : base ≤ a) {o : AObj} (hsz : w'.heap.size = w.heap.size)
    (hw : ∀ k, k ≠ a → w'.heap[k]? = w.heap[k]?) (ho : Holds P base ρ b a w' o) (hn : o ≠ .no) (hos : w'.os = w.os) (htp : w'.tape = w.tape) (hout : w'.output = w.output) :
    Stp P base ρ h w ρ ⟨hput b o h.t, h.nx⟩ w' := by
  refine ⟨.refl ρ, s.put hb hl hba hsz hw ho hn, ⟨hos, htp, hout, by omega, fun k hk => hw k (by omega)⟩, Nat.le_refl _, fun k _ hk => hw k fun e => hk b (e ▸ hb) hl,
    fun n _ _ hc _ => ?_, fun _ _ _ k => k, fun c a' hc lc => .inr ⟨c, hc, hl.put lc⟩, fun c a' hc lc => .inr ⟨c, hc, hl.live.put lc⟩⟩
  show hat (idOf n) (hput b o h.t) = _
  rw [hat_hput_ne _ _ fun e => by rw [← e, hb] at hc; cases hc]

def Rn.add (ρ : Rn) (b : Id) (a csz ext : Nat) (ty : TypeId) : Rn :=
  ⟨fun c => if c = b then some a else ρ.blk c, fun c => if c = b then csz else ρ.csz c, fun c => if c = b then ext else ρ.ext c, fun c => if c = b then ty else ρ.ty c, ρ.sy, ρ.wb, fun c => if c = b then 0 else ρ.off c⟩
theorem Rn.le_add {b : Id} (hb : ρ.blk b = none) (a csz ext : Nat) (ty : TypeId) : ρ.le (ρ.add b a csz ext ty) :=
  ⟨fun c x hc => by
    have : c ≠ b := fun e => by rw [e, hb] at hc; cases hc
    simp [Rn.add, if_neg this, hc], rfl, rfl, fun c x hc => by
    have : c ≠ b := fun e => by rw [e, hb] at hc; cases hc
    simp [Rn.add, if_neg this]⟩
theorem oz_add {h' : Hp} {b : Id} {a csz ext : Nat} {ty : TypeId} (hoz : ∀ c a, ρ.blk c = some a → Own h c ∨ inBr c = false → ρ.off c = 0) (ho : ∀ c, c ≠ b → Own h' c → Own h c) : ∀ c a', (ρ.add b a csz ext ty).blk c = some a' → Own h' c ∨ inBr c = false → (ρ.add b a csz ext ty).off c = 0 := by
  intro c a' hc h1
  by_cases e : c = b
  · subst e; simp [Rn.add]
  · simp only [Rn.add, if_neg e] at hc ⊢
    exact hoz c a' hc (h1.imp (ho c e) id)
/-- A new block. -/
theorem Stp.new (s : Sim P base ρ h w) (hn : h.nx < 32768) {ob : Obj} {o : AObj} {w' : World} (hw' : w' = w.alloc ob) {csz ext : Nat} {ty : TypeId}
    (ho : ∀ ρ', ρ' = ρ.add (idOf h.nx) w.heap.size csz ext ty → ρ.le ρ' → Holds P base ρ' (idOf h.nx) w.heap.size w' o) :
    Stp P base ρ h w (ρ.add (idOf h.nx) w.heap.size csz ext ty) ⟨hput (idOf h.nx) o h.t, Nat.succ h.nx⟩ w' := by
  subst hw'
  have hb : ρ.blk (idOf h.nx) = none := s.nx _ (Nat.le_refl _) hn
  have hle := Rn.le_add (ρ := ρ) hb w.heap.size csz ext ty
  have hnew : (ρ.add (idOf h.nx) w.heap.size csz ext ty).blk (idOf h.nx) = some w.heap.size := by simp [Rn.add]
  have hother : ∀ c, c ≠ idOf h.nx → (ρ.add (idOf h.nx) w.heap.size csz ext ty).blk c = ρ.blk c := fun c hc => by simp [Rn.add, hc]
  have hat' : ∀ c, c ≠ idOf h.nx → hat c (hput (idOf h.nx) o h.t) = hat c h.t := fun c hc => hat_hput_ne _ _ (Ne.symm hc)
  refine ⟨hle, ⟨?_, ?_, ?_, ?_, ?_, ?_, by rw [hle.sy]; exact s.kn, fun i hi => (Below.heap_alloc _ _ _ (Nat.lt_of_lt_of_le hi s.bs)).trans (s.tb i hi), fun g hg => ⟨(hle.h _ _ (s.gl g hg)).2.1.trans (s.ct g hg).1, (hle.of _ _ (s.gl g hg)).trans (s.ct g hg).2⟩, oz_add s.oz (fun c e oc => by unfold Own at oc ⊢; rw [← hat' c e]; exact oc)⟩, Below.alloc (.refl _ _) s.bs ob, Nat.le_succ _, fun k hk _ => Below.heap_alloc _ _ _ hk, ?_, ?_, ?_, ?_⟩
  · have := s.bs; simp; omega
  · intro c a hc
    by_cases e : c = idOf h.nx
    · subst e; rw [hnew] at hc; cases hc; simp
    · rw [hother c e] at hc; have := s.lt c a hc; simp; omega
  · intro c a hc
    by_cases e : c = idOf h.nx
    · subst e; rw [hnew] at hc; cases hc
      show Holds P base _ _ _ _ (hat _ (hput _ _ _))
      rw [hat_hput_self]; exact ho _ rfl hle
    · rw [hother c e] at hc
      show Holds P base _ _ _ _ (hat _ (hput _ _ _))
      rw [hat' c e]
      exact ((s.ob c a hc).mono hle hc).world (Below.heap_alloc _ _ _ (s.lt c a hc))
  · intro c d a hc hd lc ld
    by_cases e : c = idOf h.nx
    · by_cases e2 : d = idOf h.nx
      · rw [e, e2]
      · subst e; rw [hnew] at hc; cases hc
        rw [hother d e2] at hd
        exact absurd (s.lt d _ hd) (Nat.lt_irrefl _)
    · rw [hother c e] at hc
      by_cases e2 : d = idOf h.nx
      · subst e2; rw [hnew] at hd; cases hd
        exact absurd (s.lt c _ hc) (Nat.lt_irrefl _)
      · rw [hother d e2] at hd
        exact s.inj c d a hc hd (by unfold Own at lc ⊢; rw [← hat' c e]; exact lc) (by unfold Live at ld ⊢; rw [← hat' d e2]; exact ld)
  · intro n h1 h2
    have : idOf n ≠ idOf h.nx := fun e => by have := idOf_inj h2 hn e; have h1' : h.nx + 1 ≤ n := h1; omega
    rw [hother _ this]
    exact s.nx n (Nat.le_of_succ_le h1) h2
  · intro g hg
    exact (hle.h _ _ (s.gl g hg)).1
  · intro n _ _ h1 h2
    have : idOf n ≠ idOf h.nx := fun e => by rw [e, hnew] at h2; cases h2
    exact hat' _ this
  · intro n h1 h2 h3
    have : idOf n ≠ idOf h.nx := fun e => by have := idOf_inj h2 hn e; omega
    rw [hother _ this]; exact h3
  · intro c a hc lc
    by_cases e : c = idOf h.nx
    · subst e; rw [hnew] at hc; cases hc; exact .inl (Nat.le_refl _)
    · rw [hother c e] at hc
      exact .inr ⟨c, hc, by unfold Own at lc ⊢; rw [← hat' c e]; exact lc⟩
  · intro c a hc lc
    by_cases e : c = idOf h.nx
    · subst e; rw [hnew] at hc; cases hc; exact .inl (Nat.le_refl _)
    · rw [hother c e] at hc
      exact .inr ⟨c, hc, by unfold Live at lc ⊢; rw [← hat' c e]; exact lc⟩

theorem Stp.trans (s1 : Stp P base ρ h w ρ' h' w') (s2 : Stp P base ρ' h' w' ρ'' h'' w'') :
    Stp P base ρ h w ρ'' h'' w'' := by
  refine ⟨s1.le.trans s2.le, s2.sim, s1.bl.trans s2.bl, Nat.le_trans s1.nx s2.nx, fun a ha hk => ?_, fun n hn1 hn2 h1 h2 => ?_, fun n h1 h2 h3 => ?_, fun b a hb hl => ?_, fun b a hb hl => ?_⟩
  · rw [s2.keep a (Nat.lt_of_lt_of_le ha s1.bl.size) fun b hb ho => ?_]
    · exact s1.keep a ha hk
    · rcases s1.img b a hb ho with h1 | ⟨c, hc, oc⟩
      · exact absurd h1 (by omega)
      · exact hk c hc oc
  · have h3 : ρ'.blk (idOf n) = none := s1.fresh n hn1 hn2 h1
    rw [s2.old n (Nat.lt_of_lt_of_le hn1 s1.nx) hn2 h3 h2, s1.old n hn1 hn2 h1 h3]
  · exact s2.fresh n (Nat.lt_of_lt_of_le h1 s1.nx) h2 (s1.fresh n h1 h2 h3)
  · rcases s2.img b a hb hl with h1 | ⟨c, hc, lc⟩
    · exact .inl (Nat.le_trans s1.bl.size h1)
    · exact s1.img c a hc lc
  · rcases s2.lv b a hb hl with h1 | ⟨c, hc, lc⟩
    · exact .inl (Nat.le_trans s1.bl.size h1)
    · exact s1.lv c a hc lc
end
end Go.Ev
namespace Go.Ev
open Go Go.RowKit
variable {r : DV}
theorem bad_ok {n : Nat} {v : AV} {p : Prop} (h : Res.bad n v = Res.ok r) : p := by cases h
section
variable {k1 : Bool → Res} {k2 : Nat → Nat → Res} {v : AV} {z : Res}
theorem asI_ok {k : IntKind → Int → Res} (h : asI v k = .ok r) : ∃ kd n, v = .i kd n ∧ k kd n = .ok r := by
  cases v <;> first | exact ⟨_, _, rfl, h⟩ | exact bad_ok h
theorem asB_ok {k : Bool → Res} (h : asB v k = .ok r) : ∃ b, v = .b b ∧ k b = .ok r := by
  cases v <;> first | exact ⟨_, rfl, h⟩ | exact bad_ok h
theorem asS_ok {k : Nat → Nat → Res} (h : asS v k = .ok r) : ∃ n c, v = .s n c ∧ k n c = .ok r := by
  cases v <;> first | exact ⟨_, _, rfl, h⟩ | exact bad_ok h
theorem asP_ok {k : Id → Nat → Res} (h : asP v k = .ok r) : ∃ b o, v = .p b o ∧ k b o = .ok r := by
  cases v <;> first | exact ⟨_, _, rfl, h⟩ | exact bad_ok h
theorem asSl_ok {k : Id → Nat → Nat → Res} (h : asSl v z k = .ok r) : v = .sl0 ∧ z = .ok r ∨ ∃ b o n, v = .sl b o n ∧ k b o n = .ok r := by
  cases v <;> first | exact .inr ⟨_, _, _, rfl, h⟩ | exact .inl ⟨rfl, h⟩ | exact bad_ok h
theorem asG_ok {k : List AV → Res} (h : asG v k = .ok r) : ∃ l, v = .g l ∧ k l = .ok r := by
  cases v <;> first | exact ⟨_, rfl, h⟩ | exact bad_ok h
theorem asT_ok {k : List AV → Res} (h : asT v k = .ok r) : ∃ l, v = .t l ∧ k l = .ok r := by
  cases v <;> first | exact ⟨_, rfl, h⟩ | exact bad_ok h
theorem cellsAt_ok {b : Id} {h : Hp} {k : Bool → TypeId → Nat → CT → Res} (hk : cellsAt b h k = .ok r) : ∃ own e n t, hat b h.t = .c own e n t ∧ k own e n t = .ok r := by
  unfold cellsAt at hk
  cases ho : hat b h.t with
  | no => rw [ho] at hk; exact bad_ok hk
  | c own e n t => rw [ho] at hk; exact ⟨own, e, n, t, rfl, hk⟩
  | m es c => rw [ho] at hk; exact bad_ok hk
  | bs e k0 => rw [ho] at hk; exact bad_ok hk
end
theorem ite_ok {c : Prop} [Decidable c] {x y : Res} (h : (if c then x else y) = .ok r) : c ∧ x = .ok r ∨ ¬ c ∧ y = .ok r := by
  split at h
  · exact .inl ⟨by assumption, h⟩
  · exact .inr ⟨by assumption, h⟩
theorem kn_inj {a b : IntKind} (h : Nat.beq (kn a) (kn b) = true) : a = b := by
  cases a <;> cases b <;> first | rfl | exact absurd h (by decide)
theorem asII_ok {x y : AV} {k : IntKind → Int → Int → Res} (h : asII x y k = .ok r) : ∃ kd a b, x = .i kd a ∧ y = .i kd b ∧ k kd a b = .ok r := by
  obtain ⟨kd, a, hx, h1⟩ := asI_ok h
  obtain ⟨kd2, b, hy, h2⟩ := asI_ok h1
  rw [cif_eq] at h2
  rcases ite_ok h2 with ⟨h3, h4⟩ | ⟨_, h4⟩
  · have := kn_inj h3; subst this; exact ⟨kd, a, b, hx, hy, h4⟩
  · exact bad_ok h4

/-! numbers -/
theorem wrap_small (kd : IntKind) (m : Nat) (h : m < lim kd) : kd.wrap (m : Int) = m := by
  cases kd <;> simp only [lim] at h <;> simp only [IntKind.wrap, IntKind.bits, IntKind.signed, Bool.true_and, Bool.false_and, Bool.false_eq_true, if_false] <;> (try split) <;> simp_all <;> omega
theorem wrF_eq (kd : IntKind) (n : Int) (k : AV → Res) : wrF kd (lim kd) n k = k (.i kd (kd.wrap n)) := by
  cases n with
  | ofNat m =>
    show cif (Nat.ble (lim kd) m) _ _ = _
    rw [cif_eq]
    split
    · simp
    · rename_i h
      have : m < lim kd := by simpa [Nat.ble_eq] using h
      simp [wrap_small kd m this]
  | negSucc m => show intF (kd.wrap (.negSucc m)) (fun n => k (.i kd n)) = _; rw [intF_eq]
theorem ile_eq (a b : Int) : ile a b = decide (a ≤ b) := by
  cases a <;> cases b
  · show Nat.ble _ _ = _; rw [Bool.eq_iff_iff]; simp [Nat.ble_eq]
  · show false = _; symm; simp; omega
  · show true = _; symm; simp; omega
  · show Nat.ble _ _ = _; rw [Bool.eq_iff_iff]; simp only [Nat.ble_eq, decide_eq_true_eq]; omega
theorem ieq_eq (a b : Int) : ieq a b = decide (a = b) := by
  cases a <;> cases b
  · show Nat.beq _ _ = _; rw [Bool.eq_iff_iff]; simp; omega
  · show false = _; symm; simp
  · show false = _; symm; simp
  · show Nat.beq _ _ = _; rw [Bool.eq_iff_iff]; simp
theorem iadd_eq (a b : Int) : iadd a b = a + b := by cases a <;> cases b <;> rfl
theorem isub_eq (a b : Int) : isub a b = a - b := by
  cases a with
  | ofNat a =>
    cases b with
    | ofNat b =>
      show cif (Nat.ble b a) (Int.ofNat (Nat.sub a b)) (.negSucc (Nat.pred (Nat.sub b a))) = _
      rw [cif_eq]
      split
      · rename_i h
        have : b ≤ a := by simpa [Nat.ble_eq] using h
        show Int.ofNat (a - b) = _
        simp only [Int.ofNat_eq_natCast]; omega
      · rename_i h
        have : a < b := by simpa [Nat.ble_eq] using h
        show Int.negSucc (b - a - 1) = _
        simp only [Int.ofNat_eq_natCast]; omega
    | negSucc b => rfl
  | negSucc a => cases b <;> rfl

/-! frames, operands -/
structure FR (P : Program) (ρ : Rn) (N : Nat) (F : Fr) (a : Act) : Prop where
  sz : N ≤ a.tmps.size
  v : ∀ n, n < 512 → RV P ρ (getN n F) (a.eval (.tmp n))
theorem FR.mono {P : Program} {ρ ρ' : Rn} {N : Nat} {F : Fr} {a : Act} (h : ρ.le ρ') (k : FR P ρ N F a) : FR P ρ' N F a := ⟨k.sz, fun n hn => RV.mono h _ _ (k.v n hn)⟩
theorem FR.put {P : Program} {ρ : Rn} {N : Nat} {F : Fr} {a : Act} (k : FR P ρ N F a) {d : Nat} (hd : d < N) (h5 : d < 512) {v : AV} {v' : Value} (hv : RV P ρ v v') :
    FR P ρ N (putN d v F) (a.put (some d) v') := by
  refine ⟨by simpa [Act.put] using k.sz, fun n hn => ?_⟩
  have hsz := k.sz
  by_cases e : n = d
  · subst e
    rw [getN_putN_self]
    have : (a.put (some n) v').eval (.tmp n) = v' := by simp [Act.put, Act.eval, Array.getD, show n < a.tmps.size by omega]
    rw [this]; exact hv
  · rw [getN_putN_ne hn h5 v F (Ne.symm e)]
    have : (a.put (some d) v').eval (.tmp n) = a.eval (.tmp n) := Act.eval_put fun d' hd' => by cases hd'; exact fun h => e (by cases h; rfl)
    rw [this]; exact k.v n hn
noncomputable def valA : Value → AV
  | .agg cs => .g (cs.toList.map trS)
  | .tuple cs => .t (cs.toList.map trS)
  | v => trS v
noncomputable def opA : Operand → O
  | .tmp n => getN n
  | .const v => cst (valA v)
  | .global g => cst (.p (gid g) 0)
  | .func f => cst (.f (.func f) [] [])
section
variable {α : Type}
theorem valF_eq (v : Value) (k : AV → α) : valF v k = k (valA v) := by
  have e : ∀ (l : List Value) (k : List AV → α), mapF l (fun x k => avF (trS x) k) k = k (l.map trS) := fun l k => mapF_eq _ trS l k fun x _ k => avF_eq _ k
  cases v with
  | agg cs => exact e cs.toList fun l => k (.g l)
  | tuple cs => exact e cs.toList fun l => k (.t l)
  | _ => simp only [valF, valA, avF_eq]
theorem opF_eq (x : Operand) (k : O → α) : opF x k = k (opA x) := by
  cases x <;> simp only [opF, opA, slG_eq, valF_eq, idF_eq]
theorem opsF_eq (l : List Operand) (k : List O → α) : opsF l k = k (l.map opA) := mapF_eq _ opA l k fun x _ k => opF_eq x k
theorem oopF_eq (x : Option Operand) (k : Option O → α) : oopF x k = k (x.map opA) := by cases x <;> simp only [oopF, opF_eq, Option.map]
end
section
variable {P : Program} {ρ : Rn}
theorem RV_trS (v : Value) : RV P ρ (trS v) v := by
  unfold trS
  split <;> try simp only [RV]
  · rename_i s; simp only [strV, natF_eq, RV]; exact ⟨s, rfl, rfl, rfl⟩
  · rename_i fn x y
    rw [cif_eq]
    split
    · rename_i h
      simp only [Bool.and_eq_true, beq_iff_eq, Array.size_eq_zero_iff] at h
      simp only [RV, RL]
      exact ⟨x, y, rfl, by rw [h.1], by rw [h.2]⟩
    · simp only [RV]
theorem RL_map_trS : ∀ l : List Value, RL P ρ (l.map trS) l
  | [] => by simp only [List.map, RL]
  | v :: r => by simp only [List.map, RL]; exact ⟨v, r, rfl, RV_trS v, RL_map_trS r⟩
theorem RV_valA (v : Value) : RV P ρ (valA v) v := by
  unfold valA
  split
  · simp only [RV]; exact ⟨_, rfl, RL_map_trS _⟩
  · simp only [RV]; exact ⟨_, rfl, RL_map_trS _⟩
  · exact RV_trS v
variable {base N : Nat} {F : Fr} {a : Act} {h : Hp} {w : World}
theorem opA_ok (fr : FR P ρ N F a) (s : Sim P base ρ h w) {x : Operand} (hx : okO P x = true) : RV P ρ (opA x F) (a.eval x) := by
  cases x with
  | tmp n => exact fr.v n (by simpa [okO, Nat.blt_eq] using hx)
  | const v => exact RV_valA v
  | global g =>
    show RV P ρ (.p (gid g) 0) _
    simp only [RV]
    have hg : g < P.globals.size := by simpa [okO, Nat.blt_eq] using hx
    refine ⟨g, s.gl g hg, ?_⟩
    show _ = Value.pointer (some ⟨g, ρ.off (idOf g) + 0, none⟩)
    rw [(s.ct g hg).2]; rfl
  | func f => show RV P ρ (.f (.func f) [] []) _; simp only [RV, RL]; exact ⟨#[], #[], rfl, rfl, rfl⟩
end

/-! an operation -/
def XS (P : Program) (base N : Nat) (cl : Cl) (x : X) (o : Oper) : Prop :=
  ∀ (r : DV) (F : Fr) (h : Hp) (k : K) (ρ : Rn) (w : World) (a : Act) (next : Act → World → Prop) (Q : Exit → Act → World → Prop), FR P ρ N F a → Sim P base ρ h w → x cl F h k = .ok r →
    (∀ ρ' v h' v' w', Stp P base ρ h w ρ' h' w' → RV P ρ' v v' → k v h' = .ok r → next (a.put o.dst v') w') → o.wp P a w next Q
section
variable {P : Program} {base N : Nat} {cl : Cl} {x : X} {o : Oper}
theorem XS.of (H : ∀ {r : DV} (F : Fr) (h : Hp) (k : K) (ρ : Rn) (w : World) (a : Act), FR P ρ N F a → Sim P base ρ h w → x cl F h k = .ok r →
    ∃ ρ' v h' v' w', Stp P base ρ h w ρ' h' w' ∧ RV P ρ' v v' ∧ k v h' = .ok r ∧ (execOp a.eval o).run P w = .ok (.value v') w') : XS P base N cl x o :=
  fun r F h k ρ w a next Q fr s hx hk => by
    obtain ⟨ρ', v, h', v', w', st, rv, hok, hr⟩ := H F h k ρ w a fr s hx
    show o.upon P a next Q ((execOp a.eval o).run P w)
    rw [hr]; exact hk ρ' v h' v' w' st rv hok
theorem XS.ofSkip (H : ∀ {r : DV} (F : Fr) (h : Hp) (k : K) (ρ : Rn) (w : World) (a : Act), FR P ρ N F a → Sim P base ρ h w → x cl F h k = .ok r →
    ∃ ρ' h' w', Stp P base ρ h w ρ' h' w' ∧ k .u h' = .ok r ∧ (execOp a.eval o).run P w = .ok .skip w') : XS P base N cl x o :=
  fun r F h k ρ w a next Q fr s hx hk => by
    obtain ⟨ρ', h', w', st, hok, hr⟩ := H F h k ρ w a fr s hx
    show o.upon P a next Q ((execOp a.eval o).run P w)
    rw [hr]; exact hk ρ' .u h' undef w' st (by simp only [RV]) hok
/-- An operation that only computes. -/
theorem XS.pure (H : ∀ {r : DV} (F : Fr) (h : Hp) (k : K) (ρ : Rn) (w : World) (a : Act), FR P ρ N F a → Sim P base ρ h w → x cl F h k = .ok r →
    ∃ v v', RV P ρ v v' ∧ k v h = .ok r ∧ (execOp a.eval o).run P w = .ok (.value v') w) : XS P base N cl x o :=
  .of fun F h k ρ w a fr s hx => let ⟨v, v', rv, hok, hr⟩ := H F h k ρ w a fr s hx; ⟨ρ, v, h, v', w, .refl s, rv, hok, hr⟩
theorem XS.bad (n : Nat) : XS P base N cl (xBad n) o := fun _ _ _ _ _ _ _ _ _ _ _ hx _ => bad_ok hx

variable {u y c : Operand}
theorem mv_ok (ho : o.op = .move u ∨ o.op = .assign u) (hu : okO P u = true) : XS P base N cl (xMv (opA u)) o := .pure fun F h k ρ w a fr s hx =>
  ⟨_, a.eval u, opA_ok fr s hu, hx, by rcases ho with ho | ho <;> simp only [execOp, ho, Sem.run_pure]⟩
theorem pick_ok (ho : o.op = .pick c u y) (hc : okO P c = true) (hu : okO P u = true) (hy : okO P y = true) : XS P base N cl (xPick (opA c) (opA u) (opA y)) o := .pure fun F h k ρ w a fr s hx => by
  obtain ⟨b, hb, hx⟩ := asB_ok hx
  have rc := opA_ok fr s hc
  rw [hb] at rc; simp only [RV] at rc
  rw [cif_eq] at hx
  cases b
  · exact ⟨_, a.eval y, opA_ok fr s hy, hx, by simp [execOp, ho, rc, asBool]⟩
  · exact ⟨_, a.eval u, opA_ok fr s hu, hx, by simp [execOp, ho, rc, asBool]⟩
theorem nil_ok (ho : o.op = .nilCheck u) (hu : okO P u = true) : XS P base N cl (xNil (opA u)) o := .pure fun F h k ρ w a fr s hx => by
  obtain ⟨b, n, hb, hx⟩ := asP_ok hx
  have rc := opA_ok fr s hu
  rw [hb] at rc
  have rc' := rc
  simp only [RV] at rc
  obtain ⟨q, hq, he⟩ := rc
  exact ⟨.p b n, a.eval u, rc', hx, by simp [execOp, ho, he]⟩
theorem not_ok {t : TypeId} (ho : o.op = .unOp .not t u) (hu : okO P u = true) : XS P base N cl (xNot (opA u)) o := .pure fun F h k ρ w a fr s hx => by
  obtain ⟨b, hb, hx⟩ := asB_ok hx
  have rc := opA_ok fr s hu
  rw [hb] at rc; simp only [RV] at rc
  exact ⟨.b (!b), .bool !b, by simp only [RV], by simpa using hx, by simp [execOp, ho, rc, Op.unary]⟩
theorem neg_ok {t : TypeId} (ho : o.op = .unOp .neg t u) (hu : okO P u = true) : XS P base N cl (xNeg (opA u)) o := .pure fun F h k ρ w a fr s hx => by
  obtain ⟨kd, n, hb, hx⟩ := asI_ok hx
  have rc := opA_ok fr s hu
  rw [hb] at rc; simp only [RV] at rc
  rw [natF_eq, wrF_eq] at hx
  exact ⟨_, .int kd (kd.wrap (0 - n)), by simp only [RV]; rfl, hx, by simp [execOp, ho, rc, Op.unary, Op.intArith]⟩
theorem ext_ok {i : Nat} (ho : o.op = .extract u i) (hu : okO P u = true) : XS P base N cl (xExt (opA u) i) o := .pure fun F h k ρ w a fr s hx => by
  obtain ⟨l, hb, hx⟩ := asT_ok hx
  have rc := opA_ok fr s hu
  rw [hb] at rc; simp only [RV] at rc
  obtain ⟨cs, he, hl⟩ := rc
  have key : ∀ {r : DV} (l : List AV) (i : Nat), gL l i (fun v => k v h) (Ev.bad 30) = .ok r → i < l.length ∧ k (l.getD i .u) h = .ok r := by
    intro r0 l
    induction l with
    | nil => intro i hi; exact bad_ok hi
    | cons v rr ih =>
      intro i hi
      cases i with
      | zero => exact ⟨by simp, hi⟩
      | succ i => obtain ⟨h1, h2⟩ := ih i hi; exact ⟨by simpa using h1, by simpa using h2⟩
  obtain ⟨hi, hk⟩ := key l i hx
  obtain ⟨v, h1, h2⟩ := hl.get i hi
  have h1' : cs[i]? = some v := by simpa using h1
  exact ⟨_, v, h2, hk, by simp [execOp, ho, he, Instr.extract, h1']⟩

/-! operations on two numbers -/
theorem eqG_int (op : BinOp) (t : TypeId) (x y : Operand) (kd kd' : IntKind) (m n : Int) (w : World) : (eqGuard op t x y (.int kd m) (.int kd' n)).run P w = .ok () w := by
  cases op <;> rfl
section
variable {t t2 : TypeId} {op : BinOp}
theorem bin_int (ho : o.op = .binOp op t u y t2) {a : Act} {w : World} {kd : IntKind} {m n : Int} (hu : a.eval u = .int kd m) (hy : a.eval y = .int kd n) {v : Value}
    (hr : (binOp op t (.int kd m) (.int kd n)).run P w = .ok v w) : (execOp a.eval o).run P w = .ok (.value v) w := by
  simp [execOp, ho, hu, hy, eqG_int, hr]
theorem ii (hu : okO P u = true) (hy : okO P y = true) {F : Fr} {h : Hp} {ρ : Rn} {w : World} {a : Act} (fr : FR P ρ N F a) (s : Sim P base ρ h w) {kd : IntKind} {m n : Int}
    (h1 : opA u F = .i kd m) (h2 : opA y F = .i kd n) : a.eval u = .int kd m ∧ a.eval y = .int kd n := by
  have r1 := opA_ok fr s hu
  have r2 := opA_ok fr s hy
  rw [h1] at r1; rw [h2] at r2
  simp only [RV] at r1 r2
  exact ⟨r1, r2⟩
theorem i2_ok (f : Int → Int → Int) (ho : o.op = .binOp op t u y t2) (hu : okO P u = true) (hy : okO P y = true)
    (hf : ∀ kd m n w, (binOp op t (.int kd m) (.int kd n)).run P w = .ok (.int kd (kd.wrap (f m n))) w) : XS P base N cl (xI2 f (opA u) (opA y)) o := .pure fun F h k ρ w a fr s hx => by
  obtain ⟨kd, m, n, h1, h2, hx⟩ := asII_ok hx
  obtain ⟨e1, e2⟩ := ii hu hy fr s h1 h2
  rw [wrF_eq] at hx
  exact ⟨_, _, by simp only [RV], hx, bin_int ho e1 e2 (hf kd m n w)⟩
theorem ic_ok (f : Int → Int → Bool) (ho : o.op = .binOp op t u y t2) (hu : okO P u = true) (hy : okO P y = true)
    (hf : ∀ kd m n w, (binOp op t (.int kd m) (.int kd n)).run P w = .ok (.bool (f m n)) w) : XS P base N cl (xIc f (opA u) (opA y)) o := .pure fun F h k ρ w a fr s hx => by
  obtain ⟨kd, m, n, h1, h2, hx⟩ := asII_ok hx
  obtain ⟨e1, e2⟩ := ii hu hy fr s h1 h2
  rw [bF_eq] at hx
  exact ⟨_, _, by simp only [RV], hx, bin_int ho e1 e2 (hf kd m n w)⟩
/-! unknown numbers -/
theorem intE_ok {v : AV} {k : IntKind → Int → Res} {z : Res} (h : intE v k z = .ok r) : (∃ kd n, v = .i kd n ∧ k kd n = .ok r) ∨ (∀ kd n, v ≠ .i kd n) ∧ z = .ok r := by
  cases v <;> first | exact .inl ⟨_, _, rfl, h⟩ | exact .inr ⟨fun _ _ => by simp, h⟩
theorem den_even {A B : Nat} {M : Int} {k : Nat} (h : k % 2 = 0) : ∃ n : Int, den A B M k = .int .i64 n := by
  unfold den
  rw [if_neg (by omega)]
  split
  · exact ⟨_, rfl⟩
  · split
    · exact ⟨_, rfl⟩
    · split <;> exact ⟨_, rfl⟩
theorem RV_even {ρ : Rn} {h : Hp} {w : World} (s : Sim P base ρ h w) {y : Nat} {v : Value} (rv : RV P ρ (.y y) v) (h2 : y % 2 = 0) : ∃ n : Int, v = .int .i64 n := by
  simp only [RV] at rv
  obtain ⟨A, B, M, _, _, e⟩ := s.kn
  rw [rv.1, e]; exact den_even h2
theorem bndY_ok {α : Type} {ρ : Rn} {h : Hp} {w : World} (s : Sim P base ρ h w) {y : Nat} {v : Value} (rv : RV P ρ (.y y) v) {k : Nat → Nat → Option α} {x : α} (hx : bndY y k none = some x) :
    ∃ (n lo hi : Nat), v = .int .i64 n ∧ lo ≤ n ∧ n ≤ hi ∧ k lo hi = some x := by
  simp only [RV] at rv
  obtain ⟨A, B, M, hA, hB, e⟩ := s.kn
  rw [e] at rv
  have lA := dec_len hA
  have lB := dec_len hB
  unfold bndY at hx
  simp only [cif_eq, natF_eq, Nat.beq_eq, Nat.ble_eq] at hx
  have q1 : ∀ a b, Nat.mod a b = a % b := fun _ _ => rfl
  have q2 : ∀ a b, Nat.div a b = a / b := fun _ _ => rfl
  have q3 : ∀ a b, Nat.sub a b = a - b := fun _ _ => rfl
  have q4 : ∀ a b, Nat.add a b = a + b := fun _ _ => rfl
  have q5 : ∀ a b, Nat.mul a b = a * b := fun _ _ => rfl
  simp only [q1, q2, q3, q4, q5] at hx
  split at hx
  · rename_i h2
    have hd := rv.1
    unfold den at hd
    rw [if_neg (by omega)] at hd
    split at hx
    · split at hd
      · exact ⟨A, 0, _, hd, by omega, by omega, hx⟩
      · rw [if_pos (by omega)] at hd
        exact ⟨B, 0, _, hd, by omega, by omega, hx⟩
    · split at hx
      · rw [if_neg (by omega), if_neg (by omega), if_neg (by omega)] at hd
        generalize hp : (y / 2 - 8) / 4 % 4 = p at hx hd
        generalize hq : (y / 2 - 8) % 4 = q at hx hd
        have b1 : p * 1 ≤ p * (dec A).length := Nat.mul_le_mul_left _ lA.1
        have b2 : p * (dec A).length ≤ p * 10 := Nat.mul_le_mul_left _ lA.2
        have b3 : q * 1 ≤ q * (dec B).length := Nat.mul_le_mul_left _ lB.1
        have b4 : q * (dec B).length ≤ q * 10 := Nat.mul_le_mul_left _ lB.2
        exact ⟨_, _, _, hd, by omega, by omega, hx⟩
      · cases hx
  · cases hx
theorem ie_ok {neg : Bool} (ho : o.op = .binOp (if neg then .neq else .eql) t u y t2) (hu : okO P u = true) (hy : okO P y = true) : XS P base N cl (xIe neg (opA u) (opA y)) o := .pure fun F h k ρ w a fr s hx => by
  have hf : ∀ kd m n w, (binOp (if neg then .neq else .eql) t (.int kd m) (.int kd n)).run P w = .ok (.bool (if neg then !(m == n) else m == n)) w := by
    intro kd m n w; cases neg <;> simp [binOp, Op.intCmp] <;> rfl
  rcases intE_ok hx with ⟨kd, m, h1, hx⟩ | ⟨_, hx⟩
  · obtain ⟨kd', n, h2, hx⟩ := asI_ok hx
    rw [cif_eq] at hx
    rcases ite_ok hx with ⟨hk, hx3⟩ | ⟨_, hx⟩
    · have := kn_inj hk
      subst this
      obtain ⟨e1, e2⟩ := ii hu hy fr s h1 h2
      rw [bF_eq] at hx3
      refine ⟨_, _, ?_, hx3, bin_int ho e1 e2 (hf kd m n w)⟩
      simp only [RV]
      congr 1
      cases neg <;> simp [cif_eq, nt_eq, ieq_eq, Bool.beq_eq_decide_eq]
    · exact bad_ok hx
  · cases hu' : opA u F with
    | y p =>
      cases hy' : opA y F with
      | y q =>
        simp only [hu', hy', cif_eq, an_eq, nt_eq] at hx
        rcases ite_ok hx with ⟨hk, hx3⟩ | ⟨_, hx⟩
        · simp only [Bool.and_eq_true, Nat.beq_eq, Bool.not_eq_true', yOdd] at hk
          obtain ⟨rfl, hk⟩ := hk
          have r1 := opA_ok fr s hu
          have r2 := opA_ok fr s hy
          rw [hu'] at r1; rw [hy'] at r2
          have hp : p % 2 = 0 := by
            rcases Nat.mod_two_eq_zero_or_one p with e | e
            · exact e
            · have e' : Nat.mod p 2 = 1 := e
              rw [e'] at hk
              exact absurd hk (by decide)
          obtain ⟨n, e1⟩ := RV_even s r1 hp
          have e2 : a.eval y = .int .i64 n := by
            simp only [RV] at r1 r2; rw [r2.1, ← r1.1]; exact e1
          rw [bF_eq] at hx3
          refine ⟨_, _, ?_, hx3, bin_int ho e1 e2 (hf .i64 n n w)⟩
          simp only [RV]
          cases neg <;> simp
        · exact bad_ok hx
      | _ => simp only [hu', hy'] at hx; exact bad_ok hx
    | _ => simp only [hu'] at hx; exact bad_ok hx
theorem leO_ok {ρ : Rn} {h : Hp} {w : World} (s : Sim P base ρ h w) {v z : AV} {v' z' : Value} (rv : RV P ρ v v') (rz : RV P ρ z z') {b : Bool} (hx : leO v z = some b) :
    ∃ kd m n, v' = .int kd m ∧ z' = .int kd n ∧ b = decide (m ≤ n) := by
  have i64 : ∀ kd : IntKind, Nat.beq (kn kd) 3 = true → kd = .i64 := fun kd => by cases kd <;> first | exact fun _ => rfl | exact fun h => absurd (show (false : Bool) = true from h) Bool.false_ne_true
  unfold leO at hx
  split at hx
  · rename_i a kd n
    cases hk : Nat.beq (kn kd) 3 with
    | false => rw [hk] at hx; cases hx
    | true =>
      rw [hk] at hx
      have := i64 kd hk
      subst this
      obtain ⟨m, lo, hi, e1, l1, l2, hb⟩ := bndY_ok s rv (k := fun lo hi => cif (ile (.ofNat hi) n) (some true) (cif (ile (.ofNat lo) n) none (some false))) hx
      simp only [RV] at rz
      refine ⟨.i64, m, n, e1, rz, ?_⟩
      simp only [cif_eq, ile_eq] at hb
      split at hb
      · cases hb; rename_i h3
        have : (hi : Int) ≤ n := by simpa using h3
        symm; rw [decide_eq_true_eq]; omega
      · split at hb
        · cases hb
        · cases hb; rename_i h3 h4
          have : ¬ (lo : Int) ≤ n := by simpa using h4
          symm; rw [decide_eq_false_iff_not]; omega
  · rename_i kd m a
    cases hk : Nat.beq (kn kd) 3 with
    | false => rw [hk] at hx; cases hx
    | true =>
      rw [hk] at hx
      have := i64 kd hk
      subst this
      obtain ⟨n, lo, hi, e1, l1, l2, hb⟩ := bndY_ok s rz (k := fun lo hi => cif (ile m (.ofNat lo)) (some true) (cif (ile m (.ofNat hi)) none (some false))) hx
      simp only [RV] at rv
      refine ⟨.i64, m, n, rv, e1, ?_⟩
      simp only [cif_eq, ile_eq] at hb
      split at hb
      · cases hb; rename_i h3
        have : m ≤ (lo : Int) := by simpa using h3
        symm; rw [decide_eq_true_eq]; omega
      · split at hb
        · cases hb
        · cases hb; rename_i h3 h4
          have : ¬ m ≤ (hi : Int) := by simpa using h4
          symm; rw [decide_eq_false_iff_not]; omega
  · cases hx
theorem obX1_ok {x y : AV} {ob : Option Bool} {k : Bool → Res} (h : obX1 x y ob k = .ok r) : ∃ b, ob = some b ∧ k b = .ok r := by
  cases ob with
  | none => exact bad_ok h
  | some b => exact ⟨b, rfl, h⟩
def cmpB (sw neg : Bool) (m n : Int) : Bool := (if sw then decide (n ≤ m) else decide (m ≤ n)) != neg
theorem cmp_ok {op : BinOp} {sw neg : Bool} (ho : o.op = .binOp op t u y t2) (hu : okO P u = true) (hy : okO P y = true)
    (hf : ∀ kd m n w, (binOp op t (.int kd m) (.int kd n)).run P w = .ok (.bool (cmpB sw neg m n)) w) : XS P base N cl (xCmp sw neg (opA u) (opA y)) o := .pure fun F h k ρ w a fr s hx => by
  have slow : ∀ {r : DV}, (obX1 (opA u F) (opA y F) (cif sw (leO (opA y F) (opA u F)) (leO (opA u F) (opA y F))) fun b => bF (cif neg (nt b) b) fun v => k v h) = .ok r →
      ∃ v v', RV P ρ v v' ∧ k v h = .ok r ∧ (execOp a.eval o).run P w = .ok (.value v') w := by
    intro r hx
    obtain ⟨b, hb, hx4⟩ := obX1_ok hx
    rw [bF_eq] at hx4
    have r1 := opA_ok fr s hu
    have r2 := opA_ok fr s hy
    cases sw with
    | true =>
      obtain ⟨kd, m, n, e1, e2, eb⟩ := leO_ok s r2 r1 (show leO (opA y F) (opA u F) = some b from hb)
      refine ⟨_, _, ?_, hx4, bin_int ho e2 e1 (hf kd n m w)⟩
      simp only [RV]; congr 1; rw [eb]; cases neg <;> simp [cmpB]
    | false =>
      obtain ⟨kd, m, n, e1, e2, eb⟩ := leO_ok s r1 r2 (show leO (opA u F) (opA y F) = some b from hb)
      refine ⟨_, _, ?_, hx4, bin_int ho e1 e2 (hf kd m n w)⟩
      simp only [RV]; congr 1; rw [eb]; cases neg <;> simp [cmpB]
  rcases intE_ok hx with ⟨kd, m, h1, hx⟩ | ⟨_, hx⟩
  · rcases intE_ok hx with ⟨kd', n, h2, hx⟩ | ⟨_, hx⟩
    · rw [cif_eq] at hx
      rcases ite_ok hx with ⟨hk, hx3⟩ | ⟨_, hx⟩
      · have := kn_inj hk
        subst this
        obtain ⟨e1, e2⟩ := ii hu hy fr s h1 h2
        rw [bF_eq] at hx3
        refine ⟨_, _, ?_, hx3, bin_int ho e1 e2 (hf kd m n w)⟩
        simp only [RV]
        congr 1
        cases neg <;> cases sw <;> simp [cmpB, cif_eq, nt_eq, ile_eq]
      · exact bad_ok hx
    · exact slow hx
  · exact slow hx
theorem div_ok (ho : o.op = .binOp .quo t u y t2) (hu : okO P u = true) (hy : okO P y = true) : XS P base N cl (xDiv (opA u) (opA y)) o := .pure fun F h k ρ w a fr s hx => by
  obtain ⟨kd, m, n, h1, h2, hx⟩ := asII_ok hx
  obtain ⟨e1, e2⟩ := ii hu hy fr s h1 h2
  rw [cif_eq, ieq_eq] at hx
  rcases ite_ok hx with ⟨_, hx⟩ | ⟨hn, hx⟩
  · exact bad_ok hx
  · rw [wrF_eq] at hx
    have hn' : n ≠ 0 := by simpa using hn
    exact ⟨_, .int kd (kd.wrap (m.tdiv n)), by simp only [RV], hx, bin_int ho e1 e2 (by simp [binOp, Op.intDiv, hn'])⟩
theorem rem_ok (ho : o.op = .binOp .rem t u y t2) (hu : okO P u = true) (hy : okO P y = true) : XS P base N cl (xRem (opA u) (opA y)) o := .pure fun F h k ρ w a fr s hx => by
  obtain ⟨kd, m, n, h1, h2, hx⟩ := asII_ok hx
  obtain ⟨e1, e2⟩ := ii hu hy fr s h1 h2
  rw [cif_eq, ieq_eq] at hx
  rcases ite_ok hx with ⟨_, hx⟩ | ⟨hn, hx⟩
  · exact bad_ok hx
  · rw [intF_eq] at hx
    have hn' : n ≠ 0 := by simpa using hn
    exact ⟨_, .int kd (m.tmod n), by simp only [RV], hx, bin_int ho e1 e2 (by simp [binOp, Op.intDiv, hn'])⟩
theorem int2_ok {pp : Nat → Nat → Res} {a b : Int} (h : int2 pp (fun _ _ => Ev.bad 3) (fun _ _ => Ev.bad 3) (fun _ _ => Ev.bad 3) a b = .ok r) : ∃ m n : Nat, a = m ∧ b = n ∧ pp m n = .ok r := by
  cases a <;> cases b <;> first | exact ⟨_, _, rfl, rfl, h⟩ | exact bad_ok h
theorem lim_eq (kd : IntKind) : lim kd = 2 ^ (kd.bits - if kd.signed then 1 else 0) := by cases kd <;> rfl
theorem mod_small {kd : IntKind} {m : Nat} (h : m < lim kd) : m % 2 ^ kd.bits = m := by
  refine Nat.mod_eq_of_lt (Nat.lt_of_lt_of_le h ?_)
  rw [lim_eq]; exact Nat.pow_le_pow_right (by omega) (Nat.sub_le _ _)
theorem and_ok (ho : o.op = .binOp .and t u y t2) (hu : okO P u = true) (hy : okO P y = true) : XS P base N cl (xNN Nat.land (opA u) (opA y)) o := .pure fun F h k ρ w a fr s hx => by
  obtain ⟨kd, m, n, h1, h2, hx⟩ := asII_ok hx
  obtain ⟨e1, e2⟩ := ii hu hy fr s h1 h2
  obtain ⟨m, n, rfl, rfl, hz⟩ := int2_ok hx
  simp only [cif_eq, natF_eq] at hz
  rcases ite_ok hz with ⟨_, hx⟩ | ⟨hm, hx⟩
  · exact bad_ok hx
  rcases ite_ok hx with ⟨_, hx⟩ | ⟨hn, hx⟩
  · exact bad_ok hx
  have hm' : m < lim kd := by simpa [Nat.ble_eq] using hm
  have hn' : n < lim kd := by simpa [Nat.ble_eq] using hn
  refine ⟨_, .int kd ((m &&& n : Nat) : Int), by simp only [RV]; rfl, hx, bin_int ho e1 e2 ?_⟩
  simp [binOp, Op.intBits]
  rw [mod_small hm', mod_small hn']
  exact wrap_small kd (m &&& n) (Nat.lt_of_le_of_lt Nat.and_le_left hm')
theorem or_ok (ho : o.op = .binOp .or t u y t2) (hu : okO P u = true) (hy : okO P y = true) : XS P base N cl (xNN Nat.lor (opA u) (opA y)) o := .pure fun F h k ρ w a fr s hx => by
  obtain ⟨kd, m, n, h1, h2, hx⟩ := asII_ok hx
  obtain ⟨e1, e2⟩ := ii hu hy fr s h1 h2
  obtain ⟨m, n, rfl, rfl, hz⟩ := int2_ok hx
  simp only [cif_eq, natF_eq] at hz
  rcases ite_ok hz with ⟨_, hx⟩ | ⟨hm, hx⟩
  · exact bad_ok hx
  rcases ite_ok hx with ⟨_, hx⟩ | ⟨hn, hx⟩
  · exact bad_ok hx
  have hm' : m < lim kd := by simpa [Nat.ble_eq] using hm
  have hn' : n < lim kd := by simpa [Nat.ble_eq] using hn
  refine ⟨_, .int kd ((m ||| n : Nat) : Int), by simp only [RV]; rfl, hx, bin_int ho e1 e2 ?_⟩
  simp [binOp, Op.intBits]
  rw [mod_small hm', mod_small hn']
  refine wrap_small kd (m ||| n) ?_
  rw [lim_eq] at hm' hn' ⊢
  exact Nat.or_lt_two_pow hm' hn'
theorem sh_int (ho : o.op = .binOp op t u y t2) {a : Act} {w : World} {kd kd' : IntKind} {m n : Int} (hu : a.eval u = .int kd m) (hy : a.eval y = .int kd' n) {v : Value}
    (hr : (binOp op t (.int kd m) (.int kd' n)).run P w = .ok v w) : (execOp a.eval o).run P w = .ok (.value v) w := by
  simp [execOp, ho, hu, hy, eqG_int, hr]
theorem shl_ok (ho : o.op = .binOp .shl t u y t2) (hu : okO P u = true) (hy : okO P y = true) : XS P base N cl (xShl (opA u) (opA y)) o := .pure fun F h k ρ w a fr s hx => by
  obtain ⟨kd, m, h1, hx⟩ := asI_ok hx
  obtain ⟨kd', n, h2, hx⟩ := asI_ok hx
  have e1 := opA_ok fr s hu
  have e2 := opA_ok fr s hy
  rw [h1] at e1; rw [h2] at e2
  simp only [RV] at e1 e2
  obtain ⟨m, n, rfl, rfl, hz⟩ := int2_ok hx
  rw [cif_eq] at hz
  rcases ite_ok hz with ⟨hn, hx⟩ | ⟨_, hx⟩
  · rw [wrF_eq] at hx
    have hn' : n ≤ kd.bits := by simpa [Nat.ble_eq] using hn
    refine ⟨_, .int kd (kd.wrap ((m * 2 ^ n : Nat) : Int)), by simp only [RV]; rfl, hx, sh_int ho e1 e2 ?_⟩
    have e0 : ¬ ((n : Int) < 0) := by omega
    simp [binOp, Op.shift, e0, Nat.min_eq_left hn']
  · exact bad_ok hx
theorem shr_ok (ho : o.op = .binOp .shr t u y t2) (hu : okO P u = true) (hy : okO P y = true) : XS P base N cl (xShr (opA u) (opA y)) o := .pure fun F h k ρ w a fr s hx => by
  obtain ⟨kd, m, h1, hx⟩ := asI_ok hx
  obtain ⟨kd', n, h2, hx⟩ := asI_ok hx
  have e1 := opA_ok fr s hu
  have e2 := opA_ok fr s hy
  rw [h1] at e1; rw [h2] at e2
  simp only [RV] at e1 e2
  obtain ⟨m, n, rfl, rfl, hz⟩ := int2_ok hx
  rw [cif_eq] at hz
  rcases ite_ok hz with ⟨hn, hx⟩ | ⟨_, hx⟩
  · rw [natF_eq] at hx
    have hn' : n ≤ kd.bits := by simpa [Nat.ble_eq] using hn
    refine ⟨_, .int kd ((m / 2 ^ n : Nat) : Int), by simp only [RV]; rfl, hx, sh_int ho e1 e2 ?_⟩
    have e0 : ¬ ((n : Int) < 0) := by omega
    simp [binOp, Op.shift, e0, Nat.min_eq_left hn']
    rw [Int.fdiv_eq_ediv_of_nonneg _ (Int.le_of_lt (Int.pow_pos (by omega)))]
  · exact bad_ok hx
theorem mm_min (m n : Int) : minI m n = if n < m then n else m := by
  simp only [minI, cif_eq, ile_eq, decide_eq_true_eq]; split <;> split <;> omega
theorem mm_max (m n : Int) : maxI m n = if n > m then n else m := by
  simp only [maxI, cif_eq, ile_eq, decide_eq_true_eq]; split <;> split <;> omega
theorem cvI_ok {src dst : TypeId} {k0 kd : IntKind} (ho : o.op = .convert src dst u) (hs : P.underlying src = some (.int k0)) (hd : P.underlying dst = some (.int kd)) (hu : okO P u = true) :
    XS P base N cl (xCvI kd (lim kd) (opA u)) o := .pure fun F h k ρ w a fr s hx => by
  obtain ⟨kd', n, hb, hx⟩ := asI_ok hx
  have rc := opA_ok fr s hu
  rw [hb] at rc; simp only [RV] at rc
  rw [wrF_eq] at hx
  exact ⟨_, .int kd (kd.wrap n), by simp only [RV], hx, by simp [execOp, ho, rc, convert, underlying, hs, hd, Conv.intToInt]⟩
end
end
end Go.Ev
namespace Go.Ev
open Go Go.RowKit
theorem add_eq (a o n : Nat) : (⟨a, o, none⟩ : Addr).add n = ⟨a, o + n, none⟩ := by unfold Addr.add; split <;> simp_all
section
variable {P : Program} {base N : Nat} {ρ : Rn} {h : Hp} {w : World}
theorem cell_of {a j : Nat} {cs : Array Value} {e : TypeId} {f : Nat × Nat} (hw : w.heap[a]? = some (.cells cs e f)) : w.cell? ⟨a, j, none⟩ = cs[j]? := by
  simp only [World.cell?, hw]; rfl
theorem Sim.cellsR (s : Sim P base ρ h w) {b : Id} {a : Nat} (hb : ρ.blk b = some a) {own : Bool} {e : TypeId} {n : Nat} {t : CT} (ho : hat b h.t = .c own e n t) :
    ρ.ext b = n ∧ ρ.ty b = e ∧ n ≤ t.room ∧ ∃ cs lo hi, (∃ e', w.heap[a]? = some (.cells cs e' (lo, hi)) ∧ (own = true ∨ inBr b = false → e' = e)) ∧ cs.size = ρ.off b + ρ.csz b ∧ ρ.off b + n ≤ cs.size ∧
      (∀ j, j < n → ∃ v, cs[ρ.off b + j]? = some v ∧ RV P ρ (t.get j) v) ∧ (own = true → base ≤ a ∧ Thaw P e cs.size lo hi) := by
  have := s.ob b a hb; rw [ho] at this; exact this
theorem Sim.zero (s : Sim P base ρ h w) {b : Id} {a : Nat} (hb : ρ.blk b = some a) {e : TypeId} {n : Nat} {t : CT} (ho : hat b h.t = .c true e n t) : ρ.off b = 0 := s.oz b a hb (.inl (.inl ⟨e, n, t, ho⟩))
theorem Stp.off0 {ρ' : Rn} {w' : World} {id : Id} {x : HT} {nx a : Nat} {e : TypeId} {n : Nat} {t : CT} (st : Stp P base ρ h w ρ' ⟨hput id (.c true e n t) x, nx⟩ w') (hb : ρ'.blk id = some a) : ρ'.off id = 0 := st.sim.zero hb (e := e) (n := n) (t := t) (hat_hput_self ..)
theorem Sim.cells (s : Sim P base ρ h w) {b : Id} {a : Nat} (hb : ρ.blk b = some a) {e : TypeId} {n : Nat} {t : CT} (ho : hat b h.t = .c true e n t) :
    ρ.ext b = n ∧ ρ.ty b = e ∧ n ≤ t.room ∧ ∃ cs lo hi, w.heap[a]? = some (.cells cs e (lo, hi)) ∧ cs.size = ρ.csz b ∧ n ≤ cs.size ∧
      (∀ j, j < n → ∃ v, cs[j]? = some v ∧ RV P ρ (t.get j) v) ∧ (true = true → base ≤ a ∧ Thaw P e cs.size lo hi) := by
  have h1 := s.cellsR hb ho
  have z := s.zero hb ho
  simp only [z, Nat.zero_add] at h1
  obtain ⟨a1, a2, a3, cs, lo, hi, ⟨e', a4, a9⟩, a5, a6, a7, a8⟩ := h1
  obtain rfl := a9 (.inl trivial)
  exact ⟨a1, a2, a3, cs, lo, hi, a4, a5, a6, a7, fun _ => a8 trivial⟩
theorem Sim.cell (s : Sim P base ρ h w) {b : Id} {a : Nat} (hb : ρ.blk b = some a) {own : Bool} {e : TypeId} {n : Nat} {t : CT} (ho : hat b h.t = .c own e n t) {j : Nat} (hj : j < n) :
    ∃ v, w.cell? ⟨a, ρ.off b + j, none⟩ = some v ∧ RV P ρ (t.get j) v := by
  obtain ⟨_, _, _, cs, lo, hi, ⟨_, hw, _⟩, _, _, hc, _⟩ := s.cellsR hb ho
  obtain ⟨v, h1, h2⟩ := hc j hj
  exact ⟨v, by rw [cell_of hw, h1], h2⟩
/-- A run of cells, read. -/
theorem Sim.load (s : Sim P base ρ h w) {b : Id} {a : Nat} (hb : ρ.blk b = some a) {own : Bool} {e : TypeId} {n : Nat} {t : CT} (ho : hat b h.t = .c own e n t) {o m : Nat} (hj : o + m ≤ n) :
    ∃ l : List Value, (loadCells ⟨a, ρ.off b + o, none⟩ m).run P w = .ok l.toArray w ∧ RL P ρ (t.cells m o) l := by
  refine ⟨(List.range m).map fun j => (w.cell? ⟨a, ρ.off b + o + j, none⟩).getD undef, run_loadCells w _ m _ fun j hj' => ?_, ?_⟩
  · rw [add_eq]
    obtain ⟨v, h1, _⟩ := s.cell hb ho (j := o + j) (by omega)
    rw [Nat.add_assoc, h1]; rfl
  · rw [cells_eq]
    refine RL.of (by simp) fun j hj' => ?_
    simp only [List.length_map, List.length_range] at hj'
    obtain ⟨v, h1, h2⟩ := s.cell hb ho (j := o + j) (by omega)
    rw [← Nat.add_assoc] at h1
    exact ⟨v, by simp [hj', h1], by simpa [hj', List.getD] using h2⟩
theorem isSc_ok {v : AV} {v' : Value} (hs : isSc v = true) (rv : RV P ρ v v') : v'.oneCell' = true := by
  cases v <;> first
    | (exact absurd (show (false : Bool) = true from hs) Bool.false_ne_true)
    | (simp only [RV] at rv; subst rv; rfl)
    | (simp only [RV] at rv; obtain ⟨s, rfl, _⟩ := rv; rfl)
    | (simp only [RV] at rv; obtain ⟨s, _, rfl⟩ := rv; rfl)
    | (simp only [RV] at rv; obtain ⟨a, ad, cap, _, rfl, _⟩ := rv; rfl)
    | (simp only [RV] at rv; obtain ⟨a, b, rfl, _⟩ := rv; rfl)
    | (simp only [RV] at rv; obtain ⟨rfl, hsc⟩ := rv; revert hsc; cases ρ.sy _ <;> simp [Sc, Value.oneCell'])
theorem allSc_ok : ∀ {l : List AV} {l' : List Value}, allSc l = true → RL P ρ l l' → ∀ v ∈ l', v.oneCell' = true
  | [], _, _, rl, v, hv => by simp only [RL] at rl; subst rl; simp at hv
  | a :: x, _, hs, rl, v, hv => by
    simp only [RL] at rl
    obtain ⟨b, y, rfl, hb, hy⟩ := rl
    have hs' : an (isSc a) (allSc x) = true := hs
    rw [an_eq, Bool.and_eq_true] at hs'
    rcases List.mem_cons.1 hv with rfl | hv
    · exact isSc_ok hs'.1 hb
    · exact allSc_ok hs'.2 hy v hv
/-- Cells written one behind the other. -/
theorem storeCells_ok (g o : Nat) (e : TypeId) (lo hi : Nat) : ∀ (vs : List Value) (i : Nat) (w : World) (cs : Array Value), w.heap[g]? = some (.cells cs e (lo, hi)) → o + i + vs.length ≤ cs.size →
    (∀ v ∈ vs, v.oneCell' = true) → (∀ j, j < cs.size → ¬ (lo ≤ j ∧ j < hi)) →
    ∃ w' cs', (storeCells ⟨g, o, none⟩ vs i).run P w = .ok () w' ∧ w'.heap.size = w.heap.size ∧ (∀ k, k ≠ g → w'.heap[k]? = w.heap[k]?) ∧ w'.heap[g]? = some (.cells cs' e (lo, hi)) ∧
      cs'.size = cs.size ∧ (∀ j, cs'[j]? = if o + i ≤ j ∧ j < o + i + vs.length then vs[j - (o + i)]? else cs[j]?) ∧ w'.os = w.os ∧ w'.tape = w.tape ∧ w'.output = w.output
  | [], i, w, cs, hw, _, _, _ => ⟨w, cs, rfl, rfl, fun _ _ => rfl, hw, rfl, fun j => by rw [if_neg (by simp only [List.length_nil]; omega)], rfl, rfl, rfl⟩
  | v :: r, i, w, cs, hw, hsz, h1, hf => by
    simp only [List.length_cons] at hsz
    have hlt : o + i < cs.size := by omega
    have hcell : w.cell? ⟨g, o + i, none⟩ = some cs[o + i] := by rw [cell_of hw]; exact Array.getElem?_eq_getElem hlt
    have hfro : w.frozen? ⟨g, o + i, none⟩ = false := by
      simp only [World.frozen?, hw]
      have := hf _ hlt
      by_cases q : lo ≤ o + i <;> simp_all
    have hst : (store ((⟨g, o, none⟩ : Addr).add i) v).run P w = .ok () (w.setCell ⟨g, o + i, none⟩ v) := by
      rw [add_eq, run_store P w _ v _ (h1 v (by simp)), hcell]; simp [hfro]
    have hg : g < w.heap.size := by
      rcases Nat.lt_or_ge g w.heap.size with q | q
      · exact q
      · rw [Array.getElem?_eq_none q] at hw; cases hw
    have hw1 : (w.setCell ⟨g, o + i, none⟩ v).heap[g]? = some (.cells (cs.setIfInBounds (o + i) v) e (lo, hi)) := by
      simp [World.setCell, Array.getElem?_modify, hw]
    obtain ⟨w', cs', e1, e2, e3, e4, e5, e6, e7, e8, e9⟩ := storeCells_ok g o e lo hi r (i + 1) (w.setCell ⟨g, o + i, none⟩ v) (cs.setIfInBounds (o + i) v) hw1 (by simp; omega)
      (fun x hx => h1 x (by simp [hx])) (fun j hj => hf j (by simpa using hj))
    refine ⟨w', cs', ?_, e2.trans (by simp), fun k hk => (e3 k hk).trans (Below.heap_setCell _ _ _ _ hk), e4, e5.trans (by simp), fun j => ?_, e7, e8, e9⟩
    · simp only [storeCells, Sem.run_bind, hst, Result.andThen_ok, e1]
    · rw [e6 j]
      simp only [List.length_cons]
      by_cases q1 : o + (i + 1) ≤ j ∧ j < o + (i + 1) + r.length
      · rw [if_pos q1, if_pos (by omega), show j - (o + i) = (j - (o + (i + 1))) + 1 by omega, List.getElem?_cons_succ]
      · rw [if_neg q1]
        by_cases q2 : j = o + i
        · subst q2
          rw [if_pos (by omega), Nat.sub_self]
          simp [hlt]
        · rw [if_neg (by omega), Array.getElem?_setIfInBounds_ne (by omega)]
/-- Cells of a block of the call's own, written. -/
theorem Sim.store (s : Sim P base ρ h w) {b : Id} {a : Nat} (hb : ρ.blk b = some a) {e : TypeId} {n : Nat} {t : CT} (ho : hat b h.t = .c true e n t) {o : Nat} {l : List AV} {vs : List Value}
    (rl : RL P ρ l vs) (h1 : ∀ v ∈ vs, v.oneCell' = true) (hj : o + l.length ≤ n) {t' : CT} (hr : t'.room = t.room)
    (ht : ∀ p, p < t.room → t'.get p = if o ≤ p ∧ p < o + l.length then l.getD (p - o) .u else t.get p) :
    ∃ w', (storeCells ⟨a, ρ.off b + o, none⟩ vs).run P w = .ok () w' ∧ Stp P base ρ h w ρ ⟨hput b (.c true e n t') h.t, h.nx⟩ w' := by
  have z := s.zero hb ho
  rw [z, Nat.zero_add]
  obtain ⟨k1, k2, k3, cs, lo, hi, hw, k5, k6, k7, k8⟩ := s.cells hb ho
  obtain ⟨hba, hf⟩ := k8 rfl
  have hlen := rl.length
  obtain ⟨w', cs', e1, e2, e3, e4, e5, e6, e7, e8, e9⟩ := storeCells_ok (P := P) a o e lo hi vs 0 w cs hw (by omega) h1 (fun j hj => hf j (.inl hj))
  refine ⟨w', e1, .put s hb (.inl ⟨e, n, t, ho⟩) hba e2 e3 ⟨k1, k2, by omega, cs', lo, hi, ⟨_, e4, fun _ => rfl⟩, by omega, by omega, fun j hj' => ?_, fun _ => ⟨hba, fun j hj' => hf j (by rw [show cs.size = cs'.size by omega]; exact hj')⟩⟩ (fun q => by cases q) e7 e8 e9⟩
  rw [z, Nat.zero_add, ht j (by omega), e6 j]
  simp only [Nat.add_zero, ← hlen]
  by_cases q : o ≤ j ∧ j < o + l.length
  · rw [if_pos q, if_pos q]
    exact rl.get (j - o) (by omega)
  · rw [if_neg q, if_neg q]
    exact k7 j hj'
/-- A row of the call's own, new. -/
theorem Sim.row (s : Sim P base ρ h w) (hn : h.nx < 32768) {e : TypeId} {l : List AV} {vs : Array Value} {n : Nat} {t : CT} {w' : World} {lo hi : Nat} (hw' : w' = w.alloc (.cells vs e (lo, hi))) (hnn : n = l.length) (rl : RL P ρ l (vs.toList.take n)) (hle : n ≤ vs.size)
    (hf : Thaw P e vs.size lo hi) (hr : n ≤ t.room) (ht : ∀ p, p < n → t.get p = l.getD p .u) :
    ∃ ρ', Stp P base ρ h w ρ' ⟨hput (idOf h.nx) (.c true e n t) h.t, Nat.succ h.nx⟩ w' ∧ ρ'.blk (idOf h.nx) = some w.heap.size ∧ ρ'.csz (idOf h.nx) = vs.size ∧ ρ'.ext (idOf h.nx) = n ∧ ρ'.ty (idOf h.nx) = e := by
  refine ⟨_, .new s hn hw' (csz := vs.size) (ext := n) (ty := e) fun ρ' hρ hle' => ?_, by simp [Rn.add], by simp [Rn.add], by simp [Rn.add], by simp [Rn.add]⟩
  subst hρ
  refine ⟨by simp [Rn.add], by simp [Rn.add], hr, vs, lo, hi, ⟨_, by rw [hw']; show (w.heap.push _)[w.heap.size]? = _; simp, fun _ => rfl⟩, by simp [Rn.add], by simpa [Rn.add] using hle, fun j hj => ?_, fun _ => ⟨s.bs, hf⟩⟩
  obtain ⟨v, g1, g2⟩ := rl.get j (by omega)
  rw [List.getElem?_take] at g1
  rw [if_pos hj] at g1
  exact ⟨v, by simpa [Rn.add] using g1, RV.mono hle' _ _ (by rw [ht j hj]; exact g2)⟩
end
end Go.Ev
namespace Go.Ev
open Go Go.RowKit
variable {r : DV}
section
variable {P : Program} {base N : Nat} {cl : Cl} {o : Oper} {u y c : Operand}
theorem run_under {t : TypeId} {d : TypeDesc} (h : P.underlying t = some d) (w : World) : (underlying t).run P w = .ok d w := by
  simp [underlying, h]
theorem run_info {t : TypeId} {i : TypeInfo} (h : P.info? t = some i) (w : World) : (typeInfo t).run P w = .ok i w := by
  simp [typeInfo, h]
theorem run_size {t : TypeId} {i : TypeInfo} (h : P.info? t = some i) (w : World) : (sizeOf t).run P w = .ok i.size w := by
  simp [sizeOf, run_info h]
theorem run_zero {t : TypeId} {i : TypeInfo} {v : Value} (h : P.info? t = some i) (hz : i.zero = some v) (w : World) : (zeroValue t).run P w = .ok v w := by
  simp [zeroValue, run_info h, hz]
/-- Is a type one of several cells? -/
def agOf (P : Program) (t : TypeId) : Option Bool := match P.underlying t with
  | some (.struct _) | some (.array _ _) => some true
  | some _ => some false
  | none => none
theorem run_isAgg {t : TypeId} {g : Bool} (h : agOf P t = some g) (w : World) : (isAgg t).run P w = .ok g w := by
  unfold agOf at h
  cases hu : P.underlying t with
  | none => rw [hu] at h; cases h
  | some d => rw [hu] at h; cases d <;> (cases h; simp [isAgg, run_under hu])
theorem agF_eq {α : Type} (t : TypeId) (b : α) (k : Bool → α) : agF P t b k = match agOf P t with
    | some g => k g
    | none => b := by
  unfold agF agOf
  cases P.underlying t with
  | none => rfl
  | some d => cases d <;> rfl
theorem szF_eq {α : Type} (t : TypeId) (b : α) (k : Nat → α) : szF P t b k = match P.info? t with
    | some i => k i.size
    | none => b := by
  unfold szF; cases P.info? t <;> simp

theorem ld1_ok {t : TypeId} (ho : o.op = .load t u) (hu : okO P u = true) (hg : agOf P t = some false) : XS P base N cl (xLd1 (opA u)) o := .pure fun F h k ρ w a fr s hx => by
  obtain ⟨b, n, hb, hx⟩ := asP_ok hx
  have rc := opA_ok fr s hu
  rw [hb] at rc; simp only [RV] at rc
  obtain ⟨q, hq, he⟩ := rc
  obtain ⟨own, e, m, ct, hc, hx⟩ := cellsAt_ok hx
  rw [cif_eq] at hx
  rcases ite_ok hx with ⟨_, hx⟩ | ⟨hn, hx⟩
  · exact bad_ok hx
  obtain ⟨v, h1, h2⟩ := s.cell hq hc (j := n) (by simpa [Nat.ble_eq] using hn)
  exact ⟨_, v, h2, hx, by simp [execOp, ho, he, Instr.loadAt, Instr.sureAddr, loadVar, run_isAgg hg, h1]⟩
theorem ldN_ok {t : TypeId} {i : TypeInfo} (ho : o.op = .load t u) (hu : okO P u = true) (hg : agOf P t = some true) (hi : P.info? t = some i) : XS P base N cl (xLdN i.size (opA u)) o := .pure fun F h k ρ w a fr s hx => by
  obtain ⟨b, n, hb, hx⟩ := asP_ok hx
  have rc := opA_ok fr s hu
  rw [hb] at rc; simp only [RV] at rc
  obtain ⟨q, hq, he⟩ := rc
  obtain ⟨own, e, m, ct, hc, hx⟩ := cellsAt_ok hx
  rw [cif_eq] at hx
  rcases ite_ok hx with ⟨hn, hx⟩ | ⟨_, hx⟩
  · obtain ⟨l, h1, h2⟩ := s.load hq hc (o := n) (m := i.size) (by simpa [Nat.ble_eq] using hn)
    exact ⟨_, .agg l.toArray, by simp only [RV]; exact ⟨_, rfl, by simpa using h2⟩, hx, by simp [execOp, ho, he, Instr.loadAt, Instr.sureAddr, loadVar, run_isAgg hg, run_size hi, h1]⟩
  · exact bad_ok hx
theorem cells_one {v : Value} (h : v.oneCell' = true) : v.cells = #[v] := by cases v <;> first | rfl | cases h
theorem st1_ok {t : TypeId} {i : TypeInfo} (ho : o.op = .store t u y) (hu : okO P u = true) (hy : okO P y = true) (hi : P.info? t = some i) (h1 : i.size = 1) : XS P base N cl (xSt1 (opA u) (opA y)) o := .ofSkip fun F h k ρ w a fr s hx => by
  obtain ⟨b, n, hb, hx⟩ := asP_ok hx
  have rc := opA_ok fr s hu
  rw [hb] at rc; simp only [RV] at rc
  obtain ⟨q, hq, he⟩ := rc
  obtain ⟨own, e, m, ct, hc, hx⟩ := cellsAt_ok hx
  simp only [cif_eq, an_eq, nt_eq] at hx
  rcases ite_ok hx with ⟨hn, hx⟩ | ⟨_, hx⟩
  · simp only [Bool.and_eq_true, Bool.not_eq_true'] at hn
    obtain ⟨hown, hsc, hlt⟩ := hn
    subst hown
    have hlt : n < m := Nat.lt_of_not_le fun q => by rw [Nat.ble_eq_true_of_le q] at hlt; cases hlt
    have rv := opA_ok fr s hy
    have hone := isSc_ok hsc rv
    have hroom := (s.cells hq hc).2.2.1
    obtain ⟨w', e1, st⟩ := s.store hq hc (o := n) (l := [opA y F]) (vs := [a.eval y]) (by simp only [RL]; exact ⟨_, _, rfl, rv, rfl⟩) (by simpa using hone) (by simp only [List.length_singleton]; omega) (CT.room_set ..)
      fun p hp => by
        rw [CT.get_set (opA y F) ct (o := n) (by omega) hp]
        simp only [List.length_singleton]
        by_cases q : p = n
        · subst q; rw [if_pos rfl, if_pos (by omega), Nat.sub_self]; rfl
        · rw [if_neg q, if_neg (by omega)]
    exact ⟨ρ, _, w', st, hx, by simp [execOp, ho, he, Instr.storeAt, Instr.sureAddr, storeVar, run_size hi, h1, cells_one hone, e1]⟩
  · exact bad_ok hx
theorem lenL_eq : ∀ l : List AV, lenL l = l.length
  | [] => rfl
  | _ :: r => congrArg Nat.succ (lenL_eq r)
/-- The cells of a value. -/
theorem cellsOf_ok {ρ : Rn} {v : AV} {v' : Value} (rv : RV P ρ v v') (hv : v ≠ .u) : RL P ρ (cellsOf v) v'.cells.toList := by
  cases v <;> first
    | (exact absurd rfl hv)
    | (simp only [RV] at rv; obtain ⟨c, rfl, hl⟩ := rv; first | exact hl | (show RL P ρ [_] [_]; simp only [RL, RV]; exact ⟨_, _, rfl, ⟨c, rfl, hl⟩, rfl⟩))
    | (have rv' := rv
       simp only [RV] at rv
       have hone : v'.oneCell' = true := isSc_ok rfl rv'
       rw [cells_one hone]
       show RL P ρ [_] [_]
       simp only [RL]; exact ⟨_, _, rfl, rv', rfl⟩)
theorem allSc_u {l : List AV} (h : allSc l = true) : ∀ v ∈ l, v ≠ .u := by
  induction l with
  | nil => intro v hv; simp at hv
  | cons a r ih =>
    have hs' : an (isSc a) (allSc r) = true := h
    rw [an_eq, Bool.and_eq_true] at hs'
    intro v hv
    rcases List.mem_cons.1 hv with rfl | hv
    · intro e; subst e; exact absurd (show (false : Bool) = true from hs'.1) Bool.false_ne_true
    · exact ih hs'.2 v hv
theorem stN_ok {t : TypeId} {i : TypeInfo} (ho : o.op = .store t u y) (hu : okO P u = true) (hy : okO P y = true) (hi : P.info? t = some i) : XS P base N cl (xStN i.size (opA u) (opA y)) o := .ofSkip fun F h k ρ w a fr s hx => by
  obtain ⟨b, n, hb, hx⟩ := asP_ok hx
  have rc := opA_ok fr s hu
  rw [hb] at rc; simp only [RV] at rc
  obtain ⟨q, hq, he⟩ := rc
  obtain ⟨own, e, m, ct, hc, hx⟩ := cellsAt_ok hx
  simp only [cif_eq, an_eq, natF_eq, lenL_eq] at hx
  rcases ite_ok hx with ⟨hn, hx⟩ | ⟨_, hx⟩
  · simp only [Bool.and_eq_true, Nat.ble_eq] at hn
    obtain ⟨hown, hsc, hle⟩ := hn
    subst hown
    rcases ite_ok hx with ⟨hq1, hx⟩ | ⟨_, hx⟩
    · have hlen : (cellsOf (opA y F)).length = i.size := by simpa using hq1
      have rv := opA_ok fr s hy
      have hu' : opA y F ≠ .u := fun e => by rw [e] at hsc; exact absurd (show (false : Bool) = true from hsc) Bool.false_ne_true
      have rl := cellsOf_ok rv hu'
      have hroom := (s.cells hq hc).2.2.1
      have hle' : n + i.size ≤ m := by simpa [Nat.ble_eq] using hle
      obtain ⟨g1, g2⟩ := setL_ok (cellsOf (opA y F)) n ct (by omega)
      obtain ⟨w', e1, st⟩ := s.store hq hc (o := n) rl (allSc_ok hsc rl) (by omega) g1 g2
      have hl2 := rl.length
      exact ⟨ρ, _, w', st, hx, by simp [execOp, ho, he, Instr.storeAt, Instr.sureAddr, storeVar, run_size hi, show (a.eval y).cells.size = i.size by simpa [hlen] using hl2.symm, e1]⟩
    · exact bad_ok hx
  · exact bad_ok hx
theorem fa_ok {t : TypeId} {f : Nat} {fd : Field} {i : TypeInfo} (ho : o.op = .fieldAddr t u f) (hu : okO P u = true) (hf : fldOf P t f = some fd) (hi : P.info? fd.type = some i) (h0 : i.size ≠ 0) :
    XS P base N cl (xFa fd.offset (opA u)) o := .pure fun F h k ρ w a fr s hx => by
  obtain ⟨b, n, hb, hx⟩ := asP_ok hx
  have rc := opA_ok fr s hu
  rw [hb] at rc; simp only [RV] at rc
  obtain ⟨q, hq, he⟩ := rc
  rw [natF_eq] at hx
  unfold fldOf at hf
  cases hu : P.underlying t with
  | none => rw [hu] at hf; cases hf
  | some d =>
    rw [hu] at hf
    cases d <;> try cases hf
    rename_i fs
    exact ⟨_, .pointer (some ⟨q, ρ.off b + (n + fd.offset), none⟩), by simp only [RV]; exact ⟨q, hq, rfl⟩, hx,
      by simp [execOp, ho, he, Instr.fieldAt, Instr.sureAddr, run_under hu, show fs[f]? = some fd from hf, fieldPlace, run_size hi, h0, add_eq, Nat.add_assoc]⟩
theorem takeL_eq : ∀ (l : List AV) (n : Nat), takeL l n = l.take n
  | [], n => by simp [takeL]
  | v :: r, 0 => rfl
  | v :: r, n + 1 => by show v :: takeL r n = _; rw [takeL_eq r n]; rfl
theorem dropL_eq : ∀ (n : Nat) (l : List AV), dropL n l = l.drop n
  | 0, _ => rfl
  | n + 1, [] => rfl
  | n + 1, _ :: r => by show dropL n r = _; rw [dropL_eq n r]; rfl
theorem gL_ok {k : AV → Res} {n : Nat} : ∀ (l : List AV) (i : Nat), gL l i k (Ev.bad n) = .ok r → i < l.length ∧ k (l.getD i .u) = .ok r := by
  intro l
  induction l with
  | nil => intro i hi; exact bad_ok hi
  | cons v r ih =>
    intro i hi
    cases i with
    | zero => exact ⟨by simp, hi⟩
    | succ i => obtain ⟨h1, h2⟩ := ih i hi; exact ⟨by simpa using h1, by simpa using h2⟩
theorem RL.take {ρ : Rn} : ∀ {l : List AV} {l' : List Value} (n : Nat), RL P ρ l l' → RL P ρ (l.take n) (l'.take n)
  | [], _, n, h => by simp only [RL] at h; subst h; simp [RL]
  | a :: x, _, 0, h => by simp [RL]
  | a :: x, _, n + 1, h => by
    simp only [RL] at h
    obtain ⟨b, y, rfl, hb, hy⟩ := h
    simp only [List.take_succ_cons, RL]
    exact ⟨b, _, rfl, hb, RL.take n hy⟩
theorem RL.drop {ρ : Rn} : ∀ {l : List AV} {l' : List Value} (n : Nat), RL P ρ l l' → RL P ρ (l.drop n) (l'.drop n)
  | [], _, n, h => by simp only [RL] at h; subst h; simp [RL]
  | a :: x, _, 0, h => h
  | a :: x, _, n + 1, h => by
    simp only [RL] at h
    obtain ⟨b, y, rfl, hb, hy⟩ := h
    exact RL.drop n hy
/-- A part of a row of cells. -/
theorem part_ok {ρ : Rn} {t : TypeId} {g : Bool} {i : TypeInfo} (hg : agOf P t = some g) (hi : P.info? t = some i) {l : List AV} {cs : Array Value} (rl : RL P ρ l cs.toList) {off : Nat} {k : AV → Res} (w : World)
    (hx : partL g i.size l off k = .ok r) : ∃ v v', RV P ρ v v' ∧ k v = .ok r ∧ (part t cs off).run P w = .ok v' w := by
  unfold partL at hx
  rw [cif_eq] at hx
  rcases ite_ok hx with ⟨hgt, hx⟩ | ⟨hgt, hx⟩
  · subst hgt
    rw [takeL_eq, dropL_eq] at hx
    refine ⟨_, .agg (cs.extract off (off + i.size)), ?_, hx, by simp [part, run_isAgg hg, run_size hi]⟩
    simp only [RV]
    exact ⟨_, rfl, by simpa [Array.toList_extract] using (rl.drop off).take i.size⟩
  · have hgf : g = false := by simpa using hgt
    subst hgf
    obtain ⟨h1, h2⟩ := gL_ok l off hx
    obtain ⟨v, h3, h4⟩ := rl.get off h1
    have h3' : cs[off]? = some v := by simpa using h3
    exact ⟨_, v, h4, h2, by simp [part, run_isAgg hg, h3']⟩
theorem fd_ok {t : TypeId} {f : Nat} {fd : Field} {g : Bool} {i : TypeInfo} (ho : o.op = .field t u f) (hu : okO P u = true) (hf : fldOf P t f = some fd) (hg : agOf P fd.type = some g) (hi : P.info? fd.type = some i) :
    XS P base N cl (xFd g i.size fd.offset (opA u)) o := .pure fun F h k ρ w a fr s hx => by
  obtain ⟨l, hb, hx⟩ := asG_ok hx
  have rc := opA_ok fr s hu
  rw [hb] at rc; simp only [RV] at rc
  obtain ⟨cs, he, rl⟩ := rc
  obtain ⟨v, v', rv, hk, hr⟩ := part_ok hg hi rl w hx
  unfold fldOf at hf
  cases hu : P.underlying t with
  | none => rw [hu] at hf; cases hf
  | some d =>
    rw [hu] at hf
    cases d <;> try cases hf
    rename_i fs
    exact ⟨v, v', rv, hk, by simp [execOp, ho, he, Instr.field, run_under hu, show fs[f]? = some fd from hf, asAgg, hr]⟩
theorem inI_ok {i : AV} {n : Nat} {k : Nat → Res} (h : inI i n k = .ok r) : ∃ kd m, i = .i kd (m : Nat) ∧ m < n ∧ k m = .ok r := by
  obtain ⟨kd, z, hi, h⟩ := asI_ok h
  cases z with
  | ofNat m =>
    have h' : cif (Nat.ble n m) (Ev.bad 16) (k m) = .ok _ := h
    rw [cif_eq] at h'
    rcases ite_ok h' with ⟨_, h'⟩ | ⟨h1, h'⟩
    · exact bad_ok h'
    · exact ⟨kd, m, hi, by simpa [Nat.ble_eq] using h1, h'⟩
  | negSucc m => exact bad_ok h
theorem iaS_ok {t e : TypeId} {i : TypeInfo} (ho : o.op = .indexAddr t u y) (hu : okO P u = true) (hy : okO P y = true) (ht : P.underlying t = some (.slice e)) (hi : P.info? e = some i) :
    XS P base N cl (xIaS i.size (opA u) (opA y)) o := .pure fun F h k ρ w a fr s hx => by
  rcases asSl_ok hx with ⟨_, hx⟩ | ⟨b, n, m, hb, hx⟩
  · exact bad_ok hx
  obtain ⟨kd, j, hj, hlt, hx⟩ := inI_ok hx
  rw [natF_eq] at hx
  have rc := opA_ok fr s hu
  have ri := opA_ok fr s hy
  rw [hb] at rc; rw [hj] at ri
  simp only [RV] at rc ri
  obtain ⟨q, ad, cap, hq, he, hcap, hd⟩ := rc
  rcases hd with ⟨had, _⟩ | ⟨h0, _⟩
  · subst had
    exact ⟨_, .pointer (some ⟨q, ρ.off b + (n + j * i.size), none⟩), by simp only [RV]; exact ⟨q, hq, rfl⟩, hx,
      by simp [execOp, ho, he, ri, Instr.indexAt, asIntOf, run_under ht, run_size hi, add_eq, hlt, Nat.add_assoc]⟩
  · omega
theorem iaA_ok {t e : TypeId} {len : Nat} {i : TypeInfo} (ho : o.op = .indexAddr t u y) (hu : okO P u = true) (hy : okO P y = true) (ht : P.underlying t = some (.array len e)) (hi : P.info? e = some i) :
    XS P base N cl (xIaA len i.size (opA u) (opA y)) o := .pure fun F h k ρ w a fr s hx => by
  obtain ⟨b, n, hb, hx⟩ := asP_ok hx
  obtain ⟨kd, j, hj, hlt, hx⟩ := inI_ok hx
  rw [natF_eq] at hx
  have rc := opA_ok fr s hu
  have ri := opA_ok fr s hy
  rw [hb] at rc; rw [hj] at ri
  simp only [RV] at rc ri
  obtain ⟨q, hq, he⟩ := rc
  exact ⟨_, .pointer (some ⟨q, ρ.off b + (n + j * i.size), none⟩), by simp only [RV]; exact ⟨q, hq, rfl⟩, hx,
    by simp [execOp, ho, he, ri, Instr.indexAt, Instr.sureAddr, asIntOf, run_under ht, run_size hi, add_eq, hlt, Nat.add_assoc]⟩
theorem ixA_ok {t e : TypeId} {len : Nat} {g : Bool} {i : TypeInfo} (ho : o.op = .index t u y) (hu : okO P u = true) (hy : okO P y = true) (ht : P.underlying t = some (.array len e)) (hg : agOf P e = some g) (hi : P.info? e = some i) :
    XS P base N cl (xIxA len g i.size (opA u) (opA y)) o := .pure fun F h k ρ w a fr s hx => by
  obtain ⟨l, hb, hx⟩ := asG_ok hx
  obtain ⟨kd, j, hj, hlt, hx⟩ := inI_ok hx
  have rc := opA_ok fr s hu
  have ri := opA_ok fr s hy
  rw [hb] at rc; rw [hj] at ri
  simp only [RV] at rc ri
  obtain ⟨cs, he, rl⟩ := rc
  obtain ⟨v, v', rv, hk, hr⟩ := part_ok hg hi rl w hx
  have hr' : (part e cs (j * i.size)).run P w = .ok v' w := hr
  exact ⟨v, v', rv, hk, by simp [execOp, ho, he, ri, Instr.index, asIntOf, run_under ht, run_size hi, hlt, hr']⟩
end
end Go.Ev
