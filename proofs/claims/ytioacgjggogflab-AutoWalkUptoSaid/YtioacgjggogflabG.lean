/-
  The reference's inside, lists, renamed; slices.Clone of ways.
-/
import Derived.Test.YtioacgjggogflabF
namespace Go.Proofs.Ytioacgjggogflab
open Go.ChangeShapes Go.WideShapes Go.ChangeAt Go.RowKit Go.Deep Go.Joins Go.Instr
theorem sl_cells {α : Type} [Inhabited α] {w : World} {sz : Nat} (hsz : 0 < sz) {enc : α → Nat → Value} {ad : Addr} {n c : Nat} {l : List α} (h : Sl w sz enc (.slice (some ad) n c) l) : ∀ j u, (fle sz enc l)[j]? = some u → w.cell? (ad.add j) = some u := by
  intro j u hj
  have hlt : j < l.length * sz := by
    have := (List.getElem?_eq_some_iff.1 hj).1
    rwa [fle_len] at this
  obtain ⟨a, cap, e, h2, h3, h4⟩ := h
  injection e with e1 e2 e3
  have h0 : 0 < l.length := by
    rcases Nat.eq_zero_or_pos l.length with h | h
    · rw [h] at hlt; simp at hlt
    · exact h
  obtain ⟨b, off, e, hb, hc⟩ := h4 h0
  rw [← e1] at e
  injection e with e
  subst e
  have hi : j / sz < l.length := (Nat.div_lt_iff_lt_mul hsz).2 hlt
  have hr : j % sz < sz := Nat.mod_lt _ hsz
  have h5 := hc (j / sz) hi (j % sz) hr
  have h6 := fle_at sz enc l (j / sz) (j % sz) hi hr
  have e7 : j / sz * sz + j % sz = j := by rw [Nat.mul_comm]; exact Nat.div_add_mod j sz
  rw [e7] at h6
  rw [Nat.add_assoc, e7] at h5
  rw [h6] at hj
  have ha : (⟨b, off, none⟩ : Addr).add j = ⟨b, off + j, none⟩ := by
    simp [Addr.add]
  rw [ha, h5, ← hj]
theorem one_fle {α : Type} {sz : Nat} {enc : α → Nat → Value} {l : List α} (h : ∀ x ∈ l, ∀ j, j < sz → (enc x j).oneCell' = true) : ∀ u ∈ fle sz enc l, u.oneCell' = true := by
  intro u hu
  obtain ⟨x, hx, hu⟩ := List.mem_flatMap.1 hu
  obtain ⟨j, hj, rfl⟩ := List.mem_map.1 hu
  exact h x hx j (List.mem_range.1 hj)
/-- append of a list that reads to a row of the call's own. -/
theorem wpList_app {α : Type} [Inhabited α] {T E sz : Nat} (hT : ElT T E sz) {w : World} {ops : Array Oper} {rest : List Oper} {o : Oper} {a : Act} {Q : Exit → Act → World → Prop} (hgd : o.guard = none) (s x : Operand)
    (ho : o.op = .call { callee := .builtin .append, args := #[s, x], argTypes := #[T, T] })
    (base : Nat) (enc : α → Nat → Value) (v : Value) (l1 : List α) (hs : a.eval s = v) (hown : Ow w base E sz enc v l1)
    (v2 : Value) (l2 : List α) (hx : a.eval x = v2) (hsl : Sl w sz enc v2 l2) (hn : Sn v2) (h1 : ∀ x ∈ l2, ∀ j, j < sz → (enc x j).oneCell' = true)
    (h63 : l1.length + l2.length ≤ 1000000000) (hbase : base ≤ w.heap.size)
    (h : ∀ v' w', Ow w' base E sz enc v' (l1 ++ l2) → w.grownBy w' v.ownBlock → wpList Try.prog ops Q rest (a.put o.dst v') w') : wpList Try.prog ops Q (o :: rest) a w := by
  obtain ⟨i, z, hi, hz, hs1, hz2, hby⟩ := hT.ex
  have hsl' := hsl
  obtain ⟨a2, cap, rfl, hc, hm, hcell⟩ := hsl
  cases a2 with
  | none =>
    have hl : l2 = [] := by
      cases l2 with
      | nil => rfl
      | cons y r =>
        obtain ⟨b, off, h2, -⟩ := hcell (by simp)
        simp at h2
    subst hl
    obtain rfl : cap = 0 := hn _ _ rfl
    refine wpList_append_own_none hgd s x T ho base E i sz hT.und hi v l1.length (fle sz enc l1) hs hown hx ?_
    have h2 := h v w
    simp only [List.append_nil] at h2
    exact h2 hown ⟨rfl, rfl, rfl, Nat.le_refl _, fun _ _ _ => rfl⟩
  | some ad =>
    refine wpList_append_own w hgd s x T ho base E i z sz i.bytes hT.und hi hz hs1 rfl hz2 hT.pos v l1.length (fle sz enc l1) hs hown ad l2.length cap (fle sz enc l2) hx (fle_len _ _ _) (sl_cells hT.pos hsl') (one_fle h1) (by unfold maxLen; omega) ?_ hbase fun v' w' h2 h3 _ => h v' w' ?_ h3
    · have := Nat.mul_le_mul h63 hby
      omega
    · unfold Ow
      rw [fle_app, List.length_append]
      exact h2
def inF (n : Nat) (i : Int) : Bool := decide (0 ≤ i) && decide (i < n)
set_option maxHeartbeats 2000000 in
theorem inside_any (x : PrD) (i : Int) (w : World) (hx : x.rd w) : Calls Try.prog 24 #[x.val, .int .i64 i] w fun e w' => e = .returned (.bool (inF x.locs.length i)) ∧ Below w.heap.size w w' := by
  obtain ⟨xn, xp, xf, xi, xl, x5, x6, x7, x8, x9, xfr, xin, xlo⟩ := x
  obtain ⟨fa, fc, h1, -, -⟩ := sl_open hx.fv
  obtain ⟨ia, ic, h2, -, -⟩ := sl_open hx.iv
  obtain ⟨la, lc, h3, -, -⟩ := sl_open hx.lv
  simp only at h1 h2 h3
  subst h1; subst h2; subst h3
  clear hx
  unfold PrD.val
  simp only
  by_cases h0 : (0 : Int) ≤ i
  · by_cases h1 : i < (xlo.length : Int)
    · go_enter Try.func24, Try.ntmps24
      go_wp2
      go_ret
      exact ⟨retb (by simp [inF, h0, h1]), by go_grown⟩
    · go_enter Try.func24, Try.ntmps24
      go_wp2
      go_ret
      exact ⟨retb (by simp [inF, h1]), by go_grown⟩
  · go_enter Try.func24, Try.ntmps24
    go_wp2
    go_ret
    exact ⟨retb (by simp [inF]; omega), by go_grown⟩
theorem own_lit1 (w : World) (base n : Nat) (v : Value) (l : List TrD) (hn : n = w.heap.size) (hb : base ≤ w.heap.size) : Ow (w.alloc (.cells #[v] 33)) base 33 1 EsD.enc (.slice (some ⟨n, 0, none⟩) 1 1) [⟨v, l⟩] := by
  subst hn
  exact World.ownsRow_lit w _ 1 hb (by decide) rfl
def LoD.val (x : LoD) : Value := .agg #[x.ov, x.ev, .bool x.atomic, .bool x.dstep, .bool x.e, .bool x.acc, .bool x.pro]
set_option maxHeartbeats 2000000 in
theorem lists_any (x : LoD) (w : World) (hx : x.rd w) (hn : Sn x.ev) (hz : x.esc.length ≤ 1048576) :
    Calls Try.prog 18 #[x.val] w fun e w' => ∃ v, e = .returned v ∧ Ow w' w.heap.size 33 1 EsD.enc v (⟨x.ov, x.out⟩ :: x.esc) ∧ Below w.heap.size w w' := by
  have HE1 : Hid (∀ t ∈ x.esc, ∀ j, j < 1 → (EsD.enc t j).oneCell' = true) := fun t ht j _ => by
    obtain ⟨a, c, e, -, -⟩ := sl_open (hx.esc t ht).1
    show t.v.oneCell' = true
    rw [e]; rfl
  obtain ⟨xo, xe, x2, x3, x4, x5, x6, xw, xs⟩ := x
  have HEV := Lib.hid hx.ev
  obtain ⟨oa, oc, h1, -, -⟩ := sl_open hx.ov
  obtain ⟨ea, ec, h2, -, -⟩ := sl_open hx.ev
  simp only at h1 h2 HEV HE1 hn hz
  subst h1; subst h2
  have HN := Lib.hid hn
  clear hx hn
  unfold LoD.val
  simp only
  go_enter Try.func18, Try.ntmps18
  go_wp2_with (at_builtin; go_must (refine wpList_app elt34 rfl _ _ rfl w.heap.size EsD.enc (.slice (some ⟨w.heap.size + 1, 0, none⟩) 1 1) [⟨.slice oa xw.length oc, xw⟩] rfl (own_lit1 _ _ _ _ _ (by simp) (by simp)) (.slice ea xs.length ec) xs rfl (HEV.out.keep (((Below.refl _ _).alloc (Nat.le_refl _) _).alloc (by simp) _)) HN.out HE1.out (by simp; omega) (by simp; omega) ?c4))
  case c4 =>
    intro v' w' h1 h2
    have HO := Lib.hid h1
    have HB : Hid (Below w.heap.size w w') := (((Below.refl _ _).alloc (Nat.le_refl _) _).alloc (by simp) _).grown h2 (by simp; omega) (fun k hk => by simp [Value.ownBlock] at hk; omega)
    clear h1 h2
    go_wp2
    go_ret
    exact ⟨v', rfl, HO.out, HB.out⟩
end Go.Proofs.Ytioacgjggogflab
