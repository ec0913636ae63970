/-
  Rows of tokens that a call makes; append to them; slices.Clone of tokens; slices.IndexFunc asked for the end.
-/
import Derived.Test.YtaliplbbmhfenaaC
import Derived.OwnWalk
import Derived.Laws.AppendOwnNone
import Derived.WalkSpells
namespace Go.Proofs.Ytaliplbbmhfenaa
open Go.ChangeShapes Go.WideShapes Go.ChangeAt Go.RowKit Go.Deep Go.Joins
/-- The cells of tokens, one behind the other. -/
def fl (l : List TkD) : List Value := l.flatMap TkD.cs
theorem fl_nil : fl [] = [] := rfl
theorem fl_one (x : TkD) : fl [x] = x.cs := by simp [fl]
theorem fl_app (a b : List TkD) : fl (a ++ b) = fl a ++ fl b := by simp [fl]
theorem fl_len (l : List TkD) : (fl l).length = l.length * 5 := by
  induction l with
  | nil => rfl
  | cons x l ih =>
    show (x.cs ++ fl l).length = _
    rw [List.length_append, ih, List.length_cons]
    show 5 + _ = _
    omega
theorem cs_enc (x : TkD) (j : Nat) (h : j < 5) : x.cs[j]? = some (x.enc j) := by
  match j, h with
  | 0, _ => rfl
  | 1, _ => rfl
  | 2, _ => rfl
  | 3, _ => rfl
  | 4, _ => rfl
  | _ + 5, h => exact absurd h (by omega)
theorem fl_at : ∀ (l : List TkD) (i j : Nat), i < l.length → j < 5 → (fl l)[i * 5 + j]? = some ((l.getD i default).enc j)
  | x :: l, 0, j, _, hj => by
    show (x.cs ++ fl l)[0 * 5 + j]? = _
    rw [List.getElem?_append_left (by show _ < 5; omega), Nat.zero_mul, Nat.zero_add, cs_enc x j hj]
    rfl
  | x :: l, i + 1, j, hi, hj => by
    show (x.cs ++ fl l)[(i + 1) * 5 + j]? = _
    rw [List.getElem?_append_right (by show 5 ≤ _; omega)]
    have := fl_at l i j (by simpa using hi) hj
    rw [show (i + 1) * 5 + j - x.cs.length = i * 5 + j by show (i + 1) * 5 + j - 5 = _; omega, this]
    rfl
theorem fl_one' (l : List TkD) : ∀ u ∈ fl l, u.oneCell' = true := by
  intro u hu
  obtain ⟨x, _, h⟩ := List.mem_flatMap.1 hu
  simp only [TkD.cs, List.mem_cons, List.not_mem_nil, or_false] at h
  rcases h with rfl | rfl | rfl | rfl | rfl <;> rfl
theorem add_lit (b o i : Nat) : (⟨b, o, none⟩ : Addr).add i = ⟨b, o + i, none⟩ := by
  unfold Addr.add; split <;> simp <;> omega
/-- What a slice of tokens holds, cell by cell from its head on. -/
theorem sl_cells {w : World} {ad : Addr} {cap : Nat} {l : List TkD} (h : Sl w 5 TkD.enc (.slice (some ad) l.length cap) l) : ∀ j u, (fl l)[j]? = some u → w.cell? (ad.add j) = some u := by
  intro j u hu
  have hj : j < l.length * 5 := by
    rw [← fl_len]
    exact (List.getElem?_eq_some_iff.1 hu).1
  obtain ⟨a, c, h1, _, _, h4⟩ := h
  obtain ⟨b, off, e, _, hc⟩ := h4 (by omega)
  injection h1 with e1 e2 e3
  subst e1
  obtain rfl := Option.some.inj e
  have hc' := hc (j / 5) (by omega) (j % 5) (Nat.mod_lt _ (by omega))
  have hf := fl_at l (j / 5) (j % 5) (by omega) (Nat.mod_lt _ (by omega))
  rw [show j / 5 * 5 + j % 5 = j by omega, hu] at hf
  rw [add_lit, show off + j = off + j / 5 * 5 + j % 5 by omega, hc', ← hf]
/-- A row of the call's own reads as tokens. -/
theorem sl_of_own {w : World} {base : Nat} {e : TypeId} {v : Value} {n : Nat} {l : List TkD} (h : w.ownsRow base e 5 v n (fl l)) : Sl w 5 TkD.enc v l := by
  have hn : l.length = n := by have := h.1; rw [fl_len] at this; omega
  have hc : ∀ g, v.ownBlock = some g → _ := fun g hg => h.cells hg
  have hlt := h.lt
  rcases h.2 with ⟨rfl, h0⟩ | ⟨g, cap, cur, rfl, hb, hh, h1, h2, h3, h4⟩
  · have : l = [] := List.length_eq_zero_iff.1 (by omega)
    subst this
    exact ⟨none, 0, rfl, Nat.le_refl _, by decide, fun h => absurd h (by simp)⟩
  · refine ⟨some ⟨g, 0, none⟩, cap, by rw [hn], by omega, h2, fun _ => ⟨g, 0, rfl, (hlt g rfl).2, fun i hi j hj => ?_⟩⟩
    have := hc g rfl (i * 5 + j) ((l.getD i default).enc j) (fl_at l i j hi hj)
    rw [add_lit, ← Nat.add_assoc] at this
    exact this
theorem own_len {w : World} {base : Nat} {e : TypeId} {v : Value} {n : Nat} {l : List TkD} (h : w.ownsRow base e 5 v n (fl l)) : n = l.length := by
  have := h.1; rw [fl_len] at this; omega
theorem sn_of_own {w : World} {base : Nat} {e : TypeId} {v : Value} {n size : Nat} {xs : List Value} (h : w.ownsRow base e size v n xs) : Sn v := by
  intro m cap hv
  rcases h.2 with ⟨rfl, h0⟩ | ⟨g, cap, cur, rfl, _⟩
  · simp at hv; exact hv.2.symm
  · simp at hv
theorem Try.info25 : (Try.prog.info? 25).map (fun i => (i.zero, i.size, i.bytes)) = some (some (.agg #[.int .i64 0, .int .i64 0, .int .i64 0, .string ByteArray.empty, .int .i64 0]), 5, 48) := by kernel_rfl
/-- append of tokens that are laid to a row of the call's own. -/
theorem wpList_append_tk {w : World} {ops : Array Oper} {rest : List Oper} {o : Oper} {a : Act} {Q : Exit → Act → World → Prop} (hgd : o.guard = none) (s x : Operand)
    (ho : o.op = .call { callee := .builtin .append, args := #[s, x], argTypes := #[22, 22] })
    (base : Nat) (v : Value) (n : Nat) (l1 : List TkD) (hs : a.eval s = v) (hown : w.ownsRow base 25 5 v n (fl l1))
    (v2 : Value) (l2 : List TkD) (hx : a.eval x = v2) (hsl : Sl w 5 TkD.enc v2 l2) (hn : Sn v2)
    (h63 : n + l2.length ≤ 1000000000) (hbase : base ≤ w.heap.size)
    (h : ∀ v' w', w'.ownsRow base 25 5 v' (n + l2.length) (fl (l1 ++ l2)) → w.grownBy w' v.ownBlock → wpList Try.prog ops Q rest (a.put o.dst v') w') : wpList Try.prog ops Q (o :: rest) a w := by
  obtain ⟨i0, hi, hz0, hz1, hz2⟩ := info_parts Try.info25
  have hsl' := hsl
  obtain ⟨a2, cap, rfl, hc, hm, hcell⟩ := hsl
  cases a2 with
  | none =>
    have hl : l2 = [] := by
      cases l2 with
      | nil => rfl
      | cons y r =>
        obtain ⟨b, off, h2, -⟩ := hcell (by simp)
        simp at h2
    subst hl
    obtain rfl : cap = 0 := hn _ _ rfl
    refine wpList_append_own_none hgd s x 22 ho base 25 i0 5 Try.underlying22 hi v n (fl l1) hs hown hx ?_
    have h2 := h v w
    simp only [List.append_nil, List.length_nil, Nat.add_zero] at h2
    exact h2 hown ⟨rfl, rfl, rfl, Nat.le_refl _, fun _ _ _ => rfl⟩
  | some ad =>
    refine wpList_append_own w hgd s x 22 ho base 25 i0 _ 5 48 Try.underlying22 hi hz0 hz1 hz2 rfl (by omega) v n (fl l1) hs hown ad l2.length cap (fl l2) hx (fl_len _) (sl_cells hsl') (fl_one' _) (by unfold maxLen; omega) (by omega) hbase fun v' w' h2 h3 _ => h v' w' (by rw [fl_app]; exact h2) h3
set_option maxHeartbeats 2000000 in
/-- slices.Clone of tokens. -/
theorem clone_any (v : Value) (l : List TkD) (w : World) (hs : Sl w 5 TkD.enc v l) (h0 : 0 < l.length) (hl : l.length ≤ 1000000) :
    Calls Try.prog 26 #[v] w fun e w' => ∃ v', e = .returned v' ∧ w'.ownsRow w.heap.size 25 5 v' l.length (fl l) ∧ Below w.heap.size w w' := by
  have hs' := hs
  obtain ⟨aa, ca, rfl, ma, HA⟩ := sl_open hs
  obtain ⟨b, off, rfl, hb, -⟩ := HA.out h0
  clear hs HA
  have q22 : ∀ (w : World) (a : Option Addr) (n c n' c' : Nat), (binOp .eql 22 (.slice a n c) (.slice none n' c')).run Try.prog w = .ok (.bool a.isNone) w := fun w a n c n' c' => Lib.run_eql_slice_nil w _ _ a n c n' c' Try.underlying22
  have HS := Lib.hid hs'
  clear hs'
  go_enter Try.func26, Try.ntmps26
  go_wp2_with (at_builtin; refine wpList_append_tk rfl _ _ rfl w.heap.size _ 0 [] rfl (World.ownsRow_made w #[] 0 (Nat.le_refl _) (Nat.zero_le _) rfl) (.slice (some ⟨b, off, none⟩) l.length ca) l rfl (HS.out.keep ((Below.refl _ _).alloc (Nat.le_refl _) _)) (fun n c h => by simp at h) (by omega) (by simp) ?_)
  intro v' w1 hown hgrow
  have HO := Lib.hid (show w1.ownsRow w.heap.size 25 5 v' l.length (fl l) by simpa using hown)
  have hB : Below w.heap.size w w1 := ((Below.refl _ w).alloc (Nat.le_refl _) _).grown hgrow (by simp) (by intro k hk; simp [Value.ownBlock] at hk; omega)
  clear hown hgrow
  go_wp2
  go_ret
  exact ⟨v', rfl, HO.out, hB⟩
/-- The closure that asks for the end. -/
theorem end_any (t : TkD) (w : World) : Calls Try.prog 24 #[t.val] w fun e w' => e = .returned (.bool (decide (t.kind = 0))) ∧ Below w.heap.size w w' := by
  unfold TkD.val
  obtain ⟨k, a, l, x, n⟩ := t
  by_cases h1 : k = 0
  · subst h1
    go_enter Try.func24, Try.ntmps24
    go_wp2
    go_ret
    exact ⟨retb (by simp), by go_grown⟩
  · go_enter Try.func24, Try.ntmps24
    go_wp2
    go_ret
    exact ⟨retb (by simp [h1]), by go_grown⟩
theorem end_is (t : TkD) (w : World) (r : Bool) (h : Hid (decide (t.kind = 0) = r)) : Calls Try.prog 24 #[t.val] w fun e w' => e = .returned (.bool r) ∧ Below w.heap.size w w' := by
  have := end_any t w
  rwa [h.out] at this
set_option maxHeartbeats 2000000 in
/-- Where the first end stands: at the end. -/
theorem index_any (v : Value) (l : List TkD) (w : World) (hs : Sl w 5 TkD.enc v l) (hr : rightF l = true) :
    Calls Try.prog 23 #[v, .func (.func 24) #[] #[]] w fun e w' => e = .returned (.int .i64 ((l.length : Int) - 1)) ∧ Below w.heap.size w w' := by
  unfold rightF at hr
  obtain ⟨h0, hr⟩ := of_decide_eq_true hr
  obtain ⟨aa, ca, rfl, ma, HA⟩ := sl_open hs
  clear hs
  have HR := Lib.hid hr
  clear hr
  go_enter Try.func23, Try.ntmps23
  go_wp2
  go_loopw [5, 8] (fun i5 i wr => ∃ k : Nat, k < l.length ∧ i = .int .i64 k ∧ Below w.heap.size w wr) (fun _ i _ => l.length - (intOf i).toNat)
  case atStart => exact ⟨0, h0, rfl, by go_grown⟩
  case round =>
    obtain ⟨k, hlt, rfl, hB⟩ := hrel
    obtain ⟨b, o, rfl, hb, hc⟩ := HA.out (by omega)
    have c := tk_cells (w := wr) (b := b) (off := o + k * 5) fun j hj => (hB.cell (p := ⟨b, o + k * 5 + j, none⟩) hb).trans (hc k hlt j hj)
    clear hc
    have hx := HR.out k hlt
    have HB := Lib.hid hB
    have hsz := hB.size
    clear hB
    generalize l.getD k default = x at *
    obtain ⟨c0, c1, c2, c3, c4⟩ := c
    by_cases hlast : k + 1 = l.length
    · have HK := Lib.hid (show decide (x.kind = 0) = true by simp [hx, hlast])
      have HL := Lib.hid hlast
      clear hx hlast
      go_wp2_with (go_at_call 24; refine (end_is x _ _ HK).mono ?_; rintro e w1 ⟨rfl, hw1⟩)
      have H1 : Hid (Below w.heap.size w w1) := HB.out.trans (hw1.mono (by omega))
      clear hw1
      go_ret
      have : (k : Int) = (l.length : Int) - 1 := by have := HL.out; omega
      exact ⟨reti this, H1.out⟩
    · have HK := Lib.hid (show decide (x.kind = 0) = false by simp [hx, hlast])
      clear hx
      go_wp2_with (go_at_call 24; refine (end_is x _ _ HK).mono ?_; rintro e w1 ⟨rfl, hw1⟩)
      have H1 : Hid (Below w.heap.size w w1) := HB.out.trans (hw1.mono (by omega))
      clear hw1
      go_roundw
      case rel => exact ⟨k + 1, by omega, by go_num, H1.out⟩
      case measure => simp [intOf]; omega
end Go.Proofs.Ytaliplbbmhfenaa
