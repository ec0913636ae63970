/-
  append to a row of the call's own, from a slice that is laid as data; good's ways. Condition: the row does not grow too great.
-/
import Derived.Test.YtblpajbacdbgpaaK
import Derived.OwnWalk
import Derived.Laws.AppendOwnNone
namespace Go.Proofs.Ytblpajbacdbgpaa
open Go.ChangeShapes Go.WideShapes Go.ChangeAt Go.RowKit Go.Deep Go.Joins
theorem wpList_append_sl {α : Type} [Inhabited α] {enc : α → Nat → Value} {P : Program} {w : World} {ops : Array Oper} {rest : List Oper} {o : Oper} {a : Act} {Q : Exit → Act → World → Prop} (hgd : o.guard = none) (s x : Operand) (t : TypeId)
    (ho : o.op = .call { callee := .builtin .append, args := #[s, x], argTypes := #[t, t] })
    (base : Nat) (e : TypeId) (i : TypeInfo) (z : Value) (bytes : Nat) (ht : P.underlying t = some (.slice e)) (hi : P.info? e = some i) (hz : i.zero = some z)
    (hsize : i.size = 1) (hby : i.bytes = bytes) (hzs : z.cells.size = 1)
    (v : Value) (n : Nat) (xs : List Value) (hs : a.eval s = v) (hown : w.ownsRow base e 1 v n xs)
    (v2 : Value) (l2 : List α) (hx : a.eval x = v2) (hsl : Sl w 1 enc v2 l2) (hn : Sn v2) (h1 : ∀ y ∈ l2, (enc y 0).oneCell' = true)
    (h63 : n + l2.length ≤ maxLen) (hbytes : (n + l2.length) * bytes ≤ 140737488355328) (hbase : base ≤ w.heap.size)
    (h : ∀ v' w', w'.ownsRow base e 1 v' (n + l2.length) (xs ++ l2.map fun y => enc y 0) → w.grownBy w' v.ownBlock → wpList P ops Q rest (a.put o.dst v') w') : wpList P ops Q (o :: rest) a w := by
  obtain ⟨a2, cap, rfl, hc, hm, hcell⟩ := hsl
  cases a2 with
  | none =>
    have hl : l2 = [] := by
      cases l2 with
      | nil => rfl
      | cons y r =>
        obtain ⟨b, off, h2, -⟩ := hcell (by simp)
        simp at h2
    subst hl
    obtain rfl : cap = 0 := hn _ _ rfl
    refine wpList_append_own_none hgd s x t ho base e i 1 ht hi v n xs hs hown hx ?_
    have h2 := h v w
    simp only [List.map_nil, List.append_nil, List.length_nil, Nat.add_zero] at h2
    exact h2 hown ⟨rfl, rfl, rfl, Nat.le_refl _, fun _ _ _ => rfl⟩
  | some ad =>
    refine wpList_append_own w hgd s x t ho base e i z 1 bytes ht hi hz hsize hby hzs (by omega) v n xs hs hown ad l2.length cap (l2.map fun y => enc y 0) hx (by simp) ?_ ?_ h63 hbytes hbase fun v' w' h2 h3 _ => h v' w' h2 h3
    · intro j u hj
      rw [List.getElem?_map] at hj
      have hjl : j < l2.length := by
        by_cases hjl : j < l2.length
        · exact hjl
        · rw [List.getElem?_eq_none (by omega)] at hj; simp at hj
      obtain ⟨b, off, h2, -, h4⟩ := hcell (by omega)
      obtain rfl := Option.some.inj h2
      have := h4 j hjl 0 (by omega)
      rw [List.getElem?_eq_getElem hjl] at hj
      simp only [Option.map_some, Option.some.injEq] at hj
      have e2 : (⟨b, off, none⟩ : Addr).add j = ⟨b, off + j * 1 + 0, none⟩ := by
        unfold Addr.add; split <;> simp <;> omega
      rw [e2, this, ← hj]
      simp [List.getD_eq_getElem?_getD, hjl]
    · intro u hu
      obtain ⟨y, hy, rfl⟩ := List.mem_map.1 hu
      exact h1 y hy
/-- A row of the call's own reads as data. -/
theorem sl_of_own {α : Type} [Inhabited α] {enc : α → Nat → Value} {w : World} {base : Nat} {e : TypeId} {v : Value} {n : Nat} {l : List α} (h : w.ownsRow base e 1 v n (l.map fun y => enc y 0)) : Sl w 1 enc v l := by
  have hn : l.length = n := by have := h.1; rw [List.length_map] at this; omega
  have hc : ∀ g, v.ownBlock = some g → _ := fun g hg => h.cells hg
  have hlt := h.lt
  rcases h.2 with ⟨rfl, h0⟩ | ⟨g, cap, cur, rfl, hb, hh, h1, h2, h3, h4⟩
  · have : l = [] := List.length_eq_zero_iff.1 (by omega)
    subst this
    exact ⟨none, 0, rfl, Nat.le_refl _, by decide, fun h => absurd h (by simp)⟩
  · refine ⟨some ⟨g, 0, none⟩, cap, by rw [hn], by omega, h2, fun _ => ⟨g, 0, rfl, (hlt g rfl).2, fun i hi j hj => ?_⟩⟩
    obtain rfl : j = 0 := by omega
    have := hc g rfl i (enc (l.getD i default) 0) (by rw [List.getElem?_map]; simp [List.getD_eq_getElem?_getD, hi])
    have e2 : (⟨g, 0, none⟩ : Addr).add i = ⟨g, 0 + i * 1 + 0, none⟩ := by
      unfold Addr.add; split <;> simp <;> omega
    rw [e2] at this
    exact this
theorem sn_of_own {w : World} {base : Nat} {e : TypeId} {v : Value} {n size : Nat} {xs : List Value} (h : w.ownsRow base e size v n xs) : Sn v := by
  intro m cap hv
  rcases h.2 with ⟨rfl, h0⟩ | ⟨g, cap, cur, rfl, _⟩
  · simp at hv; exact hv.2.symm
  · simp at hv
/-- The one new cell. -/
theorem own_one (w : World) (x : Value) (e : TypeId) {base : Nat} (hb : base ≤ w.heap.size) : (w.alloc (.cells #[x] e)).ownsRow base e 1 (.slice (some ⟨w.heap.size, 0, none⟩) 1 1) 1 [x] :=
  ⟨rfl, .inr ⟨w.heap.size, 1, #[x], rfl, hb, heap_alloc_new w _, Nat.le_refl _, by decide, rfl, rfl⟩⟩
theorem Try.info57 : (Try.prog.info? 57).map (fun i => (i.zero, i.size, i.bytes)) = some (some (.slice none 0 0), 1, 24) := by kernel_rfl
theorem Try.info3 : (Try.prog.info? 3).map (fun i => (i.zero, i.size, i.bytes)) = some (some (.int .i64 0), 1, 8) := by kernel_rfl
def LoD.val (x : LoD) : Value := .agg #[x.ov, x.ev, .bool x.atomic, .bool x.dstep, .bool x.e, .bool x.acc, .bool x.pro]
/-- What of a place's ways is laid. -/
def waysL (x : LoD) : List EsD := ⟨x.ov, x.out⟩ :: x.esc
def WaysPost (x : LoD) (w : World) (e : Ending) (w' : World) : Prop := ∃ v, e = .returned v ∧ Sl w' 1 EsD.enc v (waysL x) ∧ Below w.heap.size w w'
set_option maxHeartbeats 1000000 in
theorem ways_any (x : LoD) (w0 w : World) (h : x.ok w0) (hB0 : Below w0.heap.size w0 w) :
    Calls Try.prog 23 #[x.val] w (WaysPost x w) := by
  obtain ⟨i0, hi, hz0, hz1, hz2⟩ := info_parts Try.info57
  obtain ⟨⟨ao, capo, hvo, -, -, -⟩, -, -, hev, hq, hn, hz⟩ := h
  have hev2 := hev.keep hB0
  have hone : ∀ y ∈ x.esc, (EsD.enc y 0).oneCell' = true := by
    intro y hy
    obtain ⟨⟨a, c, hv, -⟩, -, -⟩ := hq y hy
    show y.v.oneCell' = true
    rw [hv]; rfl
  have hev3 := fun (o : Obj) => hev2.keep ((Below.refl _ _).alloc (Nat.le_refl _) o)
  clear hB0 hq
  obtain ⟨ae, cape, hve, -, -, -⟩ := hev
  unfold LoD.val
  rw [hve] at hev3 hn ⊢
  rw [hvo]
  have HV := Lib.hid hvo
  have H3 := Lib.hid hev3
  have H1 := Lib.hid hone
  have HS := Lib.hid hn
  clear hve hvo hev2 hev3 hone hn
  go_enter Try.func23, Try.ntmps23
  go_wp2_with (at_builtin; refine wpList_append_sl (enc := EsD.enc) (v := .slice (some ⟨w.heap.size + 1, 0, none⟩) 1 1) (n := 1) (xs := [.slice ao x.out.length capo]) (v2 := .slice ae x.esc.length cape) (l2 := x.esc) rfl _ _ 58 rfl w.heap.size 57 i0 _ 24 Try.underlying58 hi hz0 hz1 hz2 rfl rfl ?_ rfl ?_ HS.out H1.out (by unfold maxLen; omega) (by omega) (by simp; omega) ?_)
  · have := own_one (w.alloc (.cells #[.slice ao x.out.length capo, .slice ae x.esc.length cape, .bool x.atomic, .bool x.dstep, .bool x.e, .bool x.acc, .bool x.pro] 60)) (.slice ao x.out.length capo) 57 (base := w.heap.size) (by simp)
    rw [World.size_alloc] at this
    exact this
  · exact (H3.out _).keep ((Below.refl _ _).alloc (Nat.le_refl _) _)
  intro v' w1 hown hgrow
  have hB : Below w.heap.size w w1 := (((Below.refl _ _).alloc (Nat.le_refl _) _).alloc (by simp) _).grown hgrow (by simp; omega) (fun k hk => by simp [Value.ownBlock] at hk; omega)
  clear hgrow
  rw [← HV.out] at hown
  have HO := Lib.hid hown
  clear hown
  go_wp2
  go_ret
  exact ⟨v', rfl, sl_of_own (l := waysL x) (n := 1 + x.esc.length) HO.out, hB⟩
end Go.Proofs.Ytblpajbacdbgpaa
