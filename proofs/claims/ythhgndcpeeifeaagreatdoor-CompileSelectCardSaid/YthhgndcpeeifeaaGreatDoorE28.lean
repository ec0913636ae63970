/- Part of the proof of CompileForCardSaid. -/
import Derived.Test.YthhgndcpeeifeaaGreatDoorE27
import Derived.RangeFuncRecord
set_option linter.unusedVariables false
set_option linter.unusedSimpArgs false
set_option linter.unusedSectionVars false
set_option linter.constructorNameAsVariable false
namespace Go.Proofs.Lx6
open Go.ChangeShapes Go.WideShapes Go.ChangeAt Go.RowKit Go.Shelf
attribute [local go_sem] Oper.semAt_some
abbrev LT := List (ByteArray × List (Nat × Nat))
def cntL (L : LT) : Nat := (L.map fun p => p.2.length).sum
def cellsL (L : LT) : List Value := L.flatMap fun p => p.2.flatMap (tokC p.1.data.toList)
theorem tab_below {n0 : Nat} {w W : World} (h : Below n0 w W) (h0 : 0 < n0) {zs : List Int} (ht : Lib.TabIs Tryz.prog w "strings.asciiSpace" .u8 zs) : Lib.TabIs Tryz.prog W "strings.asciiSpace" .u8 zs := by
  unfold Lib.TabIs World.var? at *
  rw [show Tryz.prog.globalNamed "strings.asciiSpace" = some 0 by kernel_rfl, Option.bind_some] at *
  rw [h.block 0 h0]; exact ht
/-- Between two lines: what memory holds. -/
structure PJ (n0 : Nat) (w : World) (L : LT) (i : Nat) (W : World) : Prop where
  b2 : Boxed W n0 76 (.slice none 0 0)
  b3 : Boxed W (n0 + 1) 4 (.bool false)
  b4 : ∃ v, Boxed W (n0 + 2) 76 v ∧ W.ownsRow (n0 + 6) 164 5 v (cntL (L.take i)) (cellsL (L.take i))
  b5 : ∃ t, Boxed W (n0 + 3) 9 (.string t)
  bD : W.heap[n0 + 4]? = some (.deferred (some []))
  bl : Below n0 w W
  sz : n0 + 6 ≤ W.heap.size
theorem owns_ne {W : World} {base c : Nat} {e : TypeId} {size n : Nat} {v : Value} {xs : List Value} (h : W.ownsRow base e size v n xs) (hc : c < base) : v.ownBlock = none ∨ v.ownBlock ≠ some c := by
  rcases h.2 with ⟨rfl, _⟩ | ⟨g, cap, cur, rfl, hb, _, _⟩
  · exact .inl rfl
  · exact .inr fun q => by simp [Value.ownBlock] at q; omega
theorem PJ.kept {n0 : Nat} {w : World} {L : LT} {i : Nat} {W W' : World} {c : Nat} (h : PJ n0 w L i W) (hg : W.grownBy W' (some c)) (hc : c = n0 + 3 ∨ c = n0 + 5) (h5 : ∃ t, Boxed W' (n0 + 3) 9 (.string t)) : PJ n0 w L i W' := by
  obtain ⟨v, h1, h2⟩ := h.b4
  have ne : ∀ k, k < n0 + 3 → some k ≠ some c := fun k hk q => by simp at q; omega
  exact ⟨h.b2.kept hg (ne _ (by omega)), h.b3.kept hg (ne _ (by omega)), ⟨v, h1.kept hg (ne _ (by omega)), h2.kept hg (owns_ne h2 (by omega))⟩, h5,
    (hg.block _ (Array.getElem?_eq_some_iff.1 h.bD).1 (fun q => by simp at q; omega)).trans h.bD, h.bl.grown hg (by have := h.sz; omega) (fun k q => by simp at q; omega), Nat.le_trans h.sz hg.size⟩
theorem le_sum {x : Nat} : ∀ {l : List Nat}, x ∈ l → x ≤ l.sum
  | a :: l, h => by
    rw [List.sum_cons]
    rcases List.mem_cons.1 h with rfl | h
    · omega
    · have := le_sum h; omega
theorem flat5 (l : List UInt8) : ∀ pts : List (Nat × Nat), (pts.flatMap (tokC l)).length = pts.length * 5
  | [] => rfl
  | p :: pts => by rw [List.flatMap_cons, List.length_append, flat5 l pts]; simp [tokC]; omega
theorem one5 (l : List UInt8) (pts : List (Nat × Nat)) : ∀ u ∈ pts.flatMap (tokC l), u.oneCell' = true := by
  intro u hu
  obtain ⟨p, _, hp⟩ := List.mem_flatMap.1 hu
  exact tok_one u hp
theorem owns_cell {W : World} {base g k cap : Nat} {e : TypeId} {xs : List Value} {n : Nat} (h : W.ownsRow base e 5 (.slice (some ⟨g, 0, none⟩) k cap) n xs) {j : Nat} {u : Value} (hj : xs[j]? = some u) : W.cell? ((⟨g, 0, none⟩ : Addr).add j) = some u := by
  have e0 : (⟨g, 0, none⟩ : Addr).add j = ⟨g, j, none⟩ := by unfold Addr.add; split <;> simp_all
  rw [e0]
  rcases h.2 with ⟨q, _⟩ | ⟨g', cap', cur, q, _, hw, _, _, _, htk⟩
  · cases q
  · simp only [Value.slice.injEq, Option.some.injEq, Addr.mk.injEq, and_true, true_and] at q
    obtain ⟨rfl, _⟩ := q
    have : cur.toList[j]? = some u := by
      rw [← htk, List.getElem?_take] at hj
      split at hj
      · exact hj
      · cases hj
    simp only [World.cell?, hw]
    simpa using this
theorem cntL_take {L : LT} {i : Nat} {q : ByteArray × List (Nat × Nat)} (h : L[i]? = some q) : cntL (L.take (i + 1)) = cntL (L.take i) + q.2.length := by
  unfold cntL
  rw [List.take_add_one, h]; simp
theorem cellsL_take {L : LT} {i : Nat} {q : ByteArray × List (Nat × Nat)} (h : L[i]? = some q) : cellsL (L.take (i + 1)) = cellsL (L.take i) ++ q.2.flatMap (tokC q.1.data.toList) := by
  unfold cellsL
  rw [List.take_add_one, h]; simp
theorem cntL_le (L : LT) (i : Nat) : cntL (L.take i) ≤ cntL L := by
  have : cntL L = cntL (L.take i) + cntL (L.drop i) := by
    unfold cntL
    rw [← List.sum_append, ← List.map_append, List.take_append_drop]
  omega
/-- A range over a function, at the outermost: its record, the one call. -/
theorem rf_outer {n : Nat} {P : Program} {g : Operand} {ps : Array Tmp} {assign body : Code} {Q : Exit → Act → World → Prop} {a : Act} {w : World} {gf : FuncId} {lb : Array Value} (hg : a.eval g = .func (.func gf) #[] lb)
    (eg : ∀ args w, (callFunc gf args).run P w = .ok (.enter gf args) w) (hn : 1 ≤ n)
    (h : ∀ fn, CallsIn Fence.wide (n - 1) P gf (#[.func (.yield (w.heap.size + 1)) #[] #[]] ++ lb) ((w.alloc (.deferred (some []))).alloc (.loop { state := .ready, pending := none, fn, tmps := a.tmps, params := ps, assign, body, defers := w.heap.size }))
      (rangePost Fence.wide n P (w.heap.size + 1) Q { a with defers := [{ target := .collected w.heap.size, args := #[] }] ++ a.defers })) : (Code.rangeFunc g ps assign body).wpIn Fence.wide n P Q a w := by
  refine wpIn_rangeFunc fun fn hfn => ?_
  rw [show Fence.wide.round = none from rfl]
  refine ⟨w.heap.size + 1, [{ target := .collected w.heap.size, args := #[] }], (w.alloc (.deferred (some []))).alloc (.loop { state := .ready, pending := none, fn, tmps := a.tmps, params := ps, assign, body, defers := w.heap.size }),
    { target := .fn (.func gf) lb, args := #[.func (.yield (w.heap.size + 1)) #[] #[]] }, (w.alloc (.deferred (some []))).alloc (.loop { state := .ready, pending := none, fn, tmps := a.tmps, params := ps, assign, body, defers := w.heap.size }), gf, #[.func (.yield (w.heap.size + 1)) #[] #[]] ++ lb,
    (w.alloc (.deferred (some []))).alloc (.loop { state := .ready, pending := none, fn, tmps := a.tmps, params := ps, assign, body, defers := w.heap.size }), ?_, ?_, ?_, ?_, ?_, ?_⟩
  · exact run_enterLoop_outer fn a.tmps ps assign body
  · simp only [resolve, hg]
    simp [go_sem]
  · intro f' hf'; trivial
  · simp [invoke, go_sem, eg]
  · exact fun _ => hn
  · exact h fn
set_option maxHeartbeats 4000000 in
set_option maxRecDepth 100000 in
theorem ptokens_any (L : LT) (s : ByteArray) (m : Int) (w : World) (hm : w.cell? ⟨4, 0, none⟩ = some (.int .i64 m)) (htab : Lib.TabIs Tryz.prog w "strings.asciiSpace" .u8 Lib.asciiSpaceTab) (hs : s.size ≤ 1000000)
    (hL : IsL (L.map (·.1)) s) (hok : ∀ p ∈ L, p.1.size ≤ 2000 ∧ 0 < p.1.size ∧ ∃ f ln, toksL p.1.data.toList f 0 1 = some (p.2, ln)) (hcount : cntL L ≤ 8000) :
    Calls Tryz.prog 136 #[.string s] w fun e w' => ∃ v, e = .returned (.tuple #[v, .bool true]) ∧
      w'.ownsRow w.heap.size 164 5 v (cntL L + 1) (cellsL L ++ [.int .i64 0, .int .i64 0, .int .i64 0, .string ⟨#[]⟩, .int .i64 0]) ∧ Below w.heap.size w w' := by
  refine (callsIn_wide (n := 6)).1 ?_
  refine callsIn_of_wp_marks Tryz.func136 rfl trivial ?_ rfl
  simp only [Tryz.ntmps136, List.size_toArray, List.length_cons, List.length_nil, Nat.reduceAdd, Nat.reduceSub, Array.replicate_succ, Array.replicate_zero, List.push_toArray, List.append_toArray, List.nil_append, List.cons_append]
  have hmb := World.block_lt_of_cell? w _ hm
  gi_wp2
  refine ⟨trivial, (callsIn_wide.2 (lines_fn s _)).mono ?_⟩
  rintro e w' ⟨rfl, rfl⟩
  gi_wp2
  obtain ⟨n0, hn0⟩ : ∃ n0, n0 = w.heap.size := ⟨_, rfl⟩
  rw [← hn0] at hmb
  obtain ⟨W0, hW0⟩ : ∃ W0, W0 = (((w.alloc (.cells #[.slice none 0 0] 76)).alloc (.cells #[.bool false] 4)).alloc (.cells #[.slice none 0 0] 76)).alloc (.cells #[.string s] 9) := ⟨_, rfl⟩
  have hW0s : W0.heap.size = n0 + 4 := by rw [hW0, hn0]; simp
  have x2 : Boxed W0 n0 76 (.slice none 0 0) := by rw [hW0, hn0]; exact (((Boxed.new w 76 _).alloc _).alloc _).alloc _
  have x3 : Boxed W0 (n0 + 1) 4 (.bool false) := by
    have := ((Boxed.new (w.alloc (.cells #[.slice none 0 0] 76)) 4 (.bool false)).alloc (.cells #[.slice none 0 0] 76)).alloc (.cells #[.string s] 9)
    rw [hW0, hn0]; simpa using this
  have x4 : Boxed W0 (n0 + 2) 76 (.slice none 0 0) := by
    have := (Boxed.new ((w.alloc (.cells #[.slice none 0 0] 76)).alloc (.cells #[.bool false] 4)) 76 (.slice none 0 0)).alloc (.cells #[.string s] 9)
    rw [hW0, hn0]; simpa using this
  have x5 : Boxed W0 (n0 + 3) 9 (.string s) := by
    have := Boxed.new (((w.alloc (.cells #[.slice none 0 0] 76)).alloc (.cells #[.bool false] 4)).alloc (.cells #[.slice none 0 0] 76)) 9 (.string s)
    rw [hW0, hn0]; simpa using this
  have xB : Below n0 w W0 := by
    rw [hW0, hn0]
    exact ((((Below.refl _ w).alloc (by simp) _).alloc (by simp) _).alloc (by simp; omega) _).alloc (by simp; omega) _
  rw [← hW0]
  simp only [← hn0]
  have HN := Lib.hid hn0
  clear hn0 hW0
  refine rf_outer (gf := 289) (lb := #[.pointer (some ⟨n0 + 1 + 1 + 1, 0, none⟩)]) rfl (enters_of Tryz.func289 (by kernel_rfl) rfl) (by omega) fun fn => ?_
  rw [hW0s]
  generalize hrec : Loop.mk _ _ _ _ _ _ _ _ = rec
  have en : n0 + 1 + 1 + 1 = n0 + 3 := rfl
  have e2 : n0 + 4 + 1 = n0 + 5 := rfl
  rw [en, e2]
  have hW1s : ((W0.alloc (.deferred (some []))).alloc (.loop rec)).heap.size = n0 + 6 := by simp [hW0s]
  have hl0 : ((W0.alloc (.deferred (some []))).alloc (.loop rec)).heap[n0 + 5]? = some (.loop rec) := by
    have := World.alloc_heap_new (W0.alloc (.deferred (some []))) (.loop rec)
    rw [World.size_alloc, hW0s] at this; exact this
  have hJ0 : PJ n0 w L 0 ((W0.alloc (.deferred (some []))).alloc (.loop rec)) := by
    refine ⟨(x2.alloc _).alloc _, (x3.alloc _).alloc _, ⟨_, (x4.alloc _).alloc _, World.ownsRow_nil _ _ _ _⟩, ⟨s, (x5.alloc _).alloc _⟩, ?_, (xB.alloc (by omega) _).alloc (by simp [hW0s]; omega) _, by omega⟩
    have := World.alloc_heap_new W0 (.deferred (some []))
    rw [hW0s] at this
    exact (Below.heap_alloc _ _ _ (by simp [hW0s])).trans this
  refine (lines_in (n := 5) (l := n0 + 5) (bx := n0 + 3) (J := fun i W => PJ n0 w L i W ∧ W.heap[n0 + 5]? = some (.loop rec)) (L := L.map (·.1)) (by omega) ?hab ?hdr ?hfz ?hY ⟨hJ0, hl0⟩ ((x5.alloc _).alloc _).cell hL hs).mono ?done
  case hab =>
    rintro i W t ⟨h1, h2⟩
    obtain ⟨u, hu⟩ := h1.b5
    exact ⟨h1.kept (grownBy_setCell' W (n0 + 3) (.string t)) (.inl rfl) ⟨t, hu.set _⟩, (Below.heap_setCell _ _ _ _ (by show n0 + 5 ≠ n0 + 3; omega)).trans h2⟩
  case hdr =>
    rintro i W ⟨h1, h2⟩
    exact ⟨⟨h1.b2, h1.b3, h1.b4, h1.b5, h1.bD, h1.bl.drew, h1.sz⟩, h2⟩
  case hfz =>
    rintro i W ⟨h1, h2⟩
    obtain ⟨u, hu⟩ := h1.b5
    exact hu.frozen
  case hY =>
    rintro i x W ⟨hJ, hl⟩ hx
    obtain ⟨q, hq, rfl⟩ : ∃ q, L[i]? = some q ∧ q.1 = x := by
      rw [List.getElem?_map] at hx
      cases hq : L[i]? with
      | none => rw [hq] at hx; cases hx
      | some q => rw [hq] at hx; exact ⟨q, rfl, by simpa using hx⟩
    obtain ⟨x, pts⟩ := q
    obtain ⟨hx1, hx2, f, ln, hx3⟩ := hok _ (List.mem_of_getElem? hq)
    simp only at hx1 hx2 hx3 ⊢
    have hpts : pts.length ≤ cntL L := by
      unfold cntL
      exact le_sum (List.mem_map.2 ⟨_, List.mem_of_getElem? hq, rfl⟩)
    have ha : rec.assign = _ := (congrArg Loop.assign hrec).symm
    have hb : rec.body = _ := (congrArg Loop.body hrec).symm
    have ht : rec.tmps = _ := (congrArg Loop.tmps hrec).symm
    have hp : rec.params = _ := (congrArg Loop.params hrec).symm
    have hst : rec.state = _ := (congrArg Loop.state hrec).symm
    refine ⟨rec.fn, _, rec.assign, rec.body, run_yield hl (by rw [hp]; rfl), roundIn_of_wpIn trivial ?_⟩
    rw [ha, hb, ht, hp]
    clear ha hb ht hp
    dsimp only
    gi_wp2
    refine ⟨_, run_beginRound hl hst, ?_⟩
    obtain ⟨recB, hRB⟩ : ∃ r : Loop, r = { rec with state := .busy } := ⟨_, rfl⟩
    rw [← hRB]
    obtain ⟨W2, hW2⟩ : ∃ W2, W2 = W.putObj (n0 + 5) (.loop recB) := ⟨_, rfl⟩
    rw [← hW2]
    obtain ⟨u, hu⟩ := hJ.b5
    have hu2 : Boxed W2 (n0 + 3) 9 (.string u) := by rw [hW2]; exact hu.kept (grownBy_putObj' W (n0 + 5) _) (fun q => by simp at q)
    have hJ2 : PJ n0 w L i W2 := hJ.kept (by rw [hW2]; exact grownBy_putObj' W (n0 + 5) _) (.inr rfl) ⟨u, hu2⟩
    have hl2 : W2.heap[n0 + 5]? = some (.loop recB) := by rw [hW2]; exact World.putObj_heap_same (Array.getElem?_eq_some_iff.1 hl).1
    have hc2 : W.cell? ⟨n0 + 3, 0, none⟩ = W2.cell? ⟨n0 + 3, 0, none⟩ := by rw [hu.cell, hu2.cell]
    have hx0 : x.extract 0 x.size = x := ByteArray.extract_zero_size
    have hm2 : W2.cell? ⟨4, 0, none⟩ = some (.int .i64 m) := (hJ2.bl.cell (p := ⟨4, 0, none⟩) hmb).trans hm
    have htab2 := tab_below hJ2.bl (by omega) htab
    obtain ⟨v, hv4, hown⟩ := hJ2.b4
    obtain ⟨ao, cap, rfl⟩ := own_shape hown
    have HB := Lib.hid hJ2.bl
    have HO := Lib.hid hown
    clear hown
    obtain ⟨PP, hPP⟩ : ∃ PP, PP = roundPost Tryz.prog (n0 + 5) (fun e W' => e = Ending.returned (.bool true) ∧ (PJ n0 w L (i + 1) W' ∧ W'.heap[n0 + 5]? = some (.loop rec)) ∧ W'.cell? ⟨n0 + 3, 0, none⟩ = W.cell? ⟨n0 + 3, 0, none⟩) := ⟨_, rfl⟩
    rw [← hPP]
    have HPP := Lib.hid hPP
    have hpend : rec.pending = none := (congrArg Loop.pending hrec).symm
    have hback : ({ recB with state := .ready, pending := none } : Loop) = rec := by rw [hRB]; cases rec; simp only at hst hpend; subst hst; subst hpend; rfl
    have HBK := Lib.hid hback
    clear hPP hrec hW2 hRB hst hpend hback
    have hxi : (0 : Int) < (x.size : Int) := by omega
    have hxi2 : ¬ ((x.size : Int) < (x.size : Int)) := by omega
    have h00 : (0 : Int) ≤ (x.size : Int) := by omega
    gi_wp2
    refine wpIn_loop_rounds 2 ?_
    rw [roundsIn_succ]
    gi_wp2
    refine ⟨trivial, (callsIn_wide.2 (piece_any x _ hx1)).mono ?_⟩
    rintro e w3 ⟨rfl, hw3⟩
    subst w3
    gi_wp2
    refine ⟨trivial, (callsIn_wide.2 (tokens_list x m W2 (by omega) hm2 htab2 hx3 (by omega))).mono ?_⟩
    rintro e w4 ⟨vk, rfl, ho4, hB4⟩
    obtain ⟨g, kcap, rfl⟩ := ownsRow_succ ho4
    have hsz4 := hB4.size
    have hsz2 := hJ2.sz
    have bx : ∀ {B : Nat} {t : TypeId} {v : Value}, Boxed W2 B t v → Boxed w4 B t v := fun h => (hB4.block _ h.lt).trans h
    have v2 := bx hJ2.b2
    have v3 := bx hJ2.b3
    have v4 := bx hv4
    have v5 := bx hu2
    have hD4 : w4.heap[n0 + 4]? = some (.deferred (some [])) := (hB4.block _ (by omega)).trans hJ2.bD
    have hl4 : w4.heap[n0 + 5]? = some (.loop recB) := (hB4.block _ (by omega)).trans hl2
    have HO4 := own_below HO.out hB4
    obtain ⟨i0, hi, hz0, hz1, hz2⟩ := info_parts Tryz.info164
    have hct := cntL_take hq
    have hcl := cntL_le L (i + 1)
    simp only at hct
    obtain ⟨v', w5, hrun, r1, r2, r3⟩ := run_append_own (P := Tryz.prog) (w := w4.drew) (n0 + 6) 76 76 164 i0 _ 5 48 Tryz.underlying76 hi hz0 hz1 hz2 rfl (by decide) (.slice ao (cntL (L.take i)) cap) (cntL (L.take i)) (cellsL (L.take i)) HO4 ⟨g, 0, none⟩ pts.length kcap (pts.flatMap (tokC x.data.toList))
      (flat5 _ _) (fun j u hj => owns_cell ho4 (by rw [List.getElem?_append_left (List.getElem?_eq_some_iff.1 hj).1]; exact hj)) (one5 _ _) (by unfold maxLen; omega) (by omega) (by show n0 + 6 ≤ w4.heap.size; omega)
    obtain ⟨ao', cap', rfl⟩ := own_shape r1
    have v4d : Boxed w4.drew (n0 + 2) 76 (.slice ao (cntL (L.take i)) cap) := v4
    have q4 := v4d.kept r2 (v4d.not_row (by decide) HO4)
    have f1 : w4.cell? ⟨n0 + 1 + 1, 0, none⟩ = some (.slice ao (cntL (L.take i)) cap) := v4.cell
    have f2 : w5.cell? ⟨n0 + 1 + 1, 0, none⟩ = some (.slice ao (cntL (L.take i)) cap) := q4.cell
    have f3 : w5.frozen? ⟨n0 + 1 + 1, 0, none⟩ = false := q4.frozen
    have g1 : wrap64 (((pts.length + 1 : Nat) : Int) - 1) = (pts.length : Int) := by rw [IntWalk.wrap64_in _ (by constructor <;> omega)]; omega
    have g2 : wrap64 ((pts.length : Int) + 1 - 1) = (pts.length : Int) := by rw [IntWalk.wrap64_in _ (by constructor <;> omega)]; omega
    have hmx : Tryz.prog.follows .mixedOrders = true := by kernel_rfl
    obtain ⟨hkc, _⟩ : pts.length + 1 ≤ kcap ∧ True := by
      rcases ho4.2 with ⟨q, _⟩ | ⟨g', cap', cur, q, _, _, h1, _⟩
      · cases q
      · simp only [Value.slice.injEq] at q; exact ⟨by omega, trivial⟩
    have g3 : (pts.length : Int) ≤ (kcap : Int) := by omega
    have g4 : (0 : Int) ≤ (pts.length : Int) := by omega
    have g5 : IntKind.i64.wrap (pts.length : Int) = (pts.length : Int) := by rw [IntWalk.i64_left, IntWalk.wrap64_in _ (by constructor <;> omega)]
    gi_wp2
    refine reg10 rfl f1 hrun f2 f3 hkc (by omega) ?_
    gi_wp2
    rw [roundsIn_succ]
    gi_wp2
    rw [HPP.out]
    have rne : ∀ c, c < n0 + 6 → some c ≠ (Value.slice ao (cntL (L.take i)) cap).ownBlock := fun c hc q => by
      rcases owns_ne HO4 hc with h | h
      · rw [h] at q; cases q
      · exact h q.symm
    have hs5 : w4.heap.size ≤ w5.heap.size := r2.size
    obtain ⟨W6, hW6⟩ : ∃ W6, W6 = w5.setCell ⟨n0 + 2, 0, none⟩ (.slice ao' (cntL (L.take i) + pts.length) cap') := ⟨_, rfl⟩
    have gs : w5.grownBy W6 (some (n0 + 2)) := by rw [hW6]; exact grownBy_setCell' _ _ _
    have hl5 : w5.heap[n0 + 5]? = some (.loop recB) := (r2.block (n0 + 5) (by show n0 + 5 < w4.heap.size; omega) (rne _ (by omega))).trans hl4
    have hl6 : W6.heap[n0 + 5]? = some (.loop recB) := (gs.block (n0 + 5) (by omega) (fun q => by simp at q)).trans hl5
    have y2 : Boxed W6 n0 76 (.slice none 0 0) := (Boxed.kept (W := w4.drew) v2 r2 (rne _ (by omega))).kept gs (fun q => by simp at q)
    have y3 : Boxed W6 (n0 + 1) 4 (.bool false) := (Boxed.kept (W := w4.drew) v3 r2 (rne _ (by omega))).kept gs (fun q => by simp at q)
    have y5 : Boxed W6 (n0 + 3) 9 (.string u) := (Boxed.kept (W := w4.drew) v5 r2 (rne _ (by omega))).kept gs (fun q => by simp at q)
    have y4 : Boxed W6 (n0 + 2) 76 (.slice ao' (cntL (L.take i) + pts.length) cap') := by rw [hW6]; exact q4.set _
    have yD : W6.heap[n0 + 4]? = some (.deferred (some [])) := (gs.block (n0 + 4) (by omega) (fun q => by simp at q)).trans ((r2.block (n0 + 4) (by show n0 + 4 < w4.heap.size; omega) (rne _ (by omega))).trans hD4)
    have yO : W6.ownsRow (n0 + 6) 164 5 (.slice ao' (cntL (L.take i) + pts.length) cap') (cntL (L.take i) + pts.length) (cellsL (L.take i) ++ pts.flatMap (tokC x.data.toList)) := r1.kept gs (owns_ne r1 (by omega))
    have yB : Below n0 w W6 := ((HB.out.trans (hB4.mono (by omega))).drew.grown r2 (by show n0 ≤ w4.heap.size; omega) (fun k hk => by
      have := (World.ownsRow.lt HO4 k hk).1; omega)).grown gs (by omega) (fun k q => by simp at q; omega)
    have yJ : PJ n0 w L (i + 1) W6 := ⟨y2, y3, ⟨_, y4, by rw [hct, cellsL_take hq]; exact yO⟩, ⟨u, y5⟩, yD, yB, by have := gs.size; omega⟩
    have er := run_endRound (P := Tryz.prog) none hl6
    simp only [Option.isNone_none, if_true] at er
    rw [HBK.out] at er
    have hW6' : w5.setCell ⟨n0 + 1 + 1, 0, none⟩ (.slice ao' (cntL (L.take i) + pts.length) cap') = W6 := hW6.symm
    rw [hW6']
    refine ⟨_, _, er, rfl, ⟨yJ.kept (grownBy_putObj' W6 (n0 + 5) _) (.inr rfl) ⟨u, y5.kept (grownBy_putObj' W6 (n0 + 5) _) (fun q => by simp at q)⟩, World.putObj_heap_same (Array.getElem?_eq_some_iff.1 hl6).1⟩, ?_⟩
    rw [hu.cell]
    exact (y5.kept (grownBy_putObj' W6 (n0 + 5) (.loop rec)) (fun q => by simp at q)).cell
  case done =>
    rintro e W ⟨⟨v0, rfl⟩, hJ, hl⟩
    have hpend : rec.pending = none := (congrArg Loop.pending hrec).symm
    have hst : rec.state ≠ .busy := by rw [← hrec]; intro q; cases q
    have hel := run_endLoop (P := Tryz.prog) hl hst
    rw [hpend] at hel
    obtain ⟨W2, hel2, hgp⟩ : ∃ W2, (Instr.endLoop (n0 + 5)).run Tryz.prog W = .ok none W2 ∧ W.grownBy W2 (some (n0 + 5)) := ⟨_, hel, grownBy_putObj' W (n0 + 5) _⟩
    refine ⟨none, W2, hel2, ?_⟩
    dsimp only
    obtain ⟨u, hu⟩ := hJ.b5
    have hJ2 : PJ n0 w L (L.map (·.1)).length W2 := hJ.kept hgp (.inr rfl) ⟨u, hu.kept hgp (fun q => by simp at q)⟩
    rw [List.length_map] at hJ2
    clear hel hel2 hrec hgp
    obtain ⟨v, hv4, hown⟩ := hJ2.b4
    rw [List.take_length] at hown
    obtain ⟨ao, cap, rfl⟩ := own_shape hown
    have HO := Lib.hid hown
    have HB := Lib.hid hJ2.bl
    have hsz := hJ2.sz
    obtain ⟨i0, hi, hz0, hz1, hz2⟩ := info_parts Tryz.info164
    have f1 : W2.cell? ⟨n0 + 1 + 1, 0, none⟩ = some (.slice ao (cntL L) cap) := hv4.cell
    clear hown
    gi_wp2_with (gi_at_builtin; refine wpListIn_append_own _ rfl (.tmp 44) (.tmp 46) 76 rfl (n0 + 6) 164 i0 _ 5 48 Tryz.underlying76 hi hz0 hz1 hz2 rfl (by decide) _ (cntL L) (cellsL L) rfl (HO.out.alloc _) ⟨W2.heap.size, 0, none⟩ 1 1 [.int .i64 0, .int .i64 0, .int .i64 0, .string ⟨#[]⟩, .int .i64 0] rfl rfl ?c1 ?c2 ?c3 ?c4 ?c5 ?_)
    case c2 => first | exact tok_one | exact ⟨rfl, rfl, rfl⟩
    case c3 => unfold maxLen; omega
    case c4 => omega
    case c5 => first | omega | (simp; omega)
    intro v' w1 hown' hgrow _
    obtain ⟨ao', cap', rfl⟩ := own_shape hown'
    have rne : ∀ c, c < n0 + 6 → some c ≠ (Value.slice ao (cntL L) cap).ownBlock := fun c hc q => by
      rcases owns_ne HO.out hc with h | h
      · rw [h] at q; cases q
      · exact h q.symm
    have z2 := (hJ2.b2.alloc _).kept hgrow (rne _ (by omega))
    have z3 := (hJ2.b3.alloc _).kept hgrow (rne _ (by omega))
    have t2 := z2.cell
    have t3 := z2.frozen
    have t4 := z3.cell
    have t5 := z3.frozen
    have HG := Lib.hid hgrow
    have HW := Lib.hid hown'
    clear hgrow hown'
    gi_wp2
    have HB2 : Below n0 w w1 := (HB.out.alloc (by omega) _).grown HG.out (by simp; omega) (fun k hk => by
      have := (World.ownsRow.lt HO.out k hk).1; omega)
    have hD : w1.heap[n0 + 4]? = some (.deferred (some [])) := (HG.out.block (n0 + 4) (by simp; omega) (rne _ (by omega))).trans ((Below.heap_alloc _ _ _ (by omega)).trans hJ2.bD)
    have hs1 : n0 + 6 ≤ w1.heap.size := by have := HG.out.size; simp at this; omega
    obtain ⟨W3, hW3⟩ : ∃ W3, W3 = w1.setCell ⟨n0, 0, none⟩ (.slice ao' (cntL L + 1) cap') := ⟨_, rfl⟩
    rw [← hW3]
    have ga : w1.grownBy W3 (some n0) := by rw [hW3]; exact grownBy_setCell' _ _ _
    have p2 : Boxed W3 n0 76 (.slice ao' (cntL L + 1) cap') := by rw [hW3]; exact z2.set _
    have p3 : Boxed W3 (n0 + 1) 4 (.bool false) := z3.kept ga (fun q => by simp at q)
    obtain ⟨W4, hW4⟩ : ∃ W4, W4 = W3.setCell ⟨n0 + 1, 0, none⟩ (.bool true) := ⟨_, rfl⟩
    rw [← hW4]
    have gb : W3.grownBy W4 (some (n0 + 1)) := by rw [hW4]; exact grownBy_setCell' _ _ _
    have p4 : Boxed W4 (n0 + 1) 4 (.bool true) := by rw [hW4]; exact p3.set _
    have p5 := p2.kept gb (fun q => by simp at q)
    have hD4 : W4.heap[n0 + 4]? = some (.deferred (some [])) := (gb.block (n0 + 4) (by have := ga.size; omega) (fun q => by simp at q)).trans ((ga.block (n0 + 4) (by omega) (fun q => by simp at q)).trans hD)
    have gc := grownBy_putObj' W4 (n0 + 4) (.deferred none)
    have q4 := (p4.kept gc (fun q => by simp at q)).cell
    have q5 := (p5.kept gc (fun q => by simp at q)).cell
    have hs4 : n0 + 6 ≤ W4.heap.size := by have := ga.size; have := gb.size; omega
    refine ⟨by simp, .inl ⟨_, _, rfl, run_takeDeferred hD4, ?_⟩⟩
    refine ⟨.tuple #[.slice ao' (cntL L + 1) cap', .bool true], ?_, _, rfl, ?_, ?_⟩
    · simp [results, Tryz.results136, go_sem, q4, q5]
    · rw [← HN.out]
      have w2 := ((HW.out.kept ga (owns_ne HW.out (by omega))).kept gb (owns_ne HW.out (by omega))).kept gc (owns_ne HW.out (by omega))
      exact ⟨w2.1, w2.2.imp id fun ⟨g, cp, cur, h1, h2, h3⟩ => ⟨g, cp, cur, h1, by omega, h3⟩⟩
    · rw [← HN.out]
      exact ((HB2.grown ga (by omega) (fun k q => by simp at q; omega)).grown gb (by have := ga.size; omega) (fun k q => by simp at q; omega)).grown gc (by omega) (fun k q => by simp at q; omega)
end Go.Proofs.Lx6
