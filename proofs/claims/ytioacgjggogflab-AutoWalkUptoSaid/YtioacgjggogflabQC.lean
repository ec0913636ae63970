/-
  auto.Walk: how the numbers and the order stand while places are met; blocks laid ahead of an append.
-/
import Derived.Test.YtioacgjggogflabQB
import Derived.Test.YtioacgjggogflabQ0
namespace Go.Proofs.Ytioacgjggogflab
open Go.ChangeShapes Go.WideShapes Go.ChangeAt Go.RowKit Go.Deep Go.Joins Go.Instr
/-- How the numbers (the row of block g, in box nb) and the order (in box ob) stand behind some meets since w8. -/
structure MB (n : Nat) (w8 wr : World) (base nb ob g : Nat) (ov : Value) (s : St) : Prop where
  gb : Gb wr base nb ob (.slice (some ⟨g, 0, none⟩) n n) ov s
  st : StI n s
  out : OutsP (fun q => q = ob ∨ q = g) w8 wr
  own : ∀ q, ov.ownBlock = some q → w8.heap.size ≤ q
theorem MB.keep {n : Nat} {w8 wr w' : World} {base nb ob g : Nat} {ov : Value} {s : St} (h : MB n w8 wr base nb ob g ov s) (hb : Below wr.heap.size wr w') : MB n w8 w' base nb ob g ov s :=
  ⟨⟨(hb.block nb (lt_of_block h.gb.a)).trans h.gb.a, (hb.block ob (lt_of_block h.gb.b)).trans h.gb.b, h.gb.n.keep hb, h.gb.o.keep hb, h.gb.d, h.gb.ne⟩, h.st, h.out.trans (OutsP.of_below (S := fun q => q = ob ∨ q = g) hb) (fun _ hx => .inl hx), h.own⟩
theorem MB.step {n : Nat} {w8 wr w' : World} {base nb ob g : Nat} {ov ov' : Value} {s s' : St} (h : MB n w8 wr base nb ob g ov s) (hg : Gb w' base nb ob (.slice (some ⟨g, 0, none⟩) n n) ov' s') (hs : StI n s') (ho : OutsP (fun k => k = ob ∨ (Value.slice (some ⟨g, 0, none⟩) n n).ownBlock = some k ∨ ov.ownBlock = some k) wr w') (hv : ∀ k, ov'.ownBlock = some k → ov.ownBlock = some k ∨ wr.heap.size ≤ k) : MB n w8 w' base nb ob g ov' s' := by
  refine ⟨hg, hs, h.out.trans ho (fun x hx => ?_), fun q hq => ?_⟩
  · rcases hx with hx | hx | hx
    · exact .inl (.inl hx)
    · have e : g = x := by simpa [Value.ownBlock] using hx
      exact .inl (.inr e.symm)
    · exact .inr (h.own x hx)
  · rcases hv q hq with h1 | h1
    · exact h.own q h1
    · exact Nat.le_trans h.out.size h1
theorem MB.meetB {n : Nat} {w8 wr w' : World} {base nb ob g : Nat} {ov : Value} {s : St} {p : Int} {e : Ending} (h : MB n w8 wr base nb ob g ov s) (hp : inF n p = true) (hm : MeetB wr base nb ob (.slice (some ⟨g, 0, none⟩) n n) ov (mt p s) e w') : e = .returned (.tuple #[]) ∧ ∃ ov2, MB n w8 w' base nb ob g ov2 (mt p s) := by
  obtain ⟨he, ov2, hg, ho, hb⟩ := hm
  exact ⟨he, ov2, h.step hg (h.st.mt hp) ho hb⟩
theorem MB.meetL {n : Nat} {w8 wr w' : World} {base nb ob g : Nat} {ov : Value} {s : St} {ts : List Int} {e : Ending} (h : MB n w8 wr base nb ob g ov s) (hp : ∀ t ∈ ts, inF n t = true) (hm : MeetL wr base nb ob (.slice (some ⟨g, 0, none⟩) n n) ov (foldM ts s) e w') : e = .returned (.tuple #[]) ∧ ∃ ov2, MB n w8 w' base nb ob g ov2 (foldM ts s) := by
  obtain ⟨he, ov2, hg, ho, hb⟩ := hm
  exact ⟨he, ov2, h.step hg (h.st.foldM ts s hp) ho (fun k hk => (hb k hk).imp_right Nat.le_of_lt)⟩
theorem own_ints2 (w : World) (base n : Nat) (a b : Int) (hn : n = w.heap.size) (hb : base ≤ w.heap.size) : Ow (w.alloc (.cells #[.int .i64 a, .int .i64 b] 3)) base 3 1 iEnc (.slice (some ⟨n, 0, none⟩) 2 2) [a, b] := by
  subst hn
  exact World.ownsRow_lit w _ 2 hb (by decide) rfl
theorem own_ints1 (w : World) (base n : Nat) (a : Int) (hn : n = w.heap.size) (hb : base ≤ w.heap.size) : Ow (w.alloc (.cells #[.int .i64 a] 3)) base 3 1 iEnc (.slice (some ⟨n, 0, none⟩) 1 1) [a] := by
  subst hn
  exact World.ownsRow_lit w _ 1 hb (by decide) rfl
theorem lo_rd {w : World} {y : LoD} (h : y.ok w) : y.rd w := ⟨h.ov, h.out, h.ev, fun e he => ⟨(h.esc e he).1, (h.esc e he).2.1⟩⟩
theorem five_grown (w w' : World) (o0 o1 o2 o3 o4 : Obj) (n : Nat) (hn : n = w.heap.size + 1 + 1 + 1 + 1) (h : World.grownBy (((((w.alloc o0).alloc o1).alloc o2).alloc o3).alloc o4) w' (some n)) :
    w'.heap[w.heap.size]? = some o0 ∧ w'.heap[w.heap.size + 1]? = some o1 ∧ w'.heap[w.heap.size + 1 + 1]? = some o2 ∧ w'.heap[w.heap.size + 1 + 1 + 1]? = some o3 ∧ Below w.heap.size w w' := by
  subst hn
  have s1 : (w.alloc o0).heap.size = w.heap.size + 1 := by simp
  have s2 : ((w.alloc o0).alloc o1).heap.size = w.heap.size + 2 := by simp
  have s3 : (((w.alloc o0).alloc o1).alloc o2).heap.size = w.heap.size + 3 := by simp
  have s4 : ((((w.alloc o0).alloc o1).alloc o2).alloc o3).heap.size = w.heap.size + 4 := by simp
  have s5 : (((((w.alloc o0).alloc o1).alloc o2).alloc o3).alloc o4).heap.size = w.heap.size + 5 := by simp
  refine ⟨?_, ?_, ?_, ?_, ?_⟩
  · refine (h.block _ (by omega) (by intro e; injection e; omega)).trans ((Below.heap_alloc _ _ _ (by omega)).trans ((Below.heap_alloc _ _ _ (by omega)).trans ((Below.heap_alloc _ _ _ (by omega)).trans ((Below.heap_alloc _ _ _ (by omega)).trans ?_))))
    exact heap_new' _ _
  · refine (h.block _ (by omega) (by intro e; injection e; omega)).trans ((Below.heap_alloc _ _ _ (by omega)).trans ((Below.heap_alloc _ _ _ (by omega)).trans ((Below.heap_alloc _ _ _ (by omega)).trans ?_)))
    exact heap_new_at _ _ _ (by omega)
  · refine (h.block _ (by omega) (by intro e; injection e; omega)).trans ((Below.heap_alloc _ _ _ (by omega)).trans ((Below.heap_alloc _ _ _ (by omega)).trans ?_))
    exact heap_new_at _ _ _ (by omega)
  · refine (h.block _ (by omega) (by intro e; injection e; omega)).trans ((Below.heap_alloc _ _ _ (by omega)).trans ?_)
    exact heap_new_at _ _ _ (by omega)
  · exact ((((((Below.refl _ w).alloc (Nat.le_refl _) _).alloc (by omega) _).alloc (by omega) _).alloc (by omega) _).alloc (by omega) _).grown h (by omega) (fun k hk => by injection hk with hk; omega)
theorem four_grown (w w' : World) (o0 o1 o2 o4 : Obj) (n : Nat) (hn : n = w.heap.size + 1 + 1 + 1) (h : World.grownBy ((((w.alloc o0).alloc o1).alloc o2).alloc o4) w' (some n)) :
    w'.heap[w.heap.size]? = some o0 ∧ w'.heap[w.heap.size + 1]? = some o1 ∧ w'.heap[w.heap.size + 1 + 1]? = some o2 ∧ Below w.heap.size w w' := by
  subst hn
  have s1 : (w.alloc o0).heap.size = w.heap.size + 1 := by simp
  have s2 : ((w.alloc o0).alloc o1).heap.size = w.heap.size + 2 := by simp
  have s3 : (((w.alloc o0).alloc o1).alloc o2).heap.size = w.heap.size + 3 := by simp
  have s4 : ((((w.alloc o0).alloc o1).alloc o2).alloc o4).heap.size = w.heap.size + 4 := by simp
  refine ⟨?_, ?_, ?_, ?_⟩
  · refine (h.block _ (by omega) (by intro e; injection e; omega)).trans ((Below.heap_alloc _ _ _ (by omega)).trans ((Below.heap_alloc _ _ _ (by omega)).trans ((Below.heap_alloc _ _ _ (by omega)).trans ?_)))
    exact heap_new' _ _
  · refine (h.block _ (by omega) (by intro e; injection e; omega)).trans ((Below.heap_alloc _ _ _ (by omega)).trans ((Below.heap_alloc _ _ _ (by omega)).trans ?_))
    exact heap_new_at _ _ _ (by omega)
  · refine (h.block _ (by omega) (by intro e; injection e; omega)).trans ((Below.heap_alloc _ _ _ (by omega)).trans ?_)
    exact heap_new_at _ _ _ (by omega)
  · exact (((((Below.refl _ w).alloc (Nat.le_refl _) _).alloc (by omega) _).alloc (by omega) _).alloc (by omega) _).grown h (by omega) (fun k hk => by injection hk with hk; omega)
/-- What auto.Walk comes to where it fits: as the plain one; its ways and numbers lie in memory of its own. -/
def WalkA (x : PrD) (more : List Int) (w : World) (e : Ending) (w' : World) : Prop :=
  ∃ q nv, e = .returned (.tuple #[q.val, nv, .int .i64 0]) ∧ PrA q (wS x more) ∧ Ow w' w.heap.size 3 1 iEnc nv (stW x more).1 ∧ q.rd w' ∧ Ow w' w.heap.size 36 7 LoD.enc q.lv q.locs ∧ (∀ t ∈ q.locs, LoW w w.heap.size w' t) ∧ Below w.heap.size w w'
/-- append of one element to a row of the call's own, at a step of a region that draws. -/
theorem step_pushG {α : Type} {T E sz : Nat} (hT : ElT T E sz) {w : World} {ops : Array Oper} {o : Oper} {a : Act} {K : Act → World → Prop} {Q : Exit → Act → World → Prop} {EE : Prop} (hgd : o.guard = none) (s x : Operand)
    (ho : o.op = .call { callee := .builtin .append, args := #[s, x], argTypes := #[T, T] })
    (base : Nat) (enc : α → Nat → Value) (v : Value) (l : List α) (hs : a.eval s = v) (hown : Ow w base E sz enc v l)
    (b0 : Nat) (y : α) (cs : Array Value) (hx : a.eval x = .slice (some ⟨b0, 0, none⟩) 1 1) (hb : w.heap[b0]? = some (.cells cs E (0, 0))) (hcs : cs.toList = (List.range sz).map (enc y)) (h1 : ∀ u ∈ cs.toList, u.oneCell' = true)
    (h63 : l.length + 1 ≤ 1000000000) (hbase : base ≤ w.heap.size)
    (h : ∀ g cap w', Ow w' base E sz enc (.slice (some ⟨g, 0, none⟩) (l.length + 1) cap) (l ++ [y]) → w.grownBy w' v.ownBlock → (v.ownBlock = some g ∨ g = w.heap.size) → K (a.put o.dst (.slice (some ⟨g, 0, none⟩) (l.length + 1) cap)) w') :
    if Region.wanted o (yielded ops a.tmps) = true then Oper.wp Try.prog o a w K Q else EE := by
  obtain ⟨i, z, hi, hz, hs1, hz2, hby⟩ := hT.ex
  refine step_append_lies w hgd s x T ho base E i z sz i.bytes hT.und hi hz hs1 rfl hz2 hT.pos v l.length (fle sz enc l) hs hown ⟨b0, 0, none⟩ 1 1 cs.toList hx (by rw [hcs]; simp) (World.news_of_block (cs := cs) hb) h1 (by omega) (by unfold maxLen; omega) ?_ hbase _ rfl ?_
  · have := Nat.mul_le_mul h63 hby
    omega
  · intro g cap w' h1 h2 h3 _
    refine h g cap w' ?_ h2 h3
    unfold Ow
    rw [fle_app, fle_one, ← hcs]
    simpa using h1
theorem fle_ren (N : List Int) : ∀ l : List EsD, fle 1 EsD.enc (l.map (renE N)) = fle 1 EsD.enc l
  | [] => rfl
  | e :: l => by
    have e2 : ∀ (x : EsD) (l' : List EsD), fle 1 EsD.enc (x :: l') = (List.range 1).map (EsD.enc x) ++ fle 1 EsD.enc l' := fun _ _ => rfl
    rw [List.map_cons, e2, e2, fle_ren N l]
    rfl
theorem ow_ren {w : World} {B : Nat} {v : Value} {l : List EsD} (N : List Int) (h : Ow w B 33 1 EsD.enc v l) : Ow w B 33 1 EsD.enc v (l.map (renE N)) := by
  unfold Ow at h ⊢
  rw [fle_ren, List.length_map]
  exact h
theorem dis_nil (e : EsD) : Dis [e] := fun i j hij hj k hk => by simp at hj; omega
theorem dis_snoc {L : List EsD} {e : EsD} {B : Nat} (h : Dis L) (hlt : ∀ x ∈ L, ∀ k, x.v.ownBlock = some k → k < B) (he : ∀ k, e.v.ownBlock = some k → B ≤ k) : Dis (L ++ [e]) := by
  intro i j hij hj k hk
  simp at hj
  have hi : i < L.length := by omega
  have ei : (L ++ [e]).getD i default = L.getD i default := by simp [List.getD_eq_getElem?_getD, List.getElem?_append, hi]
  rw [ei] at hk
  by_cases h1 : j < L.length
  · have ej : (L ++ [e]).getD j default = L.getD j default := by simp [List.getD_eq_getElem?_getD, List.getElem?_append, h1]
    rw [ej]
    exact h i j hij h1 k hk
  · obtain rfl : j = L.length := by omega
    have ej : (L ++ [e]).getD L.length default = e := by simp [List.getD_eq_getElem?_getD]
    rw [ej]
    intro h2
    have := hlt _ (mem_getD hi) k hk
    have := he k h2
    omega
theorem dis_cons {L : List EsD} {e : EsD} {B : Nat} (h : Dis L) (hlt : ∀ k, e.v.ownBlock = some k → k < B) (he : ∀ x ∈ L, ∀ k, x.v.ownBlock = some k → B ≤ k) : Dis (e :: L) := by
  intro i j hij hj k hk
  obtain ⟨j, rfl⟩ : ∃ j', j = j' + 1 := ⟨j - 1, by omega⟩
  have hj2 : j < L.length := by simpa using hj
  have ej : (e :: L).getD (j + 1) default = L.getD j default := by simp [List.getD_eq_getElem?_getD]
  rw [ej]
  cases i with
  | zero =>
    intro h2
    have h3 : e.v.ownBlock = some k := hk
    have := hlt k h3
    have := he _ (mem_getD hj2) k h2
    omega
  | succ i =>
    have ei : (e :: L).getD (i + 1) default = L.getD i default := by simp [List.getD_eq_getElem?_getD]
    rw [ei] at hk
    exact h i j (by omega) hj2 k hk
theorem escB_map (n : Nat) (l : List EsD) : escB n l = (l.map EsD.l).all (toB n) := by simp [escB, List.all_map, Function.comp_def]
theorem loB_alike {n : Nat} {x y : LoD} (h1 : x.out = y.out) (h2 : x.esc.map EsD.l = y.esc.map EsD.l) : loB n x = loB n y := by
  unfold loB
  rw [escB_map, escB_map, h1, h2]
theorem low_of {w W : World} {B : Nat} {N : List Int} {Y : LoD} (hrows : ∀ q, q < (lsOf Y).length → Ow W B 40 9 TrD.enc ((lsOf Y).getD q default).v (((lsOf Y).getD q default).l.map (ren N))) (hev : Ow W B 33 1 EsD.enc Y.ev Y.esc)
    (hok : ∀ e ∈ lsOf Y, ∀ u ∈ e.l, u.ok w) (hN : ∀ x ∈ N, okI x) (hlo : loB N.length Y = true) : LoW w B W (renL N Y) := by
  have hto : ∀ e ∈ lsOf Y, toB N.length e.l = true := by
    intro e he
    unfold loB at hlo
    obtain ⟨h1, h2⟩ := Bool.and_eq_true_iff.1 hlo
    rcases List.mem_cons.1 he with rfl | he
    · exact h1
    · exact List.all_eq_true.1 h2 _ he
  have hro : ∀ e ∈ lsOf Y, ∀ u ∈ e.l.map (ren N), u.ok w := by
    intro e he u hu
    obtain ⟨t, ht, rfl⟩ := List.mem_map.1 hu
    exact ren_ok (hok e he t ht) (List.all_eq_true.1 (hto e he) t ht) hN
  have hre : ∀ e ∈ lsOf Y, Ow W B 40 9 TrD.enc e.v (e.l.map (ren N)) := by
    intro e he
    obtain ⟨q, hq, rfl⟩ := List.getElem_of_mem he
    have h := hrows q hq
    rw [List.getD_eq_getElem?_getD, List.getElem?_eq_getElem hq] at h
    exact h
  refine ⟨hre ⟨Y.ov, Y.out⟩ (List.mem_cons_self ..), hro ⟨Y.ov, Y.out⟩ (List.mem_cons_self ..), ow_ren N hev, fun e he => ?_⟩
  obtain ⟨e0, he0, rfl⟩ := List.mem_map.1 (show e ∈ Y.esc.map (renE N) from he)
  exact ⟨hre e0 (List.mem_cons_of_mem _ he0), hro e0 (List.mem_cons_of_mem _ he0)⟩
theorem loA_ren {N : List Int} {Y y : LoD} (h1 : Y.out = y.out) (h2 : Y.atomic = y.atomic) (h3 : Y.dstep = y.dstep) (h4 : Y.e = y.e) (h5 : Y.acc = y.acc) (h6 : Y.pro = y.pro) (h7 : Y.esc.map EsD.l = y.esc.map EsD.l) : LoA (renL N Y) (renL N y) := by
  have h8 : ∀ l : List EsD, (l.map (renE N)).map EsD.l = (l.map EsD.l).map (fun x => x.map (ren N)) := fun l => by simp [List.map_map, Function.comp_def, renE]
  refine ⟨?_, h2, h3, h4, h5, h6, ?_⟩
  · show Y.out.map (ren N) = y.out.map (ren N)
    rw [h1]
  · show (Y.esc.map (renE N)).map EsD.l = (y.esc.map (renE N)).map EsD.l
    rw [h8, h8, h7]
theorem esc_ok {w : World} {E ys : List EsD} (h : E.map EsD.l = ys.map EsD.l) (hy : ∀ e ∈ ys, ∀ u ∈ e.l, u.ok w) : ∀ e ∈ E, ∀ u ∈ e.l, u.ok w := by
  intro e he u hu
  have h1 : e.l ∈ ys.map EsD.l := by rw [← h]; exact List.mem_map_of_mem he
  obtain ⟨e2, he2, h2⟩ := List.mem_map.1 h1
  exact hy e2 he2 u (by rw [h2]; exact hu)
end Go.Proofs.Ytioacgjggogflab
