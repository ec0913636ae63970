/-
  A struct of several cells that is laid into a new row of one; the last region of auto.Walk. (Both as lemmas: in the walk itself their proofs are not checked in time.)
-/
import Derived.Test.YtioacgjggogflabQC
import Derived.Test.YtioacgjggogflabQE
import Derived.Great.BuildSlice
import Derived.BigFrame
namespace Go.Proofs.Ytioacgjggogflab
open Go.ChangeShapes Go.WideShapes Go.ChangeAt Go.RowKit Go.Deep Go.Joins Go.Instr
theorem foldl_set (l : List Value) : ∀ (k : Nat) (z : Array Value), ((l.zipIdx k).foldl (fun cs (x : Value × Nat) => cs.setIfInBounds (0 + x.2) x.1) z).size = z.size ∧ ∀ i, ((l.zipIdx k).foldl (fun cs (x : Value × Nat) => cs.setIfInBounds (0 + x.2) x.1) z)[i]? = if k ≤ i ∧ i < k + l.length ∧ i < z.size then l[i - k]? else z[i]? := by
  induction l with
  | nil => intro k z; simp; intro i h1 h2; omega
  | cons c l ih =>
    intro k z
    obtain ⟨h1, h2⟩ := ih (k + 1) (z.setIfInBounds (0 + k) c)
    simp only [List.zipIdx_cons, List.foldl_cons]
    refine ⟨by rw [h1]; simp, fun i => ?_⟩
    rw [h2 i]
    simp only [Nat.zero_add, Array.size_setIfInBounds, List.length_cons, Array.getElem?_setIfInBounds]
    by_cases hk : k = i
    · subst hk
      by_cases hz : k < z.size
      · rw [if_neg (by omega), if_pos rfl, if_pos hz, if_pos (by omega)]
        simp
      · rw [if_neg (by omega), if_pos rfl, if_neg hz, if_neg (by omega)]
        simp; omega
    · by_cases h3 : k + 1 ≤ i ∧ i < k + 1 + l.length ∧ i < z.size
      · rw [if_pos h3, if_pos (by omega)]
        rw [show i - k = (i - (k + 1)) + 1 by omega]
        simp
      · rw [if_neg h3, if_neg hk, if_neg (by omega)]
theorem fill_one (sz : Nat) (z cs : Array Value) (hz : z.size = sz) (hc : cs.size = sz) : Instr.fill (fun i => some (i * sz, sz)) z [(0, .agg cs)] = some cs := by
  have hcell : (Value.agg cs).cells = cs := rfl
  simp only [Instr.fill, hcell, Nat.zero_mul, Nat.zero_add]
  rw [if_neg (by simp [hz, hc])]
  congr 1
  obtain ⟨h1, h2⟩ := foldl_set cs.toList 0 z
  rw [← Array.foldl_toList, Array.toList_zipIdx]
  simp only [Nat.zero_add] at h1 h2
  apply Array.ext_getElem?
  intro i
  rw [h2 i]
  by_cases h3 : i < sz
  · rw [if_pos ⟨by omega, by simp; omega, by omega⟩]
    simp
  · rw [if_neg (by omega)]
    rw [Array.getElem?_eq_none (by omega), Array.getElem?_eq_none (by omega)]
/-- '[]T{x}', x a struct: the row that an append reads. -/
theorem wpList_build1 {T E sz : Nat} (hT : ElT T E sz) {w : World} {ops : Array Oper} {rest : List Oper} {o : Oper} {a : Act} {Q : Exit → Act → World → Prop} (hgd : o.guard = none) (x : Operand)
    (ho : o.op = .buildSlice T 1 #[(0, x)]) (cs : Array Value) (hx : a.eval x = .agg cs) (hcs : cs.size = sz) (hsm : sz ≤ 1000)
    (h : wpList Try.prog ops Q rest (a.put o.dst (.slice (some ⟨w.heap.size, 0, none⟩) 1 1)) (w.alloc (.cells cs E))) : wpList Try.prog ops Q (o :: rest) a w := by
  obtain ⟨i, z, hi, hz, hs1, hz2, hby⟩ := hT.ex
  have hp := hT.pos
  refine wpList_buildSlice hgd T E 1 _ ho cs i z hT.und hi hz (by rw [hs1]; omega) (by rw [hs1]; omega) ?_ h
  have e : (#[(0, x)].map fun (p : Nat × Operand) => (p.1, a.eval p.2)).toList = [(0, Value.agg cs)] := by simp [hx]
  rw [hs1]
  exact (congrArg _ e).trans (fill_one sz _ cs (by simp) hcs)
theorem outs_setRow (w : World) (b : Nat) (cs : Array Value) : OutsP (fun k => k = b) w (w.setRow b cs) :=
  ⟨rfl, rfl, rfl, by simp, fun k _ h => setRow_other w b k cs h⟩
theorem getD_set_same (A : Array Value) (n : Nat) (v : Value) (h : n < A.size) : (A.setIfInBounds n v).getD n undef = v := by
  simp [Array.getD_eq_getD_getElem?, h]
theorem getD_set_ne (A : Array Value) (n m : Nat) (v : Value) (h : n ≠ m) : (A.setIfInBounds n v).getD m undef = A.getD m undef := by
  simp [Array.getD_eq_getD_getElem?, h]

set_option maxHeartbeats 1000000 in
theorem region46 {Q : Exit → Act → World → Prop} (A : Array Value) (D : List Deferred) (w : World) (hA : 162 ≤ A.size) (bq bz bn : Nat) (cs os ns : Array Value) (tn : TypeId) (L : Value)
    (e20 : A.getD 20 undef = .pointer (some ⟨bq, 0, none⟩)) (e14 : A.getD 14 undef = .pointer (some ⟨bn, 0, none⟩)) (e4 : A.getD 4 undef = .pointer (some ⟨bz, 0, none⟩))
    (hq : w.heap[bq]? = some (.cells cs 26 (0, 0))) (hz : w.heap[bz]? = some (.cells os 26 (0, 0))) (hn : w.heap[bn]? = some (.cells ns tn (0, 0))) (hn0 : ns[0]? = some L) (hnz : bn ≠ bz)
    (c10 : cs.size = 10) (o10 : os.size = 10) (h1 : cs.all (·.oneCell') = true)
    (h : ∀ WF, WF.heap[bz]? = some (.cells cs 26 (0, 0)) → OutsP (fun k => k = bz) w WF → Q .normal ⟨(((A.setIfInBounds 160 (.agg cs)).setIfInBounds 161 L).setIfInBounds 5 L).setIfInBounds 6 (.int .i64 0), D⟩ WF) :
    (Code.region 46
      #[{ dst := some 160, op := Op.load 26 (Operand.tmp 20), type := 26, pos := "auto.go:637", after := #[],
          guard := none },
        { dst := some 161, op := Op.load 27 (Operand.tmp 14), type := 27, pos := "auto.go:637",
          after := #[{ on := 2, ground := Ground.gcOnly Departure.lateStores }], guard := none },
        { dst := none, op := Op.store 26 (Operand.tmp 4) (Operand.tmp 160), type := 0, pos := "auto.go:637",
          after :=
            #[{ on := 0, ground := Ground.data }, { on := 0, ground := Ground.phase },
              { on := 1, ground := Ground.textOnly Departure.lateStores }],
          guard := none },
        { dst := some 5, op := Op.assign (Operand.tmp 161), type := 27, pos := "auto.go:637",
          after :=
            #[{ on := 1, ground := Ground.data }, { on := 2, ground := Ground.chain },
              { on := 0, ground := Ground.phase }, { on := 1, ground := Ground.phase },
              { on := 2, ground := Ground.phase }],
          guard := none },
        { dst := some 6, op := Op.assign (Operand.const (Value.int IntKind.i64 0)), type := 28, pos := "auto.go:637",
          after :=
            #[{ on := 3, ground := Ground.chain }, { on := 0, ground := Ground.phase },
              { on := 1, ground := Ground.phase }, { on := 2, ground := Ground.phase },
              { on := 3, ground := Ground.phase }],
          guard := none }] true).wp Try.prog Q ⟨A, D⟩ w := by
  have hi : (Try.prog.info? 26).map (·.size) = some cs.size := by rw [c10]; kernel_rfl
  have hz' : (w.drew.setRow bz cs).heap[bz]? = some (.cells cs 26 (0, 0)) := setRow_heap w.drew bz os cs 26 (0, 0) hz
  have ho : OutsP (fun k => k = bz) w (w.drew.setRow bz cs) := ((OutsP.refl _ w).drew).trans (outs_setRow w.drew bz cs) (fun x hx => .inl hx)
  have fin := h _ hz' ho
  have hL1 : w.drew.cell? ⟨bn, 0, none⟩ = some L := (cell_of_row w.drew bn 0 ns tn (0, 0) hn).trans hn0
  have hL2 : (w.drew.setRow bz cs).cell? ⟨bn, 0, none⟩ = some L := (cell_setRow_other w.drew bz cs ⟨bn, 0, none⟩ hnz).trans hL1
  have f4 : ((A.setIfInBounds 160 (.agg cs)).setIfInBounds 161 L).getD 4 undef = .pointer (some ⟨bz, 0, none⟩) := (getD_set_ne _ 161 4 _ (by decide)).trans ((getD_set_ne A 160 4 _ (by decide)).trans e4)
  have f160 : ((A.setIfInBounds 160 (.agg cs)).setIfInBounds 161 L).getD 160 undef = .agg cs := (getD_set_ne _ 161 160 _ (by decide)).trans (getD_set_same A 160 _ (by omega))
  refine wp_region_any (by kernel_rfl) ?_
  change wpAny _ _ _ _ 5 _ _ w.drew
  refine wpAny_ready (rs := [0, 1]) (by kernel_rfl) (by simp) ?_
  refine AllReady.cons rfl (fun K hK => ?_) (AllReady.cons rfl (fun K hK => ?_) AllReady.nil)
  · rw [if_pos (by simp [Region.wanted])]
    refine wp_load_row 26 _ rfl bq e20 26 cs (0, 0) _ hq Try.underlying26 rfl hi (hK _ _ ?_)
    change wpAny _ _ _ _ 4 _ ⟨A.setIfInBounds 160 (.agg cs), D⟩ w.drew
    refine wpAny_ready (rs := [1, 2]) (by kernel_rfl) (by simp) ?_
    clear hK K
    have e14' : (A.setIfInBounds 160 (.agg cs)).getD 14 undef = .pointer (some ⟨bn, 0, none⟩) := (getD_set_ne A 160 14 _ (by decide)).trans e14
    refine AllReady.cons rfl (fun K hK => ?_) (AllReady.cons rfl (fun K hK => ?_) AllReady.nil)
    · rw [if_pos (by simp [Region.wanted])]
      go_simp
      refine hK _ _ ?_
      change wpAny _ _ _ _ 3 _ ⟨(A.setIfInBounds 160 (.agg cs)).setIfInBounds 161 L, D⟩ w.drew
      refine wpAny_ready (rs := [2]) (by kernel_rfl) (by simp) ?_
      clear hK K
      refine AllReady.cons rfl (fun K hK => ?_) AllReady.nil
      rw [if_pos (by simp [Region.wanted])]
      refine wp_store_row 26 _ _ rfl bz cs f4 f160 26 os hz hi (by rw [o10, c10]) h1 (hK _ _ ?_)
      change wpAny _ _ _ _ 2 _ ⟨(A.setIfInBounds 160 (.agg cs)).setIfInBounds 161 L, D⟩ (w.drew.setRow bz cs)
      refine wpAny_ready (rs := [3]) (by kernel_rfl) (by simp) ?_
      clear hK K
      refine AllReady.cons rfl (fun K hK => ?_) AllReady.nil
      rw [if_pos (by simp [Region.wanted])]
      refine BigFrame.wp_assign _ rfl (hK _ _ ?_)
      have e161 : (⟨(A.setIfInBounds 160 (.agg cs)).setIfInBounds 161 L, D⟩ : Act).eval (.tmp 161) = L := getD_set_same _ 161 L (by simp; omega)
      rw [e161]
      change wpAny _ _ _ _ 1 _ ⟨((A.setIfInBounds 160 (.agg cs)).setIfInBounds 161 L).setIfInBounds 5 L, D⟩ (w.drew.setRow bz cs)
      refine wpAny_ready (rs := [4]) (by kernel_rfl) (by simp) ?_
      clear hK K
      refine AllReady.cons rfl (fun K hK => ?_) AllReady.nil
      rw [if_pos (by simp [Region.wanted])]
      refine BigFrame.wp_assign _ rfl (hK _ _ ?_)
      exact wpAny_done (by kernel_rfl) fin 0

    · rw [if_pos (by simp [Region.wanted])]
      refine wp_store_row 26 _ _ rfl bz cs ((getD_set_ne A 160 4 _ (by decide)).trans e4) (getD_set_same A 160 _ (by omega)) 26 os hz hi (by rw [o10, c10]) h1 (hK _ _ ?_)
      change wpAny _ _ _ _ 3 _ ⟨A.setIfInBounds 160 (.agg cs), D⟩ (w.drew.setRow bz cs)
      refine wpAny_ready (rs := [1]) (by kernel_rfl) (by simp) ?_
      clear hK K
      refine AllReady.cons rfl (fun K hK => ?_) AllReady.nil
      rw [if_pos (by simp [Region.wanted])]
      go_simp
      refine hK _ _ ?_
      change wpAny _ _ _ _ 2 _ ⟨(A.setIfInBounds 160 (.agg cs)).setIfInBounds 161 L, D⟩ (w.drew.setRow bz cs)
      refine wpAny_ready (rs := [3]) (by kernel_rfl) (by simp) ?_
      clear hK K
      refine AllReady.cons rfl (fun K hK => ?_) AllReady.nil
      rw [if_pos (by simp [Region.wanted])]
      refine BigFrame.wp_assign _ rfl (hK _ _ ?_)
      have e161 : (⟨(A.setIfInBounds 160 (.agg cs)).setIfInBounds 161 L, D⟩ : Act).eval (.tmp 161) = L := getD_set_same _ 161 L (by simp; omega)
      rw [e161]
      change wpAny _ _ _ _ 1 _ ⟨((A.setIfInBounds 160 (.agg cs)).setIfInBounds 161 L).setIfInBounds 5 L, D⟩ (w.drew.setRow bz cs)
      refine wpAny_ready (rs := [4]) (by kernel_rfl) (by simp) ?_
      clear hK K
      refine AllReady.cons rfl (fun K hK => ?_) AllReady.nil
      rw [if_pos (by simp [Region.wanted])]
      refine BigFrame.wp_assign _ rfl (hK _ _ ?_)
      exact wpAny_done (by kernel_rfl) fin 0

  · rw [if_pos (by simp [Region.wanted])]
    go_simp
    refine hK _ _ ?_
    change wpAny _ _ _ _ 4 _ ⟨A.setIfInBounds 161 L, D⟩ w.drew
    refine wpAny_ready (rs := [0]) (by kernel_rfl) (by simp) ?_
    clear hK K
    refine AllReady.cons rfl (fun K hK => ?_) AllReady.nil
    rw [if_pos (by simp [Region.wanted])]
    refine wp_load_row 26 _ rfl bq ((getD_set_ne A 161 20 _ (by decide)).trans e20) 26 cs (0, 0) _ hq Try.underlying26 rfl hi (hK _ _ ?_)
    change wpAny _ _ _ _ 3 _ ⟨(A.setIfInBounds 161 L).setIfInBounds 160 (.agg cs), D⟩ w.drew
    rw [Array.setIfInBounds_comm L (.agg cs) (by decide)]
    refine wpAny_ready (rs := [2]) (by kernel_rfl) (by simp) ?_
    clear hK K
    refine AllReady.cons rfl (fun K hK => ?_) AllReady.nil
    rw [if_pos (by simp [Region.wanted])]
    refine wp_store_row 26 _ _ rfl bz cs f4 f160 26 os hz hi (by rw [o10, c10]) h1 (hK _ _ ?_)
    change wpAny _ _ _ _ 2 _ ⟨(A.setIfInBounds 160 (.agg cs)).setIfInBounds 161 L, D⟩ (w.drew.setRow bz cs)
    refine wpAny_ready (rs := [3]) (by kernel_rfl) (by simp) ?_
    clear hK K
    refine AllReady.cons rfl (fun K hK => ?_) AllReady.nil
    rw [if_pos (by simp [Region.wanted])]
    refine BigFrame.wp_assign _ rfl (hK _ _ ?_)
    have e161 : (⟨(A.setIfInBounds 160 (.agg cs)).setIfInBounds 161 L, D⟩ : Act).eval (.tmp 161) = L := getD_set_same _ 161 L (by simp; omega)
    rw [e161]
    change wpAny _ _ _ _ 1 _ ⟨((A.setIfInBounds 160 (.agg cs)).setIfInBounds 161 L).setIfInBounds 5 L, D⟩ (w.drew.setRow bz cs)
    refine wpAny_ready (rs := [4]) (by kernel_rfl) (by simp) ?_
    clear hK K
    refine AllReady.cons rfl (fun K hK => ?_) AllReady.nil
    rw [if_pos (by simp [Region.wanted])]
    refine BigFrame.wp_assign _ rfl (hK _ _ ?_)
    exact wpAny_done (by kernel_rfl) fin 0
/-- The zero of a proctype. -/
theorem wpList_zero26 {w : World} {ops : Array Oper} {rest : List Oper} {o : Oper} {a : Act} {Q : Exit → Act → World → Prop} (hgd : o.guard = none) (ho : o.op = .build 26 #[])
    (h : wpList Try.prog ops Q rest (a.put o.dst (.agg #[.string ByteArray.empty, .int .i64 0, .slice none 0 0, .slice none 0 0, .slice none 0 0, .int .i64 0, .int .i64 0, .int .i64 0, .int .i64 0, .int .i64 0])) w) : wpList Try.prog ops Q (o :: rest) a w := by
  have e : Try.prog.built 26 [] = some #[.string ByteArray.empty, .int .i64 0, .slice none 0 0, .slice none 0 0, .slice none 0 0, .int .i64 0, .int .i64 0, .int .i64 0, .int .i64 0, .int .i64 0] := by kernel_rfl
  have e2 : ((#[] : Array (Nat × Operand)).map fun (i, x) => (i, a.eval x)).toList = [] := by simp
  refine wpList_build hgd 26 #[] ho (by rw [e2, e]; rfl) ?_
  rw [e2, e]
  exact h
/-- A proctype's zero is laid into the result. -/
theorem wpList_store26z {w : World} {ops : Array Oper} {rest : List Oper} {o : Oper} {a : Act} {Q : Exit → Act → World → Prop} (hgd : o.guard = none) (x y : Operand) (ho : o.op = .store 26 x y)
    (g : Nat) (hx : a.eval x = .pointer (some ⟨g, 0, none⟩)) (hy : a.eval y = .agg #[.string ByteArray.empty, .int .i64 0, .slice none 0 0, .slice none 0 0, .slice none 0 0, .int .i64 0, .int .i64 0, .int .i64 0, .int .i64 0, .int .i64 0])
    (hg : w.heap[g]? = some (.cells ZARR 26 (0, 0)))
    (h : ∀ WF, WF.heap[g]? = some (.cells #[.string ByteArray.empty, .int .i64 0, .slice none 0 0, .slice none 0 0, .slice none 0 0, .int .i64 0, .int .i64 0, .int .i64 0, .int .i64 0, .int .i64 0] 26 (0, 0)) → OutsP (fun k => k = g) w WF → wpList Try.prog ops Q rest (a.put o.dst undef) WF) : wpList Try.prog ops Q (o :: rest) a w := by
  have hi : (Try.prog.info? 26).map (·.size) = some 10 := by kernel_rfl
  refine wpList_store_row hgd 26 x y ho g _ hx hy 26 ZARR hg hi rfl (by simp [Value.oneCell']) ?_
  exact h _ (setRow_heap w g ZARR _ 26 (0, 0) hg) (outs_setRow w g _)
theorem proc_all (a : ByteArray) (b c d e f g : Int) (x1 x2 x3 : Option Addr) (n1 n2 n3 m1 m2 m3 : Nat) : (#[.string a, .int .i64 b, .slice x1 n1 m1, .slice x2 n2 m2, .slice x3 n3 m3, .int .i64 c, .int .i64 d, .int .i64 e, .int .i64 f, .int .i64 g] : Array Value).all (·.oneCell') = true := by
  simp [Value.oneCell']
set_option maxHeartbeats 1000000 in
theorem region44 {Q : Exit → Act → World → Prop} (A : Array Value) (D : List Deferred) (w : World) (hA : 199 ≤ A.size) (bq bz bn : Nat) (cs os ns : Array Value) (tn : TypeId) (L : Value)
    (hQ : ∀ c (a : Act) (T : Array Value) (w : World), Q (.panic c) { a with tmps := T } w → Q (.panic c) a w) (e20 : A.getD 15 undef = .pointer (some ⟨bq, 0, none⟩)) (e14 : A.getD 8 undef = .pointer (some ⟨bn, 0, none⟩)) (e4 : A.getD 4 undef = .pointer (some ⟨bz, 0, none⟩))
    (hq : w.heap[bq]? = some (.cells cs 26 (0, 0))) (hz : w.heap[bz]? = some (.cells os 26 (0, 0))) (hn : w.heap[bn]? = some (.cells ns tn (0, 0))) (hn0 : ns[0]? = some L) (hnz : bn ≠ bz)
    (c10 : cs.size = 10) (o10 : os.size = 10) (h1 : cs.all (·.oneCell') = true)
    (h : ∀ WF, WF.heap[bz]? = some (.cells cs 26 (0, 0)) → OutsP (fun k => k = bz) w WF → Q .normal ⟨((((((A.setIfInBounds 195 (.pointer (some ⟨bn, 0, none⟩))).setIfInBounds 196 (.pointer (some ⟨bn, 0, none⟩))).setIfInBounds 197 (.pointer (some ⟨bn, 0, none⟩))).setIfInBounds 194 (.agg cs)).setIfInBounds 198 L).setIfInBounds 5 L).setIfInBounds 6 (.int .i64 0), D⟩ WF) :
    (Code.region 44
      #[{ dst := some 194, op := Op.load 26 (Operand.tmp 15), type := 26, pos := "ref.go:821", after := #[],
          guard := none },
        { dst := some 195, op := Op.move (Operand.tmp 8), type := 49, pos := "ref.go:821",
          after := #[{ on := 5, ground := Ground.gcOnly Departure.lateStores }], guard := none },
        { dst := some 196, op := Op.nilCheck (Operand.tmp 195), type := 0, pos := "ref.go:821",
          after := #[{ on := 1, ground := Ground.data }, { on := 5, ground := Ground.gcOnly Departure.lateStores }],
          guard := none },
        { dst := some 197, op := Op.fieldAddr 51 (Operand.tmp 196) 0, type := 0, pos := "ref.go:821",
          after := #[{ on := 2, ground := Ground.data }, { on := 5, ground := Ground.gcOnly Departure.lateStores }],
          guard := none },
        { dst := some 198, op := Op.load 27 (Operand.tmp 197), type := 27, pos := "ref.go:821",
          after := #[{ on := 3, ground := Ground.data }, { on := 5, ground := Ground.gcOnly Departure.lateStores }],
          guard := none },
        { dst := none, op := Op.store 26 (Operand.tmp 4) (Operand.tmp 194), type := 0, pos := "ref.go:821",
          after :=
            #[{ on := 0, ground := Ground.data }, { on := 0, ground := Ground.phase },
              { on := 1, ground := Ground.textOnly Departure.lateStores },
              { on := 2, ground := Ground.textOnly Departure.lateStores },
              { on := 3, ground := Ground.textOnly Departure.lateStores },
              { on := 4, ground := Ground.textOnly Departure.lateStores }],
          guard := none },
        { dst := some 5, op := Op.assign (Operand.tmp 198), type := 27, pos := "ref.go:821",
          after :=
            #[{ on := 4, ground := Ground.data }, { on := 5, ground := Ground.chain },
              { on := 0, ground := Ground.phase }, { on := 1, ground := Ground.phase },
              { on := 2, ground := Ground.phase }, { on := 3, ground := Ground.phase },
              { on := 4, ground := Ground.phase }, { on := 5, ground := Ground.phase }],
          guard := none },
        { dst := some 6, op := Op.assign (Operand.const (Value.int IntKind.i64 0)), type := 28, pos := "ref.go:821",
          after :=
            #[{ on := 6, ground := Ground.chain }, { on := 0, ground := Ground.phase },
              { on := 1, ground := Ground.phase }, { on := 2, ground := Ground.phase },
              { on := 3, ground := Ground.phase }, { on := 4, ground := Ground.phase },
              { on := 5, ground := Ground.phase }, { on := 6, ground := Ground.phase }],
          guard := none }] true).wp Try.prog Q ⟨A, D⟩ w := by
  have hi : (Try.prog.info? 26).map (·.size) = some cs.size := by rw [c10]; kernel_rfl
  have hz' : (w.drew.setRow bz cs).heap[bz]? = some (.cells cs 26 (0, 0)) := setRow_heap w.drew bz os cs 26 (0, 0) hz
  have ho : OutsP (fun k => k = bz) w (w.drew.setRow bz cs) := ((OutsP.refl _ w).drew).trans (outs_setRow w.drew bz cs) (fun x hx => .inl hx)
  have fin := h _ hz' ho
  have hL1 : w.drew.cell? ⟨bn, 0, none⟩ = some L := (cell_of_row w.drew bn 0 ns tn (0, 0) hn).trans hn0
  have hL2 : (w.drew.setRow bz cs).cell? ⟨bn, 0, none⟩ = some L := (cell_setRow_other w.drew bz cs ⟨bn, 0, none⟩ hnz).trans hL1
  refine wp_region_any (by kernel_rfl) ?_
  change wpAny _ _ _ _ 8 _ ⟨A, D⟩ w.drew
  refine wpAny_take (i := 1) (v := .pointer (some ⟨bn, 0, none⟩)) rfl (by kernel_rfl) (by kernel_rfl) (by kernel_rfl) (fun c a w h => hQ c a _ w h) (Or.inl ⟨by rfl, fun w => by go_simp⟩) ?_
  change wpAny _ _ _ _ 7 _ ⟨A.setIfInBounds 195 (.pointer (some ⟨bn, 0, none⟩)), D⟩ w.drew
  have e195 := getD_set_same A 195 (.pointer (some ⟨bn, 0, none⟩)) (by omega)
  refine wpAny_take (i := 2) (v := .pointer (some ⟨bn, 0, none⟩)) rfl (by kernel_rfl) (by kernel_rfl) (by kernel_rfl) (fun c a w h => hQ c a _ w h) (Or.inl ⟨by rfl, fun w => by go_simp⟩) ?_
  change wpAny _ _ _ _ 6 _ ⟨(A.setIfInBounds 195 (.pointer (some ⟨bn, 0, none⟩))).setIfInBounds 196 (.pointer (some ⟨bn, 0, none⟩)), D⟩ w.drew
  have e196 := getD_set_same (A.setIfInBounds 195 (.pointer (some ⟨bn, 0, none⟩))) 196 (.pointer (some ⟨bn, 0, none⟩)) (by simp; omega)
  refine wpAny_take (i := 3) (v := .pointer (some ⟨bn, 0, none⟩)) rfl (by kernel_rfl) (by kernel_rfl) (by kernel_rfl) (fun c a w h => hQ c a _ w h) (Or.inl ⟨by rfl, fun w => by go_simp⟩) ?_
  change wpAny _ _ _ _ 5 _ ⟨((A.setIfInBounds 195 (.pointer (some ⟨bn, 0, none⟩))).setIfInBounds 196 (.pointer (some ⟨bn, 0, none⟩))).setIfInBounds 197 (.pointer (some ⟨bn, 0, none⟩)), D⟩ w.drew
  have e197 := getD_set_same ((A.setIfInBounds 195 (.pointer (some ⟨bn, 0, none⟩))).setIfInBounds 196 (.pointer (some ⟨bn, 0, none⟩))) 197 (.pointer (some ⟨bn, 0, none⟩)) (by simp; omega)
  have g4 : (((A.setIfInBounds 195 (.pointer (some ⟨bn, 0, none⟩))).setIfInBounds 196 (.pointer (some ⟨bn, 0, none⟩))).setIfInBounds 197 (.pointer (some ⟨bn, 0, none⟩))).getD 4 undef = .pointer (some ⟨bz, 0, none⟩) := (getD_set_ne _ 197 4 _ (by decide)).trans ((getD_set_ne _ 196 4 _ (by decide)).trans ((getD_set_ne _ 195 4 _ (by decide)).trans e4))
  have g15 : (((A.setIfInBounds 195 (.pointer (some ⟨bn, 0, none⟩))).setIfInBounds 196 (.pointer (some ⟨bn, 0, none⟩))).setIfInBounds 197 (.pointer (some ⟨bn, 0, none⟩))).getD 15 undef = .pointer (some ⟨bq, 0, none⟩) := (getD_set_ne _ 197 15 _ (by decide)).trans ((getD_set_ne _ 196 15 _ (by decide)).trans ((getD_set_ne _ 195 15 _ (by decide)).trans e20))
  have gsz : 199 ≤ (((A.setIfInBounds 195 (.pointer (some ⟨bn, 0, none⟩))).setIfInBounds 196 (.pointer (some ⟨bn, 0, none⟩))).setIfInBounds 197 (.pointer (some ⟨bn, 0, none⟩))).size := by simp; omega
  clear hA e20 e14 e4 h e195 e196
  generalize hBB : ((A.setIfInBounds 195 (.pointer (some ⟨bn, 0, none⟩))).setIfInBounds 196 (.pointer (some ⟨bn, 0, none⟩))).setIfInBounds 197 (.pointer (some ⟨bn, 0, none⟩)) = B at *
  clear hBB
  have f4 : ((B.setIfInBounds 194 (.agg cs)).setIfInBounds 198 L).getD 4 undef = .pointer (some ⟨bz, 0, none⟩) := (getD_set_ne _ 198 4 _ (by decide)).trans ((getD_set_ne B 194 4 _ (by decide)).trans g4)
  have f194 : ((B.setIfInBounds 194 (.agg cs)).setIfInBounds 198 L).getD 194 undef = .agg cs := (getD_set_ne _ 198 194 _ (by decide)).trans (getD_set_same B 194 _ (by omega))
  refine wpAny_ready (rs := [0, 4]) (by kernel_rfl) (by simp) ?_
  refine AllReady.cons rfl (fun K hK => ?_) (AllReady.cons rfl (fun K hK => ?_) AllReady.nil)
  · rw [if_pos (by simp [Region.wanted])]
    refine wp_load_row 26 _ rfl bq g15 26 cs (0, 0) _ hq Try.underlying26 rfl hi (hK _ _ ?_)
    change wpAny _ _ _ _ 4 _ ⟨B.setIfInBounds 194 (.agg cs), D⟩ w.drew
    refine wpAny_ready (rs := [4, 5]) (by kernel_rfl) (by simp) ?_
    clear hK K
    have e14' : (B.setIfInBounds 194 (.agg cs)).getD 197 undef = .pointer (some ⟨bn, 0, none⟩) := (getD_set_ne B 194 197 _ (by decide)).trans e197
    refine AllReady.cons rfl (fun K hK => ?_) (AllReady.cons rfl (fun K hK => ?_) AllReady.nil)
    · rw [if_pos (by simp [Region.wanted])]
      go_simp
      refine hK _ _ ?_
      change wpAny _ _ _ _ 3 _ ⟨(B.setIfInBounds 194 (.agg cs)).setIfInBounds 198 L, D⟩ w.drew
      refine wpAny_ready (rs := [5]) (by kernel_rfl) (by simp) ?_
      clear hK K
      refine AllReady.cons rfl (fun K hK => ?_) AllReady.nil
      rw [if_pos (by simp [Region.wanted])]
      refine wp_store_row 26 _ _ rfl bz cs f4 f194 26 os hz hi (by rw [o10, c10]) h1 (hK _ _ ?_)
      change wpAny _ _ _ _ 2 _ ⟨(B.setIfInBounds 194 (.agg cs)).setIfInBounds 198 L, D⟩ (w.drew.setRow bz cs)
      refine wpAny_ready (rs := [6]) (by kernel_rfl) (by simp) ?_
      clear hK K
      refine AllReady.cons rfl (fun K hK => ?_) AllReady.nil
      rw [if_pos (by simp [Region.wanted])]
      refine BigFrame.wp_assign _ rfl (hK _ _ ?_)
      have e198 : (⟨(B.setIfInBounds 194 (.agg cs)).setIfInBounds 198 L, D⟩ : Act).eval (.tmp 198) = L := getD_set_same _ 198 L (by simp; omega)
      rw [e198]
      change wpAny _ _ _ _ 1 _ ⟨((B.setIfInBounds 194 (.agg cs)).setIfInBounds 198 L).setIfInBounds 5 L, D⟩ (w.drew.setRow bz cs)
      refine wpAny_ready (rs := [7]) (by kernel_rfl) (by simp) ?_
      clear hK K
      refine AllReady.cons rfl (fun K hK => ?_) AllReady.nil
      rw [if_pos (by simp [Region.wanted])]
      refine BigFrame.wp_assign _ rfl (hK _ _ ?_)
      exact wpAny_done (by kernel_rfl) fin 0

    · rw [if_pos (by simp [Region.wanted])]
      refine wp_store_row 26 _ _ rfl bz cs ((getD_set_ne B 194 4 _ (by decide)).trans g4) (getD_set_same B 194 _ (by omega)) 26 os hz hi (by rw [o10, c10]) h1 (hK _ _ ?_)
      change wpAny _ _ _ _ 3 _ ⟨B.setIfInBounds 194 (.agg cs), D⟩ (w.drew.setRow bz cs)
      refine wpAny_ready (rs := [4]) (by kernel_rfl) (by simp) ?_
      clear hK K
      refine AllReady.cons rfl (fun K hK => ?_) AllReady.nil
      rw [if_pos (by simp [Region.wanted])]
      go_simp
      refine hK _ _ ?_
      change wpAny _ _ _ _ 2 _ ⟨(B.setIfInBounds 194 (.agg cs)).setIfInBounds 198 L, D⟩ (w.drew.setRow bz cs)
      refine wpAny_ready (rs := [6]) (by kernel_rfl) (by simp) ?_
      clear hK K
      refine AllReady.cons rfl (fun K hK => ?_) AllReady.nil
      rw [if_pos (by simp [Region.wanted])]
      refine BigFrame.wp_assign _ rfl (hK _ _ ?_)
      have e198 : (⟨(B.setIfInBounds 194 (.agg cs)).setIfInBounds 198 L, D⟩ : Act).eval (.tmp 198) = L := getD_set_same _ 198 L (by simp; omega)
      rw [e198]
      change wpAny _ _ _ _ 1 _ ⟨((B.setIfInBounds 194 (.agg cs)).setIfInBounds 198 L).setIfInBounds 5 L, D⟩ (w.drew.setRow bz cs)
      refine wpAny_ready (rs := [7]) (by kernel_rfl) (by simp) ?_
      clear hK K
      refine AllReady.cons rfl (fun K hK => ?_) AllReady.nil
      rw [if_pos (by simp [Region.wanted])]
      refine BigFrame.wp_assign _ rfl (hK _ _ ?_)
      exact wpAny_done (by kernel_rfl) fin 0

  · rw [if_pos (by simp [Region.wanted])]
    go_simp
    refine hK _ _ ?_
    change wpAny _ _ _ _ 4 _ ⟨B.setIfInBounds 198 L, D⟩ w.drew
    refine wpAny_ready (rs := [0]) (by kernel_rfl) (by simp) ?_
    clear hK K
    refine AllReady.cons rfl (fun K hK => ?_) AllReady.nil
    rw [if_pos (by simp [Region.wanted])]
    refine wp_load_row 26 _ rfl bq ((getD_set_ne B 198 15 _ (by decide)).trans g15) 26 cs (0, 0) _ hq Try.underlying26 rfl hi (hK _ _ ?_)
    change wpAny _ _ _ _ 3 _ ⟨(B.setIfInBounds 198 L).setIfInBounds 194 (.agg cs), D⟩ w.drew
    rw [Array.setIfInBounds_comm L (.agg cs) (by decide)]
    refine wpAny_ready (rs := [5]) (by kernel_rfl) (by simp) ?_
    clear hK K
    refine AllReady.cons rfl (fun K hK => ?_) AllReady.nil
    rw [if_pos (by simp [Region.wanted])]
    refine wp_store_row 26 _ _ rfl bz cs f4 f194 26 os hz hi (by rw [o10, c10]) h1 (hK _ _ ?_)
    change wpAny _ _ _ _ 2 _ ⟨(B.setIfInBounds 194 (.agg cs)).setIfInBounds 198 L, D⟩ (w.drew.setRow bz cs)
    refine wpAny_ready (rs := [6]) (by kernel_rfl) (by simp) ?_
    clear hK K
    refine AllReady.cons rfl (fun K hK => ?_) AllReady.nil
    rw [if_pos (by simp [Region.wanted])]
    refine BigFrame.wp_assign _ rfl (hK _ _ ?_)
    have e198 : (⟨(B.setIfInBounds 194 (.agg cs)).setIfInBounds 198 L, D⟩ : Act).eval (.tmp 198) = L := getD_set_same _ 198 L (by simp; omega)
    rw [e198]
    change wpAny _ _ _ _ 1 _ ⟨((B.setIfInBounds 194 (.agg cs)).setIfInBounds 198 L).setIfInBounds 5 L, D⟩ (w.drew.setRow bz cs)
    refine wpAny_ready (rs := [7]) (by kernel_rfl) (by simp) ?_
    clear hK K
    refine AllReady.cons rfl (fun K hK => ?_) AllReady.nil
    rw [if_pos (by simp [Region.wanted])]
    refine BigFrame.wp_assign _ rfl (hK _ _ ?_)
    exact wpAny_done (by kernel_rfl) fin 0
end Go.Proofs.Ytioacgjggogflab
