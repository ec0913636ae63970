/- Part of the proof of SyntaxLooseCardSaid (AA F G ZQ). -/
import Derived.WalkKit
import Derived.ProofKit
import Derived.Lib.Hide
import Derived.BigQuiet
import Derived.Handy
import Derived.Deep.Slices
import Derived.Deep.Fields
import Derived.Lib.SmallJoins
import Derived.Deep.Quiet
import Derived.Deep.AppendLies
import Derived.Deep.RegionWith
import Derived.Laws.AppendOwnNone
import Derived.OwnWalk
import Derived.WalkSpells
import Derived.Great.BuildSlice
import Derived.Laws.Rows
import Derived.Laws.EntriesVeiled
import Derived.Deep.RegionHeld2
import Derived.Test.YthkebhjaaikopaaGreatDoorM00
import Derived.Test.YthkebhjaaikopaaGreatDoorRows
import Derived.Recover
import Derived.Defers
set_option maxHeartbeats 8000000
namespace Go.Proofs.YthkebhjaaikopaaGreatDoor
open Go.ChangeShapes Go.WideShapes Go.ChangeAt Go.RowKit Go.Deep Go.Joins Go.Instr
theorem br {n : Nat} {w : World} : Below n w w := Below.refl n w
theorem qd {p : Prop} (h : p) : Hid p := h
theorem pu : (∀ (a : Act) (d : Option Tmp) (v : Value), a.put d v = match d with
   | some d => { a with tmps := a.tmps.setIfInBounds d v }
   | none => a) ∧ (∀ (l : List Value) (i : Nat) (v : Value), l.toArray.setIfInBounds i v = (l.set i v).toArray) ∧ (∀ (x : Value) (l : List Value) (v : Value), (x :: l).set 0 v = v :: l) ∧ (∀ (x : Value) (l : List Value) (i : Nat) (v : Value), (x :: l).set (i + 1) v = x :: l.set i v) ∧ (∀ (x : Bool) (l : List Bool) (i : Nat) (v : Bool), (x :: l).set (i + 1) v = x :: l.set i v) ∧ (∀ (x : Bool) (l : List Bool) (v : Bool), (x :: l).set 0 v = v :: l) ∧ (∀ (l : List Bool) (i : Nat) (v : Bool), l.toArray.setIfInBounds i v = (l.set i v).toArray) :=
 ⟨fun _ _ _ => rfl, fun _ _ _ => by simp, fun _ _ _ => rfl, fun _ _ _ _ => rfl, fun _ _ _ _ => rfl, fun _ _ _ => rfl, fun _ _ _ => by simp⟩
section
variable {P : Program} {ops : Array Oper} {Q : Exit → Act → World → Prop} {md : Region.Mode} {S : World → Prop} {z : Nat}
def bd (P : Program) (md : Region.Mode) (ops : Array Oper) (Q : Exit → Act → World → Prop) (S : World → Prop) (z : Nat) : Nat → Array Bool → Act → World → Prop
 | 0, listed, a, w => Region.ready md ops listed = [] ∧ Q .normal a w
 | fuel + 1, listed, a, w =>
   (Region.ready md ops listed = [] → Q .normal a w) ∧
   ∀ i ∈ Region.ready md ops listed, wpOp P ops Q i (fun a' w' => (i ≠ z → S w') ∧ bd P md ops Q S z fuel (listed.setIfInBounds i true) a' w') a w
theorem eL : ∀ (fuel : Nat) (listed : Array Bool) (a : Act) (w : World), bd P md ops Q S z fuel listed a w → wpAny P md ops Q fuel listed a w
 | 0, _, _, _, h => h
 | fuel + 1, _, _, _, h => ⟨h.1, fun i hi => wpOp_mono (fun a' w' h' => eL fuel _ a' w' h'.2) (h.2 i hi)⟩
theorem j8 {i : Nat} {oi : Oper} {v : Value} (hi : ops[i]? = some oi) (hsel : ∀ (j : Nat) (o : Oper) cs b, ops[j]? = some o → o.op ≠ .select cs b)
 (hQ : ∀ c a w, Q (.panic c) (a.put oi.dst v) w → Q (.panic c) a w) (hz : ∀ oz, ops[z]? = some oz → ∃ e ∈ oz.after, Region.binds md e = true ∧ e.on = i) (hiz : i ≠ z) :
 ∀ (fuel : Nat) (listed : Array Bool) (a : Act) (w : World),
   (∀ j oj, ops[j]? = some oj → j ≠ i → listed.getD j true = false → (∀ e ∈ oj.after, Region.binds md e = true → e.on ≠ i) → oi.apart ops oj = true) →
   i ∈ Region.ready md ops listed → YieldsIf P ops S oi v a → S w →
   bd P md ops Q S z fuel (listed.setIfInBounds i true) (a.put oi.dst v) w → bd P md ops Q S z (fuel + 1) listed a w := by
 intro fuel
 induction fuel with
 | zero =>
   intro listed a w _ hr hy hS H; refine ⟨fun h => (by rw [h] at hr; cases hr), fun j hj => ?_⟩
   by_cases hji : j = i
   · subst hji; exact hy.wpOp hi hS ⟨fun _ => hS, H⟩
   · have := ready_mono hj hji; rw [H.1] at this; cases this
 | succ fuel ih =>
   intro listed a w hfree hr hy hS H; refine ⟨fun h => (by rw [h] at hr; cases hr), fun j hj => ?_⟩
   by_cases hji : j = i
   · subst hji; exact hy.wpOp hi hS ⟨fun _ => hS, H⟩
   · have h1 := H.2 j (ready_mono hj hji); obtain ⟨hjun, oj, hoj, hall⟩ := mem_ready.1 hj; have hnot : ∀ e ∈ oj.after, Region.binds md e = true → e.on ≠ i := fun e he hb heq => by
      have h1 := hall e he hb; have h0 := (mem_ready.1 hr).1; rw [heq] at h1; rcases Nat.lt_or_ge i listed.size with h' | h'
      · simp [h'] at h0 h1; rw [h0] at h1; cases h1
      · simp [Array.getElem?_eq_none h'] at h1
     have hjz : j ≠ z := fun e => by
      obtain ⟨e1, h2, h3, h4⟩ := hz oj (by rw [← e]; exact hoj); exact hnot e1 h2 h3 h4
     have h2 := wpOp_putIf hoj (hfree j oj hoj hji hjun hnot) (fun cs b => hsel i oi cs b hi) (fun cs b => hsel j oj cs b hoj) hQ hy h1; have hfree' : ∀ k ok, ops[k]? = some ok → k ≠ i → (listed.setIfInBounds j true).getD k true = false →
      (∀ e ∈ ok.after, Region.binds md e = true → e.on ≠ i) → oi.apart ops ok = true := fun k ok hk hki hun hno => by
      refine hfree k ok hk hki ?_ hno
      by_cases hjk : j = k
      · subst hjk; exact hjun
      · rw [getD_set_ne true hjk] at hun; exact hun
     refine wpOp_mono (fun a' w' h3 => ⟨fun _ => h3.2.1 hjz, ih (listed.setIfInBounds j true) a' w' hfree' (ready_mono hr (Ne.symm hji)) h3.1 (h3.2.1 hjz) ?_⟩) h2; rw [Array.setIfInBounds_comm _ _ hji]; exact h3.2.2
def fG (md : Region.Mode) (ops : Array Oper) (z i : Nat) : Bool :=
 match ops[z]? with
 | none => true
 | some oz => oz.after.any fun e => Region.binds md e && e.on == i
theorem mG {i : Nat} (h : fG md ops z i = true) : ∀ oz, ops[z]? = some oz → ∃ e ∈ oz.after, Region.binds md e = true ∧ e.on = i := fun oz ho => by
 unfold fG at h; rw [ho] at h; simp only [Array.any_eq_true, Bool.and_eq_true, beq_iff_eq] at h; obtain ⟨k, hk, h1, h2⟩ := h; exact ⟨_, Array.getElem_mem hk, h1, h2⟩
theorem bm {i : Nat} {oi : Oper} {v : Value} {fuel : Nat} {listed : Array Bool} {a : Act} {w : World} (hi : ops[i]? = some oi)
 (hs : Region.noSelect ops = true) (hf : Region.free md ops listed i = true) (hr : (Region.ready md ops listed).contains i = true) (hz : fG md ops z i = true) (hiz : (i == z) = false)
 (hQ : ∀ c a w, Q (.panic c) (a.put oi.dst v) w → Q (.panic c) a w) (hy : YieldsIf P ops S oi v a) (hS : S w)
 (h : bd P md ops Q S z fuel (listed.setIfInBounds i true) (a.put oi.dst v) w) : bd P md ops Q S z (fuel + 1) listed a w :=
 j8 hi (Region.noSelect_spec hs) hQ (mG hz) (by simpa using hiz) fuel listed a w (Region.free_spec hi hf) (by simpa using hr) hy hS h
theorem dI {i : Nat} {o : Oper} {fuel : Nat} {listed : Array Bool} {a : Act} {w : World} (hr : Region.ready md ops listed = [i]) (hiz : (i == z) = false) (ho : ops[i]? = some o)
 (h : ∀ K' : Act → World → Prop, Shut (∀ a w, S w → (S w → bd P md ops Q S z fuel (listed.setIfInBounds i true) a w) → K' a w) → if Region.wanted o (yielded ops a.tmps) = true then Oper.wp P o a w K' Q else K' (a.put o.dst undef) w) : bd P md ops Q S z (fuel + 1) listed a w :=
 ⟨fun h0 => by (rw [hr] at h0; cases h0), fun j hj => by
  rw [hr] at hj; obtain rfl : j = i := by simpa using hj
  exact wpOp_step ho (fun K' hK => h K' (fun a w hS hW => hK a w ⟨fun _ => hS, hW hS⟩))⟩
theorem p5 {o : Oper} {fuel : Nat} {listed : Array Bool} {a : Act} {w : World} (hr : Region.ready md ops listed = [z]) (ho : ops[z]? = some o)
 (h : ∀ K' : Act → World → Prop, Shut (∀ a w, bd P md ops Q S z fuel (listed.setIfInBounds z true) a w → K' a w) → if Region.wanted o (yielded ops a.tmps) = true then Oper.wp P o a w K' Q else K' (a.put o.dst undef) w) : bd P md ops Q S z (fuel + 1) listed a w :=
 ⟨fun h0 => by (rw [hr] at h0; cases h0), fun j hj => by
  rw [hr] at hj; obtain rfl : j = z := by simpa using hj
  exact wpOp_step ho (fun K' hK => h K' (fun a w hW => hK a w ⟨fun h => absurd rfl h, hW⟩))⟩
theorem lk {listed : Array Bool} {a : Act} {w : World} (hr : Region.ready md ops listed = []) (h : Q .normal a w) :
 ∀ fuel, bd P md ops Q S z fuel listed a w
 | 0 => ⟨hr, h⟩
 | _ + 1 => ⟨fun _ => h, by rw [hr]; simp⟩
theorem aj {id : Nat} {a : Act} {w : World} (hm : P.follows .mixedOrders = true) (hS : S w.drew)
 (h : S w.drew → bd P .any ops Q S z ops.size (Array.replicate ops.size false) a w.drew) : (Code.region id ops true).wp P Q a w :=
 wp_region_any hm (eL _ _ _ _ (h hS))
def dr (md : Region.Mode) (ops : Array Oper) (y i : Nat) : Bool :=
 match ops[y]? with
 | none => false
 | some oy => oy.after.any fun e => Region.binds md e && e.on == i
def gB (md : Region.Mode) (ops : Array Oper) (listed : Array Bool) : Prop := ∀ j oj, ops[j]? = some oj → listed.getD j false = true → ∀ e ∈ oj.after, Region.binds md e = true → listed.getD e.on false = true
def kU (md : Region.Mode) (ops : Array Oper) (listed : Array Bool) : Bool :=
 (List.range ops.size).all fun j => match ops[j]? with
  | none => true
  | some oj => !listed.getD j false || oj.after.all fun e => !Region.binds md e || listed.getD e.on false
theorem pR {listed : Array Bool} (h : kU md ops listed = true) : gB md ops listed := fun j oj hj hl e he hb => by
 unfold kU at h; have hlt : j < ops.size := by
  rcases Nat.lt_or_ge j ops.size with h1 | h1
  · exact h1
  · rw [Array.getElem?_eq_none h1] at hj; cases hj
 have h2 := List.all_eq_true.1 h j (List.mem_range.2 hlt); rw [hj] at h2; simp only [hl, Bool.not_true, Bool.false_or, Array.all_eq_true] at h2; obtain ⟨k, hk, rfl⟩ := Array.mem_iff_getElem.1 he; have h3 := h2 k hk; rw [hb] at h3; simpa using h3
def fz (md : Region.Mode) (ops : Array Oper) : List Nat → Nat → Bool
 | [], _ => false
 | [y], i => dr md ops y i
 | y :: y2 :: l, i => dr md ops y y2 && fz md ops (y2 :: l) i
theorem dq {y i : Nat} {oy : Oper} (h : dr md ops y i = true) (ho : ops[y]? = some oy) : ∃ e ∈ oy.after, Region.binds md e = true ∧ e.on = i := by
 unfold dr at h; rw [ho] at h; simp only [Array.any_eq_true, Bool.and_eq_true, beq_iff_eq] at h; obtain ⟨k, hk, h1, h2⟩ := h; exact ⟨_, Array.getElem_mem hk, h1, h2⟩
theorem f9 {listed : Array Bool} (hc : gB md ops listed) {i : Nat} : ∀ (l : List Nat) (y : Nat), fz md ops (y :: l) i = true → listed.getD y false = true → listed.getD i false = true
 | [], y, h, hy => by
   have h : dr md ops y i = true := h; cases ho : ops[y]? with
   | none => unfold dr at h; rw [ho] at h; cases h
   | some oy =>
     obtain ⟨e, h1, h2, rfl⟩ := dq h ho; exact hc y oy ho hy e h1 h2
 | y2 :: l, y, h, hy => by
   have h : (dr md ops y y2 && fz md ops (y2 :: l) i) = true := h; rw [Bool.and_eq_true] at h; cases ho : ops[y]? with
   | none => have h0 := h.1; unfold dr at h0; rw [ho] at h0; cases h0
   | some oy =>
     obtain ⟨e, h1, h2, h3⟩ := dq h.1 ho; exact f9 hc l y2 h.2 (by rw [← h3]; exact hc y oy ho hy e h1 h2)
theorem mi {listed : Array Bool} (hc : gB md ops listed) {i : Nat} (l : List Nat) (h : fz md ops (z :: l) i = true) (hz : z ∈ Region.ready md ops listed) : listed.getD i false = true := by
 obtain ⟨_, oz, hoz, hall⟩ := mem_ready.1 hz; cases l with
 | nil =>
   obtain ⟨e, h1, h2, rfl⟩ := dq h hoz; exact hall e h1 h2
 | cons y l =>
   have h : (dr md ops z y && fz md ops (y :: l) i) = true := h; rw [Bool.and_eq_true] at h; obtain ⟨e, h1, h2, h3⟩ := dq h.1 hoz; exact f9 hc l y h.2 (by rw [← h3]; exact hall e h1 h2)
theorem jo {listed : Array Bool} {i j : Nat} (h : (listed.setIfInBounds i true).getD j false = true) (hne : i ≠ j) : listed.getD j false = true := by
 rwa [getD_set_ne false hne] at h
theorem nW {listed : Array Bool} {j : Nat} (hc : gB md ops listed) (hj : j ∈ Region.ready md ops listed) : gB md ops (listed.setIfInBounds j true) := fun k ok hk hl e he hb => by
 refine getD_set_true ?_
 by_cases hjk : j = k
 · subst hjk; obtain ⟨_, oj, hoj, hall⟩ := mem_ready.1 hj; rw [hoj] at hk; injection hk with hk; subst hk; exact hall e he hb
 · exact hc k ok hk (jo hl hjk) e he hb
theorem jj {i : Nat} {oi : Oper} {v : Value} (hi : ops[i]? = some oi) (hsel : ∀ (j : Nat) (o : Oper) cs b, ops[j]? = some o → o.op ≠ .select cs b)
 (hQ : ∀ c a w, Q (.panic c) (a.put oi.dst v) w → Q (.panic c) a w) (l : List Nat) (hz : fz md ops (z :: l) i = true) :
 ∀ (fuel : Nat) (listed : Array Bool) (a : Act) (w : World),
   (∀ j oj, ops[j]? = some oj → j ≠ i → listed.getD j true = false → (∀ e ∈ oj.after, Region.binds md e = true → e.on ≠ i) → oi.apart ops oj = true) →
   i ∈ Region.ready md ops listed → gB md ops listed → YieldsIf P ops S oi v a → S w →
   bd P md ops Q S z fuel (listed.setIfInBounds i true) (a.put oi.dst v) w → bd P md ops Q S z (fuel + 1) listed a w := by
 intro fuel
 induction fuel with
 | zero =>
   intro listed a w _ hr _ hy hS H; refine ⟨fun h => (by rw [h] at hr; cases hr), fun j hj => ?_⟩
   by_cases hji : j = i
   · subst hji; exact hy.wpOp hi hS ⟨fun _ => hS, H⟩
   · have := ready_mono hj hji; rw [H.1] at this; cases this
 | succ fuel ih =>
   intro listed a w hfree hr hcl hy hS H; refine ⟨fun h => (by rw [h] at hr; cases hr), fun j hj => ?_⟩
   by_cases hji : j = i
   · subst hji; exact hy.wpOp hi hS ⟨fun _ => hS, H⟩
   · have h1 := H.2 j (ready_mono hj hji); obtain ⟨hjun, oj, hoj, hall⟩ := mem_ready.1 hj; have hun : listed.getD i false = true → False := fun h1 => by
      have h0 := (mem_ready.1 hr).1; rcases Nat.lt_or_ge i listed.size with h' | h'
      · simp [h'] at h0 h1; rw [h0] at h1; cases h1
      · simp [Array.getElem?_eq_none h'] at h1
     have hnot : ∀ e ∈ oj.after, Region.binds md e = true → e.on ≠ i := fun e he hb heq => hun (by rw [← heq]; exact hall e he hb)
     have hjz : j ≠ z := fun e => by
      subst e; exact hun (mi hcl l hz hj)
     have h2 := wpOp_putIf hoj (hfree j oj hoj hji hjun hnot) (fun cs b => hsel i oi cs b hi) (fun cs b => hsel j oj cs b hoj) hQ hy h1; have hfree' : ∀ k ok, ops[k]? = some ok → k ≠ i → (listed.setIfInBounds j true).getD k true = false →
      (∀ e ∈ ok.after, Region.binds md e = true → e.on ≠ i) → oi.apart ops ok = true := fun k ok hk hki hun hno => by
      refine hfree k ok hk hki ?_ hno
      by_cases hjk : j = k
      · subst hjk; exact hjun
      · rw [getD_set_ne true hjk] at hun; exact hun
     refine wpOp_mono (fun a' w' h3 => ⟨fun _ => h3.2.1 hjz, ih (listed.setIfInBounds j true) a' w' hfree' (ready_mono hr (Ne.symm hji)) (nW hcl hj) h3.1 (h3.2.1 hjz) ?_⟩) h2; rw [Array.setIfInBounds_comm _ _ hji]; exact h3.2.2
theorem j7 {i : Nat} {oi : Oper} {v : Value} {fuel : Nat} {listed : Array Bool} {a : Act} {w : World} (l : List Nat) (hi : ops[i]? = some oi)
 (hs : Region.noSelect ops = true) (hf : Region.free md ops listed i = true) (hr : (Region.ready md ops listed).contains i = true) (hz : fz md ops (z :: l) i = true) (hc : kU md ops listed = true)
 (hQ : ∀ c a w, Q (.panic c) (a.put oi.dst v) w → Q (.panic c) a w) (hy : YieldsIf P ops S oi v a) (hS : S w)
 (h : bd P md ops Q S z fuel (listed.setIfInBounds i true) (a.put oi.dst v) w) : bd P md ops Q S z (fuel + 1) listed a w :=
 jj hi (Region.noSelect_spec hs) hQ l hz fuel listed a w (Region.free_spec hi hf) (by simpa using hr) (pR hc) hy hS h
def jA (md : Region.Mode) (ops : Array Oper) (listed : Array Bool) (tmps : Array Value) (z i : Nat) (oi : Oper) (b : Bool) : Bool :=
 Region.noSelect ops && Region.free md ops listed i && (Region.ready md ops listed).contains i && fG md ops z i && !(i == z) && (Region.wanted oi (yielded ops tmps) == b)
theorem ip {listed : Array Bool} {tmps : Array Value} {i : Nat} {oi : Oper} {b : Bool} (h : jA md ops listed tmps z i oi b = true) : Region.noSelect ops = true ∧ Region.free md ops listed i = true ∧ (Region.ready md ops listed).contains i = true ∧ fG md ops z i = true ∧ (i == z) = false ∧ Region.wanted oi (yielded ops tmps) = b := by
 unfold jA at h; simp only [Bool.and_eq_true, Bool.not_eq_true', beq_iff_eq] at h; obtain ⟨⟨⟨⟨⟨h1, h2⟩, h3⟩, h4⟩, h5⟩, h6⟩ := h; exact ⟨h1, h2, h3, h4, h5, h6⟩
theorem wt (i : Nat) (v : Value) {oi : Oper} {fuel : Nat} {listed : Array Bool} {a : Act} {w : World}
  (h : bd P md ops Q S z fuel (listed.setIfInBounds i true) (a.put oi.dst v) w)
  (hi : ops[i]? = some oi := by rfl) (hb : jA md ops listed a.tmps z i oi true = true := by kernel_rfl)
  (hQ : ∀ c a w, Q (.panic c) (a.put oi.dst v) w → Q (.panic c) a w := by exact fun _ _ _ h => h)
  (hy : ∀ w, S w → (execOp a.eval oi).run P w = .ok (.value v) w := by (intro w hSw; (try dsimp only at hSw); go_simp)) (hS : S w := by assumption) : bd P md ops Q S z (fuel + 1) listed a w :=
 have ⟨h1, h2, h3, h4, h5, h6⟩ := ip hb
 bm hi h1 h2 h3 h4 h5 hQ (.inl ⟨h6, hy⟩) hS h
theorem wu (i : Nat) {oi : Oper} {fuel : Nat} {listed : Array Bool} {a : Act} {w : World}
  (h : bd P md ops Q S z fuel (listed.setIfInBounds i true) (a.put oi.dst undef) w)
  (hi : ops[i]? = some oi := by rfl) (hb : jA md ops listed a.tmps z i oi false = true := by kernel_rfl)
  (hQ : ∀ c a w, Q (.panic c) (a.put oi.dst undef) w → Q (.panic c) a w := by exact fun _ _ _ h => h)
  (hS : S w := by assumption) : bd P md ops Q S z (fuel + 1) listed a w :=
 have ⟨h1, h2, h3, h4, h5, h6⟩ := ip hb
 bm hi h1 h2 h3 h4 h5 hQ (.inr ⟨h6, rfl⟩) hS h
theorem wx (i d : Nat) (v : Value) {oi : Oper} {fuel : Nat} {listed : Array Bool} {a : Act} {w : World}
  (h : bd P md ops Q S z fuel (listed.setIfInBounds i true) (a.put (some d) v) w)
  (hi : ops[i]? = some oi := by rfl) (hd : oi.dst = some d := by rfl) (hb : jA md ops listed a.tmps z i oi true = true := by kernel_rfl)
  (hQ : ∀ c a w, Q (.panic c) (a.put (some d) v) w → Q (.panic c) a w := by exact fun _ _ _ h => h)
  (hy : ∀ w, S w → (execOp a.eval oi).run P w = .ok (.value v) w := by (intro w hSw; (try dsimp only at hSw); go_simp)) (hS : S w := by assumption) : bd P md ops Q S z (fuel + 1) listed a w :=
 wt i v (by rw [hd]; exact h) hi hb (by rw [hd]; exact hQ) hy hS
theorem wy (i d : Nat) {oi : Oper} {fuel : Nat} {listed : Array Bool} {a : Act} {w : World}
  (h : bd P md ops Q S z fuel (listed.setIfInBounds i true) (a.put (some d) undef) w)
  (hi : ops[i]? = some oi := by rfl) (hd : oi.dst = some d := by rfl) (hb : jA md ops listed a.tmps z i oi false = true := by kernel_rfl)
  (hQ : ∀ c a w, Q (.panic c) (a.put (some d) undef) w → Q (.panic c) a w := by exact fun _ _ _ h => h)
  (hS : S w := by assumption) : bd P md ops Q S z (fuel + 1) listed a w :=
 wu i (by rw [hd]; exact h) hi hb (by rw [hd]; exact hQ) hS
theorem aO (i : Nat) {o : Oper} {fuel : Nat} {listed : Array Bool} {a : Act} {w : World}
  (h : ∀ K' : Act → World → Prop, Shut (∀ a w, S w → (S w → bd P md ops Q S z fuel (listed.setIfInBounds i true) a w) → K' a w) → Oper.wp P o a w K' Q)
  (hr : Region.ready md ops listed = [i] := by kernel_rfl) (hiz : (i == z) = false := by kernel_rfl) (ho : ops[i]? = some o := by rfl) (hw : Region.wanted o (yielded ops a.tmps) = true := by kernel_rfl) : bd P md ops Q S z (fuel + 1) listed a w :=
 dI hr hiz ho fun K hK => by rw [if_pos hw]; exact h K hK
theorem dm (i : Nat) {o : Oper} {fuel : Nat} {listed : Array Bool} {a : Act} {w : World}
  (h : ∀ K' : Act → World → Prop, Shut (∀ a w, S w → (S w → bd P md ops Q S z fuel (listed.setIfInBounds i true) a w) → K' a w) → if Region.wanted o (yielded ops a.tmps) = true then Oper.wp P o a w K' Q else K' (a.put o.dst undef) w)
  (hr : Region.ready md ops listed = [i] := by kernel_rfl) (hiz : (i == z) = false := by kernel_rfl) (ho : ops[i]? = some o := by rfl) : bd P md ops Q S z (fuel + 1) listed a w :=
 dI hr hiz ho h
theorem cL {o : Oper} {fuel : Nat} {listed : Array Bool} {a : Act} {w : World}
  (h : ∀ K' : Act → World → Prop, Shut (∀ a w, bd P md ops Q S z fuel (listed.setIfInBounds z true) a w → K' a w) → Oper.wp P o a w K' Q)
  (hr : Region.ready md ops listed = [z] := by kernel_rfl) (ho : ops[z]? = some o := by rfl) (hw : Region.wanted o (yielded ops a.tmps) = true := by kernel_rfl) : bd P md ops Q S z (fuel + 1) listed a w :=
 p5 hr ho fun K hK => by rw [if_pos hw]; exact h K hK
theorem aK {listed : Array Bool} {a : Act} {w : World} {fuel : Nat} (h : Q .normal a w) (hr : Region.ready md ops listed = [] := by kernel_rfl) : bd P md ops Q S z fuel listed a w := lk hr h fuel
end
theorem cD {a b : Bool} (h : a = b) : Ending.returned (.bool a) = Ending.returned (.bool b) := by rw [h]
theorem mY {k : IntKind} {a b : Int} (h : a = b) : Ending.returned (.int k a) = Ending.returned (.int k b) := by rw [h]
theorem je {W w1 : World} (hb : Below W.heap.size W w1) : ∀ b o, b < W.heap.size → w1.cell? ⟨b, o, none⟩ = W.cell? ⟨b, o, none⟩ := fun b o h => hb.cell (p := ⟨b, o, none⟩) h
def Sl {α : Type} [Inhabited α] (w : World) (sz : Nat) (enc : α → Nat → Value) (v : Value) (l : List α) : Prop :=
 ∃ a cap, v = .slice a l.length cap ∧ l.length ≤ cap ∧ cap ≤ maxLen ∧ (0 < l.length → ∃ b off, a = some ⟨b, off, none⟩ ∧ b < w.heap.size ∧
   ∀ i, i < l.length → ∀ j, j < sz → w.cell? ⟨b, off + i * sz + j, none⟩ = some (enc (l.getD i default) j))
theorem Sl.keep {α : Type} [Inhabited α] {w w' : World} {sz : Nat} {enc : α → Nat → Value} {v : Value} {l : List α} (hb : Below w.heap.size w w') (h : Sl w sz enc v l) : Sl w' sz enc v l := by
 obtain ⟨a, cap, h1, h2, h3, h4⟩ := h; exact ⟨a, cap, h1, h2, h3, fun hp => by
  obtain ⟨b, off, e1, e2, e3⟩ := h4 hp; exact ⟨b, off, e1, Nat.lt_of_lt_of_le e2 hb.size, fun i hi j hj => (hb.cell e2).trans (e3 i hi j hj)⟩⟩
def dC (n : Int) : Prop := -9223372036854775808 ≤ n ∧ n ≤ 9223372036854775807
def bC (n : Int) : Nat → Value := fun _ => .int .i64 n
def Sn (v : Value) : Prop := ∀ n cap, v = .slice none n cap → cap = 0
theorem aV {α : Type} [Inhabited α] {w : World} {sz : Nat} {enc : α → Nat → Value} {v : Value} {l : List α} (h : Sl w sz enc v l) : ∃ a cap, v = .slice a l.length cap ∧ l.length ≤ 9223372036854775807 ∧ Hid (0 < l.length → ∃ b off, a = some ⟨b, off, none⟩ ∧ b < w.heap.size ∧
 ∀ i, i < l.length → ∀ j, j < sz → w.cell? ⟨b, off + i * sz + j, none⟩ = some (enc (l.getD i default) j)) := by
 obtain ⟨a, cap, h1, h2, h3, h4⟩ := h; exact ⟨a, cap, h1, Nat.le_trans (Nat.le_trans h2 h3) (by decide), h4⟩
theorem af {w : World} {k : Nat} {o : Obj} (h : w.heap[k]? = some o) : k < w.heap.size := (Array.getElem?_eq_some_iff.1 h).1
structure am (S : Nat → Prop) (w w' : World) : Prop where
 os : w'.os = w.os
 tape : w'.tape = w.tape
 output : w'.output = w.output
 size : w.heap.size ≤ w'.heap.size
 block : ∀ k, k < w.heap.size → ¬ S k → w'.heap[k]? = w.heap[k]?
theorem am.of_below {S : Nat → Prop} {w w' : World} (h : Below w.heap.size w w') : am S w w' := ⟨h.os, h.tape, h.output, h.size, fun k hk _ => h.block k hk⟩
theorem am.refl (S : Nat → Prop) (w : World) : am S w w := am.of_below br
theorem am.drew {S : Nat → Prop} {w w' : World} (h : am S w w') : am S w w'.drew := ⟨h.os, h.tape, h.output, h.size, h.block⟩
theorem am.alloc {S : Nat → Prop} {w w' : World} (h : am S w w') (o : Obj) : am S w (w'.alloc o) :=
 ⟨h.os, h.tape, h.output, by have := h.size; simp; omega, fun k hk h1 => (Below.heap_alloc _ _ _ (by have := h.size; omega)).trans (h.block k hk h1)⟩
theorem am.grown {S : Nat → Prop} {w w' w'' : World} {row : Option Nat} (h : am S w w') (hg : w'.grownBy w'' row) (hr : ∀ k, row = some k → S k ∨ w.heap.size ≤ k) : am S w w'' :=
 ⟨hg.os.trans h.os, hg.tape.trans h.tape, hg.output.trans h.output, Nat.le_trans h.size hg.size, fun k hk h1 => (hg.block k (by have := h.size; omega) (fun e => by
  rcases hr k e.symm with h3 | h3
  · exact h1 h3
  · omega)).trans (h.block k hk h1)⟩
theorem am.setCell {S : Nat → Prop} {w w' : World} (h : am S w w') {p : Addr} (hp : S p.block ∨ w.heap.size ≤ p.block) (u : Value) : am S w (w'.setCell p u) :=
 ⟨h.os, h.tape, h.output, by have := h.size; simpa [World.setCell] using this, fun k hk h1 => (Below.heap_setCell _ _ _ _ (fun e => by
  subst e; rcases hp with h3 | h3
  · exact h1 h3
  · omega)).trans (h.block k hk h1)⟩
theorem am.trans {S S' : Nat → Prop} {a b c : World} (h : am S a b) (k : am S' b c) (hr : ∀ x, S' x → S x ∨ a.heap.size ≤ x) : am S a c :=
 ⟨k.os.trans h.os, k.tape.trans h.tape, k.output.trans h.output, Nat.le_trans h.size k.size, fun i hi h1 => (k.block i (by have := h.size; omega) (fun e => by
  rcases hr i e with h3 | h3
  · exact h1 h3
  · omega)).trans (h.block i hi h1)⟩
theorem am.mono {S S' : Nat → Prop} {a b : World} (h : am S a b) (hr : ∀ x, S x → S' x ∨ a.heap.size ≤ x) : am S' a b :=
 ⟨h.os, h.tape, h.output, h.size, fun i hi h1 => h.block i hi (fun e => by
  rcases hr i e with h3 | h3
  · exact h1 h3
  · omega)⟩
theorem am.below {S : Nat → Prop} {w w' : World} {B : Nat} (h : am S w w') (hb : B ≤ w.heap.size) (h1 : ∀ k, S k → B ≤ k) : Below B w w' :=
 ⟨h.os, h.tape, h.output, h.size, fun k hk => h.block k (by omega) (fun e => by have := h1 k e; omega)⟩
theorem am.grownBy {S : Nat → Prop} {w w' : World} {row : Option Nat} (h : am S w w') (hr : ∀ k, S k → row = some k ∨ w.heap.size ≤ k) : w.grownBy w' row :=
 ⟨h.os, h.tape, h.output, h.size, fun k hk h1 => h.block k hk (fun e => by
  rcases hr k e with h3 | h3
  · exact h1 h3.symm
  · omega)⟩
theorem bS {S : Nat → Prop} {w w' : World} {base : Nat} {e : TypeId} {v : Value} {n size : Nat} {xs : List Value} (h : w.ownsRow base e size v n xs) (hb : am S w w') (hv : ∀ g, v.ownBlock = some g → ¬ S g) : w'.ownsRow base e size v n xs := by
 obtain ⟨h1, h2⟩ := h; refine ⟨h1, ?_⟩; rcases h2 with h2 | ⟨g, cap, cur, hv', hg, hh, r⟩
 · exact Or.inl h2
 · refine Or.inr ⟨g, cap, cur, hv', hg, ?_, r⟩; rw [hb.block g (af hh) (hv g (by rw [hv']; rfl))]; exact hh
theorem cw {w w' : World} {base : Nat} {e : TypeId} {v : Value} {n size : Nat} {xs : List Value} (h : w.ownsRow base e size v n xs) (hb : Below w.heap.size w w') : w'.ownsRow base e size v n xs :=
 h.kept (row := none) ⟨hb.os, hb.tape, hb.output, hb.size, fun k hk _ => hb.block k hk⟩ (by cases v.ownBlock <;> simp)
theorem iC {w : World} {base base' : Nat} {e : TypeId} {v : Value} {n size : Nat} {xs : List Value} (h : w.ownsRow base e size v n xs) (hb : base' ≤ base) : w.ownsRow base' e size v n xs := by
 obtain ⟨h1, h2⟩ := h; refine ⟨h1, ?_⟩; rcases h2 with h2 | ⟨g, cap, cur, hv, hg, r⟩
 · exact Or.inl h2
 · exact Or.inr ⟨g, cap, cur, hv, by omega, r⟩
theorem bF {w : World} {base : Nat} {e : TypeId} {v : Value} {n size : Nat} {xs : List Value} (h : w.ownsRow base e size v n xs) : ∃ a c, v = .slice a n c := by
 rcases h.2 with ⟨rfl, h0⟩ | ⟨g, cap, cur, rfl, _⟩
 · have : n = 0 := by omega
   subst this; exact ⟨_, _, rfl⟩
 · exact ⟨_, _, rfl⟩
theorem al (w : World) (o : Obj) : (w.alloc o).heap[w.heap.size]? = some o := by show (w.heap.push o)[w.heap.size]? = _; simp
def eF {α : Type} (sz : Nat) (enc : α → Nat → Value) (l : List α) : List Value := l.flatMap fun x => (List.range sz).map (enc x)
theorem cN {α : Type} (sz : Nat) (enc : α → Nat → Value) (l : List α) : (eF sz enc l).length = l.length * sz := by
 induction l with
 | nil => simp [eF]
 | cons x l ih => simp only [eF, List.flatMap_cons, List.length_append, List.length_map, List.length_range, List.length_cons] at ih ⊢; rw [ih, Nat.add_mul, Nat.one_mul, Nat.add_comm]
theorem dX {α : Type} (sz : Nat) (enc : α → Nat → Value) (a b : List α) : eF sz enc (a ++ b) = eF sz enc a ++ eF sz enc b := by simp [eF]
theorem hD {α : Type} (sz : Nat) (enc : α → Nat → Value) (x : α) : eF sz enc [x] = (List.range sz).map (enc x) := by simp [eF]
theorem ee {α : Type} [Inhabited α] (sz : Nat) (enc : α → Nat → Value) : ∀ (l : List α) (i j : Nat), i < l.length → j < sz → (eF sz enc l)[i * sz + j]? = some (enc (l.getD i default) j)
 | [], i, j, hi, _ => absurd hi (by simp)
 | x :: l, 0, j, _, hj => by
   have : ((List.range sz).map (enc x)).length = sz := by simp
   simp only [eF, List.flatMap_cons, Nat.zero_mul, Nat.zero_add]; rw [List.getElem?_append_left (by rw [this]; exact hj)]; simp [hj]
 | x :: l, i + 1, j, hi, hj => by
   have h1 : ((List.range sz).map (enc x)).length = sz := by simp
   have := ee sz enc l i j (by simpa using hi) hj; simp only [eF, List.flatMap_cons] at this ⊢; rw [List.getElem?_append_right (by rw [h1, Nat.add_mul]; omega), h1, show (i + 1) * sz + j - sz = i * sz + j by rw [Nat.add_mul]; omega, this]; rfl
def Ow {α : Type} (w : World) (base E sz : Nat) (enc : α → Nat → Value) (v : Value) (l : List α) : Prop := w.ownsRow base E sz v l.length (eF sz enc l)
theorem gp {α : Type} (w : World) (base E sz : Nat) (enc : α → Nat → Value) : Ow w base E sz enc (.slice none 0 0) [] := World.ownsRow_nil _ _ _ _
theorem ek {α : Type} [Inhabited α] {w : World} {base E sz : Nat} {enc : α → Nat → Value} {v : Value} {l : List α} (h : Ow w base E sz enc v l) : Sl w sz enc v l := by
 rcases h.2 with ⟨rfl, h0⟩ | ⟨g, cap, cur, rfl, _, hh, h1, h2, h3, h4⟩
 · have : l = [] := List.length_eq_zero_iff.1 h0; subst this; exact ⟨none, 0, rfl, Nat.le_refl _, by decide, fun h => absurd h (by simp)⟩
 · refine ⟨some ⟨g, 0, none⟩, cap, rfl, h1, h2, fun _ => ⟨g, 0, rfl, af hh, fun i hi j hj => ?_⟩⟩; rw [Nat.zero_add, cell_of_row w g _ _ _ _ hh]; have h5 := ee sz enc l i j hi hj; rw [← h4, List.getElem?_take] at h5
   split at h5
   · simpa using h5
   · simp at h5
theorem Ow.slice {α : Type} {w : World} {base E sz : Nat} {enc : α → Nat → Value} {v : Value} {l : List α} (h : Ow w base E sz enc v l) : ∃ a c, v = .slice a l.length c := bF h
structure lh (T E sz : Nat) : Prop where
 und : Tryz.prog.underlying T = some (.slice E)
 ex : ∃ i z, Tryz.prog.info? E = some i ∧ i.zero = some z ∧ i.size = sz ∧ z.cells.size = sz ∧ i.bytes ≤ 1000
 pos : 0 < sz
theorem eX {T E sz : Nat} (h1 : Tryz.prog.underlying T = some (.slice E)) (h2 : (Tryz.prog.info? E).map (fun i => (i.zero.map (fun z => z.cells.size), i.size, decide (i.bytes ≤ 1000))) = some (some sz, sz, true)) (h3 : 0 < sz) : lh T E sz := by
 refine ⟨h1, ?_, h3⟩; cases h : Tryz.prog.info? E with
 | none => rw [h] at h2; simp at h2
 | some i =>
   rw [h] at h2; simp only [Option.map_some, Option.some.injEq, Prod.mk.injEq, decide_eq_true_eq] at h2; obtain ⟨a, b, c⟩ := h2; cases hz : i.zero with
   | none => rw [hz] at a; simp at a
   | some z =>
     rw [hz] at a; simp at a; exact ⟨i, z, rfl, hz, b, a, c⟩
theorem bQ {α : Type} {T E sz : Nat} (hT : lh T E sz) {w : World} {ops : Array Oper} {rest : List Oper} {o : Oper} {a : Act} {Q : Exit → Act → World → Prop} (hgd : o.guard = none) (s x : Operand)
 (ho : o.op = .call { callee := .builtin .append, args := #[s, x], argTypes := #[T, T] })
 (base : Nat) (enc : α → Nat → Value) (v : Value) (l : List α) (hs : a.eval s = v) (hown : Ow w base E sz enc v l)
 (b0 : Nat) (y : α) (cs : Array Value) (hx : a.eval x = .slice (some ⟨b0, 0, none⟩) 1 1) (hb : w.heap[b0]? = some (.cells cs E (0, 0))) (hcs : cs.toList = (List.range sz).map (enc y)) (h1 : ∀ u ∈ cs.toList, u.oneCell' = true)
 (h63 : l.length + 1 ≤ 1000000000) (hbase : base ≤ w.heap.size)
 (h : ∀ g cap w', Ow w' base E sz enc (.slice (some ⟨g, 0, none⟩) (l.length + 1) cap) (l ++ [y]) → w.grownBy w' v.ownBlock → (v.ownBlock = some g ∨ g = w.heap.size) → wpList Tryz.prog ops Q rest (a.put o.dst (.slice (some ⟨g, 0, none⟩) (l.length + 1) cap)) w') : wpList Tryz.prog ops Q (o :: rest) a w := by
 obtain ⟨i, z, hi, hz, hs1, hz2, hby⟩ := hT.ex; refine wpList_append_lies w hgd s x T ho base E i z sz i.bytes hT.und hi hz hs1 rfl hz2 hT.pos v l.length (eF sz enc l) hs hown ⟨b0, 0, none⟩ 1 1 cs.toList hx (by rw [hcs]; simp) (World.news_of_block (cs := cs) hb) h1 (by omega) (by unfold maxLen; omega) ?_ hbase _ rfl ?_
 · have := Nat.mul_le_mul h63 hby
   omega
 · intro g cap w' h1 h2 h3 _; refine h g cap w' ?_ h2 h3; unfold Ow; rw [dX, hD, ← hcs]; simpa using h1
theorem fJ {α : Type} [Inhabited α] {w : World} {sz : Nat} (hsz : 0 < sz) {enc : α → Nat → Value} {ad : Addr} {n c : Nat} {l : List α} (h : Sl w sz enc (.slice (some ad) n c) l) : ∀ j u, (eF sz enc l)[j]? = some u → w.cell? (ad.add j) = some u := by
 intro j u hj; have hlt : j < l.length * sz := by
  have := (List.getElem?_eq_some_iff.1 hj).1; rwa [cN] at this
 obtain ⟨a, cap, e, h2, h3, h4⟩ := h; injection e with e1 e2 e3; have h0 : 0 < l.length := by
  rcases Nat.eq_zero_or_pos l.length with h | h
  · rw [h] at hlt; simp at hlt
  · exact h
 obtain ⟨b, off, e, hb, hc⟩ := h4 h0; rw [← e1] at e; injection e with e; subst e; have hi : j / sz < l.length := (Nat.div_lt_iff_lt_mul hsz).2 hlt; have hr : j % sz < sz := Nat.mod_lt _ hsz; have h5 := hc (j / sz) hi (j % sz) hr; have h6 := ee sz enc l (j / sz) (j % sz) hi hr; have e7 : j / sz * sz + j % sz = j := by rw [Nat.mul_comm]; exact Nat.div_add_mod j sz
 rw [e7] at h6; rw [Nat.add_assoc, e7] at h5; rw [h6] at hj; have ha : (⟨b, off, none⟩ : Addr).add j = ⟨b, off + j, none⟩ := by
  simp [Addr.add]
 rw [ha, h5, ← hj]
theorem oE {α : Type} {sz : Nat} {enc : α → Nat → Value} {l : List α} (h : ∀ x ∈ l, ∀ j, j < sz → (enc x j).oneCell' = true) : ∀ u ∈ eF sz enc l, u.oneCell' = true := by
 intro u hu; obtain ⟨x, hx, hu⟩ := List.mem_flatMap.1 hu; obtain ⟨j, hj, rfl⟩ := List.mem_map.1 hu; exact h x hx j (List.mem_range.1 hj)
theorem mB {α : Type} [Inhabited α] {T E sz : Nat} (hT : lh T E sz) {w : World} {ops : Array Oper} {rest : List Oper} {o : Oper} {a : Act} {Q : Exit → Act → World → Prop} (hgd : o.guard = none) (s x : Operand)
 (ho : o.op = .call { callee := .builtin .append, args := #[s, x], argTypes := #[T, T] })
 (base : Nat) (enc : α → Nat → Value) (v : Value) (l1 : List α) (hs : a.eval s = v) (hown : Ow w base E sz enc v l1)
 (v2 : Value) (l2 : List α) (hx : a.eval x = v2) (hsl : Sl w sz enc v2 l2) (hn : Sn v2) (h1 : ∀ x ∈ l2, ∀ j, j < sz → (enc x j).oneCell' = true)
 (h63 : l1.length + l2.length ≤ 1000000000) (hbase : base ≤ w.heap.size)
 (h : ∀ v' w', Ow w' base E sz enc v' (l1 ++ l2) → w.grownBy w' v.ownBlock → wpList Tryz.prog ops Q rest (a.put o.dst v') w') : wpList Tryz.prog ops Q (o :: rest) a w := by
 obtain ⟨i, z, hi, hz, hs1, hz2, hby⟩ := hT.ex; have hsl' := hsl; obtain ⟨a2, cap, rfl, hc, hm, hcell⟩ := hsl; cases a2 with
 | none =>
   have hl : l2 = [] := by
    cases l2 with
    | nil => rfl
    | cons y r =>
      obtain ⟨b, off, h2, -⟩ := hcell (by simp); simp at h2
   subst hl; obtain rfl : cap = 0 := hn _ _ rfl; refine wpList_append_own_none hgd s x T ho base E i sz hT.und hi v l1.length (eF sz enc l1) hs hown hx ?_; have h2 := h v w; simp only [List.append_nil] at h2; exact h2 hown ⟨rfl, rfl, rfl, Nat.le_refl _, fun _ _ _ => rfl⟩
 | some ad =>
   refine wpList_append_own w hgd s x T ho base E i z sz i.bytes hT.und hi hz hs1 rfl hz2 hT.pos v l1.length (eF sz enc l1) hs hown ad l2.length cap (eF sz enc l2) hx (cN _ _ _) (fJ hT.pos hsl') (oE h1) (by unfold maxLen; omega) ?_ hbase fun v' w' h2 h3 _ => h v' w' ?_ h3
   · have := Nat.mul_le_mul h63 hby
     omega
   · unfold Ow; rw [dX, List.length_append]; exact h2
theorem Ow.keep {α : Type} {w w' : World} {base E sz : Nat} {enc : α → Nat → Value} {v : Value} {l : List α} (h : Ow w base E sz enc v l) (hb : Below w.heap.size w w') : Ow w' base E sz enc v l := cw h hb
theorem Ow.alloc {α : Type} {w : World} {base E sz : Nat} {enc : α → Nat → Value} {v : Value} {l : List α} (h : Ow w base E sz enc v l) (o : Obj) : Ow (w.alloc o) base E sz enc v l := h.keep (br.alloc (Nat.le_refl _) _)
theorem Ow.lt {α : Type} {w : World} {base E sz : Nat} {enc : α → Nat → Value} {v : Value} {l : List α} (h : Ow w base E sz enc v l) : ∀ g, v.ownBlock = some g → base ≤ g ∧ g < w.heap.size := fun g hg => World.ownsRow.lt h g hg
theorem kB {α β : Type} {w : World} {b1 b2 E1 E2 s1 s2 : Nat} {e1 : α → Nat → Value} {e2 : β → Nat → Value} {v1 v2 : Value} {l1 : List α} {l2 : List β} (h1 : Ow w b1 E1 s1 e1 v1 l1) (h2 : Ow w b2 E2 s2 e2 v2 l2) (hE : E1 ≠ E2) (h : v1.ownBlock = v2.ownBlock) (hn : v1.ownBlock ≠ none) : False := by
 rcases h1.2 with ⟨rfl, _⟩ | ⟨g, cap, cur, rfl, _, hh, _⟩
 · exact hn rfl
 · rcases h2.2 with ⟨rfl, _⟩ | ⟨g2, cap2, cur2, rfl, _, hh2, _⟩
   · simp [Value.ownBlock] at h
   · obtain rfl : g = g2 := by simpa [Value.ownBlock] using h
     rw [hh] at hh2; simp at hh2; exact hE hh2.2
theorem Ow.outs {α : Type} {S : Nat → Prop} {w w' : World} {base E sz : Nat} {enc : α → Nat → Value} {v : Value} {l : List α} (h : Ow w base E sz enc v l) (ho : am S w w') (hS : ∀ k, base ≤ k → k < w.heap.size → ¬ S k) : Ow w' base E sz enc v l :=
 bS h ho (fun g hg => hS g (h.lt g hg).1 (h.lt g hg).2)
theorem Ow.base {α : Type} {w : World} {base base' E sz : Nat} {enc : α → Nat → Value} {v : Value} {l : List α} (h : Ow w base E sz enc v l) (hb : base' ≤ base) : Ow w base' E sz enc v l := iC h hb
theorem dl {α : Type} {w : World} {base E F sz gb : Nat} {enc : α → Nat → Value} {v : Value} {l : List α} {cs : Array Value} (h : Ow w base E sz enc v l) (hg : w.heap[gb]? = some (.cells cs F (0, 0))) (hEF : E ≠ F) : v.ownBlock ≠ some gb := by
 intro e; rcases h.2 with ⟨rfl, _⟩ | ⟨g, cap, cur, rfl, _, hh, _⟩
 · simp [Value.ownBlock] at e
 · obtain rfl : g = gb := by simpa [Value.ownBlock] using e
   rw [hg] at hh; simp at hh; exact hEF hh.2.symm
structure ay where
 kind : Int
 at1 : Int
 line : Int
 text : ByteArray
 n : Int
instance : Inhabited ay := ⟨⟨0, 0, 0, ByteArray.empty, 0⟩⟩
def ay.enc (t : ay) : Nat → Value
 | 0 => .int .i64 t.kind
 | 1 => .int .i64 t.at1
 | 2 => .int .i64 t.line
 | 3 => .string t.text
 | _ => .int .i64 t.n
def ay.val (t : ay) : Value := .agg #[.int .i64 t.kind, .int .i64 t.at1, .int .i64 t.line, .string t.text, .int .i64 t.n]
def ay.kt (t : ay) : KT := ⟨t.kind, t.text, t.n⟩
structure mz where
 nd : Nd
 kv : Value
instance : Inhabited mz := ⟨⟨default, .slice none 0 0⟩⟩
structure aN where
 L : List ay
 pb : Nat
 tb : Nat
 cap : Nat
 mb : Nat
 kb : Nat
 ab : Nat
 B : Nat
 TB : Obj
 MB : Obj
 KB : Obj
 AB : Obj
 W0 : World
def aN.K (E : aN) : List KT := E.L.map ay.kt
def aN.tk (E : aN) (i : Nat) : ay := E.L.getD i default
def aN.encN (E : aN) (x : mz) : Nat → Value
 | 0 => .int .i64 x.nd.kind
 | 1 => .int .i64 (E.tk x.nd.pos).at1
 | 2 => .int .i64 (E.tk x.nd.pos).line
 | 3 => .string x.nd.text
 | 4 => .int .i64 x.nd.n
 | _ => x.kv
theorem aN.lenK (E : aN) : E.K.length = E.L.length := by simp [aN.K]
theorem aN.tok (E : aN) {i : Nat} (h : i < E.L.length) : tok E.K i = (E.tk i).kt := by
 unfold Go.Proofs.YthkebhjaaikopaaGreatDoor.tok aN.K aN.tk; simp [List.getD_eq_getElem?_getD, h]
structure TV where
 v : Value
 ks : Nat → Prop
def aN.row (E : aN) (s : St) (tv : Value) : Array Value := #[.slice (some ⟨E.tb, s.i * 5, none⟩) (E.L.length - s.i) (E.cap - s.i), tv, .map (some E.mb), .map (some E.kb), .map (some E.ab), .int .i64 s.deep, .bool s.mid]
structure ax (E : aN) : Prop where
 toks : ∀ w : World, w.heap[E.tb]? = some E.TB → ∀ i, i < E.L.length → ∀ j, j < 5 → w.cell? ⟨E.tb, i * 5 + j, none⟩ = some ((E.tk i).enc j)
 cap : E.L.length ≤ E.cap
 capm : E.L.length ≤ 1000000000
 ends : aM E.K
 tbt : ∃ cs, E.TB = .cells cs 31 (0, 0)
 mbt : ∃ es c, E.MB = .map es c
 kbt : ∃ es c, E.KB = .map es c
 abt : ∃ es c, E.AB = .map es c
 size : ∀ t ∈ E.L, t.text.size ≤ 1000000
 types : ∃ b o c, E.W0.heap[2]? = some (.cells #[.slice (some ⟨b, o, none⟩) 10 c] 53 (0, 0)) ∧ 10 ≤ c ∧ c ≤ 1000 ∧ b < E.B ∧ ∀ j, j < 9 → E.W0.cell? ⟨b, o + 1 + j, none⟩ = some (.string (cz.getD j default))
 shows : ∃ b o c, E.W0.heap[3]? = some (.cells #[.slice (some ⟨b, o, none⟩) 4 c] 53 (0, 0)) ∧ 4 ≤ c ∧ c ≤ 1000 ∧ b < E.B ∧ ∀ j, j < 3 → E.W0.cell? ⟨b, o + 1 + j, none⟩ = some (.string (cJ.getD j default))
 levels : ∃ cs, E.W0.heap[5]? = some (.cells cs 195 (0, 0)) ∧ ∀ k, k < 10 → ∃ b o c, cs[2 * k]? = some (.slice (some ⟨b, o, none⟩) (az k).length c) ∧ cs[2 * k + 1]? = some (.int .i64 (ef k)) ∧ (az k).length ≤ c ∧ c ≤ 1000 ∧ b < E.B ∧ ∀ j, j < (az k).length → E.W0.cell? ⟨b, o + j, none⟩ = some (.string ((az k).getD j default))
 glob : 6 ≤ E.B
 nt : E.tb ≠ E.pb
 nm : E.mb ≠ E.pb
 nk : E.kb ≠ E.pb
 na : E.ab ≠ E.pb
 bp : E.B ≤ E.pb
 words : ∀ (w : World) (t : ByteArray), w.heap[E.mb]? = some E.MB → (Instr.lookup 49 (.map (some E.mb)) (.string t) false).run Tryz.prog w = .ok (.bool (fs bE t)) w
 keys : ∀ (w : World) (t : ByteArray), w.heap[E.kb]? = some E.KB → (Instr.lookup 50 (.map (some E.kb)) (.string t) false).run Tryz.prog w = .ok (.int .i64 (gv fW t)) w
 asks : ∀ (w : World) (t : ByteArray), w.heap[E.ab]? = some E.AB → (Instr.lookup 50 (.map (some E.ab)) (.string t) false).run Tryz.prog w = .ok (.int .i64 (gv eJ t)) w
structure PI (E : aN) (s : St) (tv : TV) (w : World) : Prop where
 p : w.heap[E.pb]? = some (.cells (E.row s tv.v) 52 (0, 0))
 t : w.heap[E.tb]? = some E.TB
 m : w.heap[E.mb]? = some E.MB
 k : w.heap[E.kb]? = some E.KB
 a : w.heap[E.ab]? = some E.AB
 tree : ∃ T : List mz, T.map mz.nd = s.tree ∧ Ow w E.B 39 6 E.encN tv.v T ∧ ∀ t ∈ T, Ow w E.B 3 1 bC t.kv t.nd.kids ∧ ∀ g, t.kv.ownBlock = some g → tv.ks g
 i : s.i < E.L.length
 d0 : 0 ≤ s.deep
 d1 : s.deep ≤ 64
 len : s.tree.length ≤ 16384
 low : Below E.B E.W0 w
 bl : E.B ≤ w.heap.size
 kslt : ∀ g, tv.ks g → g < w.heap.size
theorem PI.keep {E : aN} {s : St} {tv : TV} {w w' : World} (h : PI E s tv w) (hb : Below w.heap.size w w') : PI E s tv w' := by
 obtain ⟨T, h1, h2, h3⟩ := h.tree; exact ⟨(hb.block _ (af h.p)).trans h.p, (hb.block _ (af h.t)).trans h.t, (hb.block _ (af h.m)).trans h.m, (hb.block _ (af h.k)).trans h.k, (hb.block _ (af h.a)).trans h.a,
  ⟨T, h1, h2.keep hb, fun t ht => ⟨(h3 t ht).1.keep hb, (h3 t ht).2⟩⟩, h.i, h.d0, h.d1, h.len, h.low.trans (hb.mono h.bl), Nat.le_trans h.bl hb.size, fun g hg => Nat.lt_of_lt_of_le (h.kslt g hg) hb.size⟩
theorem PI.c0 {E : aN} {s : St} {tv : TV} {w : World} (h : PI E s tv w) : w.cell? ⟨E.pb, 0, none⟩ = some (.slice (some ⟨E.tb, s.i * 5, none⟩) (E.L.length - s.i) (E.cap - s.i)) := (cell_of_row w _ 0 _ _ _ h.p).trans rfl
theorem PI.c1 {E : aN} {s : St} {tv : TV} {w : World} (h : PI E s tv w) : w.cell? ⟨E.pb, 1, none⟩ = some tv.v := (cell_of_row w _ 1 _ _ _ h.p).trans rfl
theorem PI.c2 {E : aN} {s : St} {tv : TV} {w : World} (h : PI E s tv w) : w.cell? ⟨E.pb, 2, none⟩ = some (.map (some E.mb)) := (cell_of_row w _ 2 _ _ _ h.p).trans rfl
theorem PI.c3 {E : aN} {s : St} {tv : TV} {w : World} (h : PI E s tv w) : w.cell? ⟨E.pb, 3, none⟩ = some (.map (some E.kb)) := (cell_of_row w _ 3 _ _ _ h.p).trans rfl
theorem PI.c4 {E : aN} {s : St} {tv : TV} {w : World} (h : PI E s tv w) : w.cell? ⟨E.pb, 4, none⟩ = some (.map (some E.ab)) := (cell_of_row w _ 4 _ _ _ h.p).trans rfl
theorem PI.c5 {E : aN} {s : St} {tv : TV} {w : World} (h : PI E s tv w) : w.cell? ⟨E.pb, 5, none⟩ = some (.int .i64 s.deep) := (cell_of_row w _ 5 _ _ _ h.p).trans rfl
theorem PI.c6 {E : aN} {s : St} {tv : TV} {w : World} (h : PI E s tv w) : w.cell? ⟨E.pb, 6, none⟩ = some (.bool s.mid) := (cell_of_row w _ 6 _ _ _ h.p).trans rfl
theorem PI.free {E : aN} {s : St} {tv : TV} {w : World} (h : PI E s tv w) (j : Nat) : w.frozen? ⟨E.pb, j, none⟩ = false := frozen_of_row w _ j _ _ h.p
theorem PI.tok {E : aN} {s : St} {tv : TV} {w : World} (h : PI E s tv w) (hE : ax E) {i : Nat} (hi : i < E.L.length) : w.cell? ⟨E.tb, i * 5, none⟩ = some (.int .i64 (E.tk i).kind) ∧ w.cell? ⟨E.tb, i * 5 + 1, none⟩ = some (.int .i64 (E.tk i).at1) ∧ w.cell? ⟨E.tb, i * 5 + 2, none⟩ = some (.int .i64 (E.tk i).line) ∧ w.cell? ⟨E.tb, i * 5 + 3, none⟩ = some (.string (E.tk i).text) ∧ w.cell? ⟨E.tb, i * 5 + 4, none⟩ = some (.int .i64 (E.tk i).n) :=
 ⟨hE.toks w h.t i hi 0 (by omega), hE.toks w h.t i hi 1 (by omega), hE.toks w h.t i hi 2 (by omega), hE.toks w h.t i hi 3 (by omega), hE.toks w h.t i hi 4 (by omega)⟩
theorem PI.tbLt {E : aN} {s : St} {tv : TV} {w : World} (h : PI E s tv w) : E.tb < w.heap.size := af h.t
theorem PI.pbLt {E : aN} {s : St} {tv : TV} {w : World} (h : PI E s tv w) : E.pb < w.heap.size := af h.p
theorem eB {E : aN} {s : St} {tv : TV} {u : Value} {w : World} {α : Type} {e sz j : Nat} {enc : α → Nat → Value} {v : Value} {l : List α} (hp : w.heap[E.pb]? = some (.cells (E.row s tv.v) 52 (0, 0))) (ho : Ow w E.B e sz enc v l) (he : e ≠ 52) : Ow (w.setCell ⟨E.pb, j, none⟩ u) E.B e sz enc v l :=
 bS ho ((am.refl (fun k => k = E.pb) w).setCell (p := ⟨E.pb, j, none⟩) (.inl rfl) u) (fun g hg hS => dl ho hp he (by rw [hg, hS]))
theorem PI.set {E : aN} {s s' : St} {tv : TV} {w : World} (hE : ax E) (h : PI E s tv w) (j : Nat) (u : Value) (hr : (E.row s tv.v).setIfInBounds j u = E.row s' tv.v) (ht : s'.tree = s.tree) (hi : s'.i < E.L.length) (h0 : 0 ≤ s'.deep) (h1 : s'.deep ≤ 64) : PI E s' tv (w.setCell ⟨E.pb, j, none⟩ u) := by
 obtain ⟨T, a1, a2, a3⟩ := h.tree; refine ⟨?_, (heap_setCell_other w _ _ _ hE.nt).trans h.t, (heap_setCell_other w _ _ _ hE.nm).trans h.m, (heap_setCell_other w _ _ _ hE.nk).trans h.k, (heap_setCell_other w _ _ _ hE.na).trans h.a, ⟨T, by rw [ht, a1], eB h.p a2 (by decide), fun t htm => ⟨eB h.p (a3 t htm).1 (by decide), (a3 t htm).2⟩⟩, hi, h0, h1, by rw [ht]; exact h.len, h.low.setCell (p := ⟨E.pb, j, none⟩) hE.bp u, by have := h.bl; simpa [World.setCell] using this, fun g hg => by have := h.kslt g hg; simpa [World.setCell] using this⟩; rw [heap_setCell_same w E.pb j _ 52 u h.p, hr]
theorem nj {α : Type} {w : World} {base e sz gb : Nat} {enc : α → Nat → Value} {v : Value} {l : List α} {es : Array MapEntry} {c : Nat} (h : Ow w base e sz enc v l) (hg : w.heap[gb]? = some (.map es c)) : v.ownBlock ≠ some gb := by
 intro e1; rcases h.2 with ⟨rfl, _⟩ | ⟨g, cap, cur, rfl, _, hh, _⟩
 · simp [Value.ownBlock] at e1
 · obtain rfl : g = gb := by simpa [Value.ownBlock] using e1
   rw [hg] at hh; simp at hh
theorem PI.fix {E : aN} {s : St} {tv : TV} {w : World} (h : PI E s tv w) (hE : ax E) {α : Type} {base e sz : Nat} {enc : α → Nat → Value} {v : Value} {l : List α} (ho : Ow w base e sz enc v l) (he : e ≠ 31) : v.ownBlock ≠ some E.tb ∧ v.ownBlock ≠ some E.mb ∧ v.ownBlock ≠ some E.kb ∧ v.ownBlock ≠ some E.ab := by
 obtain ⟨cs, h1⟩ := hE.tbt; obtain ⟨_, _, h2⟩ := hE.mbt; obtain ⟨_, _, h3⟩ := hE.kbt; obtain ⟨_, _, h4⟩ := hE.abt; exact ⟨dl ho (h.t.trans (by rw [h1])) he, nj ho (h.m.trans (by rw [h2])), nj ho (h.k.trans (by rw [h3])), nj ho (h.a.trans (by rw [h4]))⟩
structure gh (E : aN) (hs : Nat → Prop) (tv : TV) (w : World) (tv' : TV) (w' : World) : Prop where
 out : am (fun k => k = E.pb ∨ tv.v.ownBlock = some k) w w'
 tvb : ∀ g, tv'.v.ownBlock = some g → tv.v.ownBlock = some g ∨ w.heap.size ≤ g
 ks : ∀ g, tv'.ks g → tv.ks g ∨ w.heap.size ≤ g ∨ hs g
abbrev Fr (E : aN) (tv : TV) (w : World) (tv' : TV) (w' : World) : Prop := gh E (fun _ => False) tv w tv' w'
theorem Fr.refl (E : aN) (tv : TV) (w : World) : Fr E tv w tv w := ⟨am.refl _ _, fun _ h => .inl h, fun _ h => .inl h⟩
theorem Fr.of_below {E : aN} {tv : TV} {w w' : World} (h : Below w.heap.size w w') : Fr E tv w tv w' := ⟨am.of_below h, fun _ h => .inl h, fun _ h => .inl h⟩
theorem Fr.trans {E : aN} {ta tb tc : TV} {a b c : World} (h : Fr E ta a tb b) (k : Fr E tb b tc c) : Fr E ta a tc c :=
 ⟨h.out.trans k.out (fun x hx => by
  rcases hx with hx | hx
  · exact .inl (.inl hx)
  · rcases h.tvb x hx with h1 | h1
    · exact .inl (.inr h1)
    · exact .inr h1), fun g hg => by
  rcases k.tvb g hg with h1 | h1
  · exact h.tvb g h1
  · exact .inr (Nat.le_trans h.out.size h1), fun g hg => by
  rcases k.ks g hg with h1 | h1 | h1
  · exact h.ks g h1
  · exact .inr (.inl (Nat.le_trans h.out.size h1))
  · exact h1.elim⟩
theorem gh.close {E : aN} {hs : Nat → Prop} {ta tb tc : TV} {a b c : World} (h : Fr E ta a tb b) (k : gh E hs tb b tc c) (hh : ∀ g, hs g → a.heap.size ≤ g) : Fr E ta a tc c := by
 have e : Fr E ta a ⟨tc.v, tb.ks⟩ c := h.trans ⟨k.out, k.tvb, fun g hg => .inl hg⟩; exact ⟨e.out, e.tvb, fun g hg => by
  rcases k.ks g hg with h1 | h1 | h1
  · exact h.ks g h1
  · exact .inr (.inl (Nat.le_trans h.out.size h1))
  · exact .inr (.inl (hh g h1))⟩
theorem PI.grow {E : aN} {s : St} {tv : TV} {w w1 w' : World} {row : Option Nat} (h : PI E s tv w) (hb : Below w.heap.size w w1) (hg : w1.grownBy w' row) (hr : ∀ g, row = some g → E.B ≤ g ∧ g ≠ E.pb ∧ g ≠ E.tb ∧ g ≠ E.mb ∧ g ≠ E.kb ∧ g ≠ E.ab ∧ tv.v.ownBlock ≠ some g ∧ ¬ tv.ks g) : PI E s tv w' := by
 obtain ⟨T, a1, a2, a3⟩ := h.tree; have hO : am (fun k => row = some k) w w' := (am.of_below hb).grown hg (fun k hk => .inl hk); have hk : ∀ k, k < w.heap.size → row ≠ some k → w'.heap[k]? = w.heap[k]? := fun k h1 h2 => hO.block k h1 h2
 exact ⟨(hk _ (af h.p) (fun e => (hr _ e).2.1 rfl)).trans h.p, (hk _ (af h.t) (fun e => (hr _ e).2.2.1 rfl)).trans h.t, (hk _ (af h.m) (fun e => (hr _ e).2.2.2.1 rfl)).trans h.m, (hk _ (af h.k) (fun e => (hr _ e).2.2.2.2.1 rfl)).trans h.k, (hk _ (af h.a) (fun e => (hr _ e).2.2.2.2.2.1 rfl)).trans h.a,
  ⟨T, a1, bS a2 hO (fun g h1 h2 => (hr g h2).2.2.2.2.2.2.1 h1), fun t ht => ⟨bS (a3 t ht).1 hO (fun g h1 h2 => (hr g h2).2.2.2.2.2.2.2 ((a3 t ht).2 g h1)), (a3 t ht).2⟩⟩, h.i, h.d0, h.d1, h.len, (h.low.trans (hb.mono h.bl)).grown hg (Nat.le_trans h.bl hb.size) (fun k hk => (hr k hk).1), Nat.le_trans h.bl (Nat.le_trans hb.size hg.size), fun g h1 => Nat.lt_of_lt_of_le (h.kslt g h1) (Nat.le_trans hb.size hg.size)⟩
theorem Fr.set (E : aN) (tv : TV) (w : World) (j : Nat) (u : Value) : Fr E tv w tv (w.setCell ⟨E.pb, j, none⟩ u) := ⟨(am.refl _ w).setCell (p := ⟨E.pb, j, none⟩) (.inl (.inl rfl)) u, fun _ h => .inl h, fun _ h => .inl h⟩
theorem Fr.own {E : aN} {tv tv' : TV} {w w' : World} {s : St} {α : Type} {base e sz : Nat} {enc : α → Nat → Value} {v : Value} {l : List α} (h : Fr E tv w tv' w') (hp : PI E s tv w) (ho : Ow w base e sz enc v l) (h52 : e ≠ 52) (h39 : e ≠ 39) : Ow w' base e sz enc v l :=
 bS ho h.out (fun g hg hS => by
  rcases hS with rfl | hS
  · exact dl ho hp.p h52 hg
  · obtain ⟨T, -, hT, -⟩ := hp.tree; exact kB ho hT h39 (by rw [hg, hS]) (by rw [hg]; simp))
theorem PI.push {E : aN} {s : St} {tv : TV} {v' : Value} {w w1 w' : World} {T : List mz} {y : mz} (hE : ax E) (h : PI E s tv w) (hT : T.map mz.nd = s.tree) (hTo : Ow w E.B 39 6 E.encN tv.v T) (hTk : ∀ t ∈ T, Ow w E.B 3 1 bC t.kv t.nd.kids ∧ ∀ g, t.kv.ownBlock = some g → tv.ks g) (hy : Ow w E.B 3 1 bC y.kv y.nd.kids)
 (hb : Below w.heap.size w w1) (hg' : w1.grownBy w' tv.v.ownBlock) (ho : Ow w' E.B 39 6 E.encN v' (T ++ [y])) (hv : ∀ g, v'.ownBlock = some g → tv.v.ownBlock = some g ∨ w.heap.size ≤ g) (hlt : T.length < 16384) :
 PI E { s with tree := s.tree ++ [y.nd] } ⟨v', fun g => tv.ks g ∨ y.kv.ownBlock = some g⟩ (w'.setCell ⟨E.pb, 1, none⟩ v') ∧ gh E (fun g => y.kv.ownBlock = some g) tv w ⟨v', fun g => tv.ks g ∨ y.kv.ownBlock = some g⟩ (w'.setCell ⟨E.pb, 1, none⟩ v') := by
 obtain ⟨n1, n2, n3, n4⟩ := h.fix hE hTo (by decide); have n0 : tv.v.ownBlock ≠ some E.pb := dl hTo h.p (by decide); have hk : ∀ k, k < w.heap.size → tv.v.ownBlock ≠ some k → w'.heap[k]? = w.heap[k]? := fun k h1 h2 => (hg'.block k (Nat.lt_of_lt_of_le h1 hb.size) (fun e => h2 e.symm)).trans (hb.block k h1)
 have hO : am (fun k => tv.v.ownBlock = some k) w w' := (am.of_below hb).grown hg' (fun k hk => .inl hk); have hkids : ∀ t : mz, Ow w E.B 3 1 bC t.kv t.nd.kids → Ow w' E.B 3 1 bC t.kv t.nd.kids := fun t ht => bS ht hO (fun g h1 h2 => kB ht hTo (by decide) (by rw [h1, h2]) (by rw [h1]; simp))
 have hp' : w'.heap[E.pb]? = some (.cells (E.row s tv.v) 52 (0, 0)) := (hk _ (af h.p) n0).trans h.p; refine ⟨⟨?_, ?_, ?_, ?_, ?_, ⟨T ++ [y], by rw [List.map_append, hT]; rfl, eB hp' ho (by decide), ?_⟩, h.i, h.d0, h.d1, ?_, ((h.low.trans (hb.mono h.bl)).grown hg' (Nat.le_trans h.bl hb.size) (fun k hk => (hTo.lt k hk).1)).setCell (p := ⟨E.pb, 1, none⟩) hE.bp _, by have := h.bl; have := hb.size; have := hg'.size; simp only [World.setCell, Array.size_modify]; omega, fun g hg => by
  have h1 : g < w.heap.size := hg.elim (h.kslt g) (fun e => (hy.lt g e).2); have := hb.size; have := hg'.size; simp only [World.setCell, Array.size_modify]; omega⟩, ?_, hv, fun g hg => by
  rcases hg with hg | hg
  · exact .inl hg
  · exact .inr (.inr hg)⟩
 · rw [heap_setCell_same w' E.pb 1 _ 52 v' hp']; rfl
 · exact (heap_setCell_other w' _ _ _ hE.nt).trans ((hk _ (af h.t) n1).trans h.t)
 · exact (heap_setCell_other w' _ _ _ hE.nm).trans ((hk _ (af h.m) n2).trans h.m)
 · exact (heap_setCell_other w' _ _ _ hE.nk).trans ((hk _ (af h.k) n3).trans h.k)
 · exact (heap_setCell_other w' _ _ _ hE.na).trans ((hk _ (af h.a) n4).trans h.a)
 · intro t ht; rcases List.mem_append.1 ht with ht | ht
   · exact ⟨eB hp' (hkids t (hTk t ht).1) (by decide), fun g hg => .inl ((hTk t ht).2 g hg)⟩
   · obtain rfl : t = y := by simpa using ht
     exact ⟨eB hp' (hkids t hy) (by decide), fun g hg => .inr hg⟩
 · have : s.tree.length = T.length := by rw [← hT]; simp
   show (s.tree ++ [y.nd]).length ≤ 16384; simp; omega
 · exact (hO.mono (fun x hx => .inl (.inr hx))).setCell (p := ⟨E.pb, 1, none⟩) (.inl (.inl rfl)) _
theorem eG (p q r : Option Addr) (w : World) :
 CallsD Tryz.prog 18 #[.pointer p, .pointer q, .pointer r] .returning w fun e u' w' => e = .returned (.tuple #[]) ∧ u' = .returning ∧ w' = w := by
 refine callsD_of_wpS Tryz.func18 rfl fun c₀ cs hu => ?_
 apply wpS_seq; apply wpS_region; simp [wpOpsS, go_sem, recoverD, hu, Tryz.ntmps18, Exit.thenS]; apply wpS_seq; apply wpS_region; simp [wpOpsS, go_sem, recoverD, hu, Exit.thenS]; refine wpS_cond (t := false) (by simp [Act.eval, Array.replicate]) ?_; simp only [Bool.false_eq_true, if_false]; refine wpS_of_wp (wp_skip ?_); cases c₀
 simp_all [bodyPostS, results, Tryz.results18]
theorem uB (v : Value) (w : World) : (typeAssert (.iface 45 v) 20 45 true).run Tryz.prog w = .ok (.tuple #[v, .bool true]) w := by kernel_rfl
set_option maxRecDepth 100000 in
theorem nY (p q r : Nat) (c a : Int) (vp vq vr : Value) (ep eq er : TypeId) (w : World) (hp : w.heap[p]? = some (.cells #[vp] ep (0, 0))) (hq : w.heap[q]? = some (.cells #[vq] eq (0, 0))) (hr : w.heap[r]? = some (.cells #[vr] er (0, 0))) (hpq : p ≠ q) (hpr : p ≠ r) (hqr : q ≠ r) :
 CallsD Tryz.prog 18 #[.pointer (some ⟨p, 0, none⟩), .pointer (some ⟨q, 0, none⟩), .pointer (some ⟨r, 0, none⟩)] (.panicking [{ v := .iface 45 (.agg #[.int .i64 c, .int .i64 a]), recovered := false }]) w fun e u' w' =>
  e = .returned (.tuple #[]) ∧ u' = .panicking [{ v := .iface 45 (.agg #[.int .i64 c, .int .i64 a]), recovered := true }] ∧
  w'.heap[p]? = some (.cells #[.slice none 0 0] ep (0, 0)) ∧ w'.heap[q]? = some (.cells #[.int .i64 c] eq (0, 0)) ∧ w'.heap[r]? = some (.cells #[.int .i64 a] er (0, 0)) ∧ am (fun k => k = p ∨ k = q ∨ k = r) w w' := by
 refine callsD_of_wpS Tryz.func18 rfl fun c₀ cs hu => ?_
 simp only [Tryz.ntmps18, List.size_toArray, List.length_cons, List.length_nil, Nat.reduceAdd, Nat.reduceSub, Array.replicate_succ, Array.replicate_zero, List.push_toArray, List.append_toArray, List.nil_append, List.cons_append]; apply wpS_seq; apply wpS_region; simp [wpOpsS, go_sem, recoverD, hu, Exit.thenS]; refine wpS_of_wp (wp_mono (Q := fun e a' w' => e = .normal ∧ a'.defers = [] ∧ w'.heap[p]? = some (.cells #[.slice none 0 0] ep (0, 0)) ∧ w'.heap[q]? = some (.cells #[.int .i64 c] eq (0, 0)) ∧ w'.heap[r]? = some (.cells #[.int .i64 a] er (0, 0)) ∧ am (fun k => k = p ∨ k = q ∨ k = r) w w') ?_ ?_)
 case refine_2 =>
  rintro e a' w' ⟨rfl, hd, h1, h2, h3, h4⟩; cases c₀
  simp_all [bodyPostS, results, Tryz.results18]
 clear hu; have hta := uB; go_wp2_with fail; generalize hW : World.alloc w _ = W; have hB : Below w.heap.size w W := by rw [← hW]; exact br.alloc (Nat.le_refl _) _
 have c0 : W.cell? ⟨w.heap.size, 0, none⟩ = some (.int .i64 c) := by rw [← hW]; simp [go_sem]
 have c1 : W.cell? ⟨w.heap.size, 1, none⟩ = some (.int .i64 a) := by rw [← hW]; simp [go_sem]
 have lp := af hp; have lq := af hq; have lr := af hr; replace hp := (hB.block _ lp).trans hp; replace hq := (hB.block _ lq).trans hq; replace hr := (hB.block _ lr).trans hr; have zp := frozen_of_row W p 0 _ _ hp; have zq := frozen_of_row W q 0 _ _ hq; have zr := frozen_of_row W r 0 _ _ hr; have cp := (cell_of_row W p 0 _ _ _ hp).trans rfl; have cq := (cell_of_row W q 0 _ _ _ hq).trans rfl; have cr := (cell_of_row W r 0 _ _ _ hr).trans rfl; simp only [List.getElem?_toArray, List.getElem?_cons_zero] at cp cq cr; have HP := qd hp; have HQ := qd hq; have HR := qd hr; have HB := qd (am.of_below (S := fun k => k = p ∨ k = q ∨ k = r) hB); have mp : p ≠ w.heap.size := by omega
 have mq : q ≠ w.heap.size := by omega
 have mr : r ≠ w.heap.size := by omega
 clear hp hq hr hW hB lp lq lr hta; go_region; refine ⟨rfl, rfl, ?_, ?_, ?_, ?_⟩
 · show (World.setCell (World.setCell (World.setCell W _ _) _ _) _ _).heap[p]? = _; rw [heap_setCell_other _ _ _ _ hpr, heap_setCell_other _ _ _ _ hpq]; exact heap_setCell_same W p 0 _ ep _ HP.out
 · show (World.setCell (World.setCell (World.setCell W _ _) _ _) _ _).heap[q]? = _; rw [heap_setCell_other _ _ _ _ hqr]; exact heap_setCell_same _ q 0 _ eq _ ((heap_setCell_other _ _ _ _ (Ne.symm hpq)).trans HQ.out)
 · exact heap_setCell_same _ r 0 _ er _ ((heap_setCell_other _ _ _ _ (Ne.symm hqr)).trans ((heap_setCell_other _ _ _ _ (Ne.symm hpr)).trans HR.out))
 · exact ((HB.out.setCell (p := ⟨p, 0, none⟩) (.inl (.inl rfl)) _).setCell (p := ⟨q, 0, none⟩) (.inl (.inr (.inl rfl))) _).setCell (p := ⟨r, 0, none⟩) (.inl (.inr (.inr rfl))) _ |>.drew
end Go.Proofs.YthkebhjaaikopaaGreatDoor
