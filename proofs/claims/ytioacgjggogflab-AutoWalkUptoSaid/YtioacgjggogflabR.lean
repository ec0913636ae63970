/-
  AutoWalk: both contracts, joined with the law's walk.
-/
import Derived.Test.YtioacgjggogflabRC
import Derived.Test.YtioacgjggogflabQ
import Derived.Test.YtioacgjggogflabL
namespace Go.Proofs.Ytioacgjggogflab
open Go.ChangeShapes Go.WideShapes Go.ChangeAt Go.RowKit Go.Deep Go.Joins Go.Instr
theorem auto_any (x : PrD) (vm : Value) (more : List Int) (w : World) (hx : x.ok w) (hm : Sl w 1 iEnc vm more) (hmz : more.length ≤ 1048576) (hmn : Sn vm) :
    Calls Try.prog 3 #[x.val, vm] w fun e w' => e = .returned (.bool true) ∧ Below w.heap.size w w' := by
  refine law_any x vm more w hx.rd hm (fun W hW => ?_) (fun W hW => ?_)
  · exact (awalk_any x vm more W (hx.keep hW) (hm.keep hW) hmz hmn).mono fun e w' h => AR.of h
  · have hxW := hx.keep hW
    have hsm : ∀ t ∈ x.locs, t.sm := fun t ht => (hx.locs t ht).sm
    cases hf : fitB x more with
    | true =>
      refine (rwalk_fit x vm more W hxW.rd hsm hx.lz (hm.keep hW) hmz hf).mono ?_
      rintro e w' ⟨q, nv, h1, h2, h3, h4, h5⟩
      exact ⟨q, nv, 0, _, h1, ⟨fun _ => ⟨h3, rfl, rfl⟩, fun h => (by rw [hf] at h; exact absurd h (by decide))⟩, h4, h2, h5⟩
    | false =>
      refine (rwalk_no x vm more W hxW.rd hsm (hm.keep hW) hf).mono ?_
      rintro e w' ⟨h1, h2⟩
      exact ⟨zeroD, .slice none 0 0, 16, [], h1, ⟨fun h => (by rw [hf] at h; exact absurd h (by decide)), fun _ => ⟨rfl, rfl, rfl⟩⟩, ow_nil _ _ _ _ _, zero_rd w', h2⟩
end Go.Proofs.Ytioacgjggogflab
namespace Go.Proofs.Ytioacgjggogflab.autoWalk
open Go.ChangeShapes Go.WideShapes Go.ChangeAt Go.RowKit
theorem walk {H : Type} {enc : TypeId × Value → H} (W : World) (base : Nat) (v0 v1 : Value) {d0 d1 : DataW H} {p0 p1 : List MemPlace} (hv0 : Value.okWide Try.prog W .any base 26 v0) (hv1 : Value.okWide Try.prog W .any base 27 v1)
    (h0 : DataW.Trod enc Try.prog W 0 (fun _ => true) true 26 v0 d0 p0) (h1 : DataW.Trod enc Try.prog W 0 (fun _ => true) true 27 v1 d1 p1) (hs0 : Small d0) (hs1 : Small d1) :
    Calls Try.prog 3 #[v0, v1] W fun e w' => e = .returned (.bool true) ∧ Below W.heap.size W w' := by
  obtain ⟨M, rfl, hM⟩ := proc_of hv0 h0 hs0
  obtain ⟨l, hl, -, hlz, hln⟩ := more_of hv1 h1 hs1
  exact auto_any M v1 l W hM hl hlz hln
end Go.Proofs.Ytioacgjggogflab.autoWalk
