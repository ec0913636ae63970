/-
  Macros on a define of a name and the tokens behind it.
-/
import Derived.Test.YtaliplbbmhfenaaU
namespace Go.Proofs.Ytaliplbbmhfenaa
open Go.MapKept Go.ChangeShapes Go.WideShapes Go.ChangeAt Go.RowKit Go.Deep Go.Joins Go.Instr
theorem macros_once (h d x : TkD) (zz : ByteArray) (B L : List TkD) (v : Value) (w : World) (hL : 0 < L.length) (hs : Sl w 5 TkD.enc v (h :: d :: x :: (B ++ L))) (hr : rightF (h :: d :: x :: (B ++ L)) = true)
    (hh : isF 4 h ⟨#[35]⟩ = true) (hd : d.kind = 1) (hdt : d.text = ⟨#[100, 101, 102, 105, 110, 101]⟩) (hx : x.kind = 1) (hz : x.text = zz) (hnd : ¬ zz = ⟨#[100, 101, 102, 105, 110, 101, 100]⟩)
    (hno : ∀ t ∈ B, isF 4 t ⟨#[40]⟩ = false) (hpl : ∀ t ∈ B, t.kind = 1 → t.text ≠ zz) (hl1 : d.line = h.line) (hl2 : x.line = h.line) (hl3 : ∀ t ∈ B, t.line = h.line) (hl4 : ∀ t ∈ L, ¬ t.line = h.line) (hLno : ∀ t ∈ L, isF 4 t ⟨#[35]⟩ = false)
    (hus : usL zz (L.take (L.length - 1)) ≤ 4000) (hlen : (exL zz B (L.take (L.length - 1))).length ≤ 8192) (hBl : B.length ≤ 4000) (hLl : L.length ≤ 4000) :
    Calls Try.prog 8 #[v] w (MacP (exL zz B (L.take (L.length - 1)) ++ [L.getD (L.length - 1) default]) w) := by
  have hlenD : (h :: d :: x :: (B ++ L)).length = B.length + L.length + 3 := by simp
  have e1 : (h :: d :: x :: (B ++ L)).getD ((h :: d :: x :: (B ++ L)).length - 1) default = L.getD (L.length - 1) default := by
    rw [hlenD, show B.length + L.length + 3 - 1 = B.length + (L.length - 1) + 3 by omega]
    simp [List.getD_eq_getElem?_getD, List.getElem?_append, show ¬ B.length + (L.length - 1) < B.length by omega]
  have e2 : (h :: d :: x :: (B ++ L)).take ((h :: d :: x :: (B ++ L)).length - 1) = h :: d :: x :: (B ++ L.take (L.length - 1)) := by
    rw [hlenD, show B.length + L.length + 3 - 1 = (B.length + (L.length - 1)) + 1 + 1 + 1 by omega]
    simp [List.take_append, List.take_of_length_le]
  have hm := macros_gen (h :: d :: x :: (B ++ L)) (exL zz B (L.take (L.length - 1))) v w hs hr (by omega) hlen (fun W b c wb kb tk hsl hwk hmp => by
    rw [e2] at hsl
    exact mac1_once h d x B (L.take (L.length - 1)) zz b 0 (B.length + 1) (B.length + 3) _ c tk W.heap.size wb kb 0 W hsl rfl rfl (by simp; omega) hh hd hdt hx hz hnd hno hpl hl1 hl2 hl3 (fun t ht => hl4 t (List.mem_of_mem_take ht)) (fun t ht => hLno t (List.mem_of_mem_take ht)) hus hlen hBl (by simp; omega) (Nat.le_refl _) hwk hmp)
  rw [e1] at hm
  exact hm

end Go.Proofs.Ytaliplbbmhfenaa
