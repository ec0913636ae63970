/-
  Contract of good's statement. Conditions: the model is laid as data; the checker's cells.
-/
import Derived.Test.YtblpajbacdbgpaaT
import Derived.Test.YtblpajbacdbgpaaX
namespace Go.Proofs.Ytblpajbacdbgpaa
open Go.ChangeShapes Go.WideShapes Go.ChangeAt Go.RowKit Go.Deep Go.Joins
set_option maxHeartbeats 2000000 in
set_option maxRecDepth 100000 in
theorem statement_any (M : MoD) (w0 : World) (hM : M.ok w0) (b : Nat) (x : TrD) (w : World) (hB : Below w0.heap.size w0 w) (hk : Ck w b M) (hx : x.ok w0) :
    Calls Try.prog 32 #[.pointer (some ⟨b, 0, none⟩), x.st] w fun e w' => e = .returned (.bool (statementF M x)) ∧ Below w.heap.size w w' := by
  have HE := Lib.hid (stE M w0 hM b x w hB hk hx)
  obtain ⟨aa, ca, hva, -, -, -⟩ := hx.av
  obtain ⟨am, cm, hvm, -, -, -⟩ := hx.mv
  obtain ⟨ax, cx, hxv, -, -, -⟩ := hM.xv
  obtain ⟨as_, cs, hsv, -, -, -⟩ := hM.sv
  have c6 := hk.c6
  have c2 := hk.c2
  rw [hxv] at c6
  rw [hsv] at c2
  have hbl := hk.lt
  by_cases h1 : x.kind = 1 ∨ x.kind = 3
  · exact st_1 M b x w HE aa am ca cm hva hvm h1
  by_cases h2 : x.kind = 2
  · exact st_2 M b x w HE aa am ca cm hva hvm h2
  by_cases h4 : x.kind = 4
  · exact st_4 M b x w HE aa am ax ca cm cx hva hvm h4 hbl c6 hx.text
  by_cases h5 : x.kind = 5
  · exact st_5 M b x w HE aa am ax ca cm cx hva hvm h5 hbl c6
  by_cases h6 : x.kind = 6
  · exact st_6 M b x w HE aa am ca cm hva hvm h6
  by_cases h7 : x.kind = 7 ∨ x.kind = 8
  · exact st_7 M b x w HE aa am ca cm hva hvm h7
  by_cases h9 : x.kind = 9
  · exact st_9 M b x w HE aa am as_ ca cm cs hva hvm h9 hbl c2
  have HG : Hid (statementF M x = false) := by
    unfold Hid statementF
    rw [if_neg h1, if_neg h2, if_neg h4, if_neg h5, if_neg h6, if_neg h7, if_neg h9]
  have k1 : (x.kind == 1) = false := by simp; omega
  have k2 : (x.kind == 2) = false := by simp; omega
  have k3 : (x.kind == 3) = false := by simp; omega
  have k4 : (x.kind == 4) = false := by simp; omega
  have k5 : (x.kind == 5) = false := by simp; omega
  have k6 : (x.kind == 6) = false := by simp; omega
  have k7 : (x.kind == 7) = false := by simp; omega
  have k8 : (x.kind == 8) = false := by simp; omega
  have k9 : (x.kind == 9) = false := by simp; omega
  unfold TrD.st
  rw [hva, hvm]
  clear h1 h2 h4 h5 h6 h7 h9 HE hva hvm hxv hsv c6 c2 hM hk hx hB
  go_enter Try.func32, Try.ntmps32
  go_wp2
  go_ret
  exact ⟨retb HG.out.symm, by go_grown⟩
end Go.Proofs.Ytblpajbacdbgpaa
