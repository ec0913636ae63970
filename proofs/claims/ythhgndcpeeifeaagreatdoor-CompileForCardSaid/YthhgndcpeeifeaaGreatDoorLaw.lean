/- CompileFor: what it says, out of its cases. -/
import Derived.Test.YthhgndcpeeifeaaGreatDoorKA
import Derived.Test.YthhgndcpeeifeaaGreatDoorK0
import Derived.Test.YthhgndcpeeifeaaGreatDoorK1
import Derived.Test.YthhgndcpeeifeaaGreatDoorK2
import Derived.Test.YthhgndcpeeifeaaGreatDoorK3
import Derived.Test.YthhgndcpeeifeaaGreatDoorK4
import Derived.Test.YthhgndcpeeifeaaGreatDoorK5
import Derived.Test.YthhgndcpeeifeaaGreatDoorK6
import Derived.Test.YthhgndcpeeifeaaGreatDoorK7
import Derived.Test.YthhgndcpeeifeaaGreatDoorK8
namespace Go.Ev
open Go Go.RowKit Go.Proofs Go.Proofs.YthhgndcpeeifeaaGreatDoor
theorem for_catS (a b x : List UInt8) : forS (tx a) (tx b) (tx x) = tx (cat a b [.t [98, 121, 116, 101, 32, 120, 44, 32, 105, 59, 32, 99, 104, 97, 110, 32, 99, 32, 61, 32, 91, 50, 93, 32, 111, 102, 32, 123, 32, 98, 121, 116, 101, 32, 125, 59, 32, 105, 110, 105, 116, 32, 123, 32, 102, 111, 114, 32, 40, 105, 32, 58, 32], .a, .t [32, 46, 46, 32], .b, .t [41, 32, 123, 32], .t x, .t [32, 125, 59, 32, 120, 32, 61, 32, 55, 32, 125]]) := by
  apply ByteArray.ext
  apply Array.ext'
  simp [forS, tx, cat, Pc.bys]
theorem for_catT (a b x : List UInt8) : forT (tx a) (tx b) (tx x) = tx (cat a b [.t [98, 121, 116, 101, 32, 120, 44, 32, 105, 59, 32, 99, 104, 97, 110, 32, 99, 32, 61, 32, 91, 50, 93, 32, 111, 102, 32, 123, 32, 98, 121, 116, 101, 32, 125, 59, 32, 105, 110, 105, 116, 32, 123, 32, 105, 32, 61, 32], .a, .t [59, 32, 100, 111, 32, 58, 58, 32, 105, 32, 60, 61, 32], .b, .t [32, 45, 62, 32], .t x, .t [59, 32, 105, 32, 61, 32, 105, 32, 43, 32, 49, 32, 58, 58, 32, 101, 108, 115, 101, 32, 45, 62, 32, 98, 114, 101, 97, 107, 32, 111, 100, 59, 32, 120, 32, 61, 32, 55, 32, 125]]) := by
  apply ByteArray.ext
  apply Array.ext'
  simp [forT, tx, cat, Pc.bys]
theorem f0_src : ∃ Y Z, Same Y Z ∧ ∀ (A B : Nat) (M : Int), den A B M Y = .string (forS (tx (dec A)) (tx (dec B)) (tx (bodiesL.getD 0 []))) ∧ den A B M Z = .string (forT (tx (dec A)) (tx (dec B)) (tx (bodiesL.getD 0 []))) := by
  refine ⟨_, _, sm_f0, fun A B M => ⟨?_, ?_⟩⟩
  · rw [for_catS]; exact den_src (n := 77) (c := 0x7d2037203d2078203b7d202b2b78207b202902202e2e2001203a20692820726f66207b2074696e69203b7d2065747962207b20666f205d325b203d2063206e616863203b69202c782065747962) (by kernel_rfl) (by decide) (by kernel_rfl) (by kernel_rfl) A B M
  · rw [for_catT]; exact den_src (n := 110) (c := 0x7d2037203d2078203b646f206b61657262203e2d2065736c65203a3a2031202b2069203d2069203b2b2b78203e2d2002203d3c2069203a3a206f64203b01203d2069207b2074696e69203b7d2065747962207b20666f205d325b203d2063206e616863203b69202c782065747962) (by kernel_rfl) (by decide) (by kernel_rfl) (by kernel_rfl) A B M
theorem f1_src : ∃ Y Z, Same Y Z ∧ ∀ (A B : Nat) (M : Int), den A B M Y = .string (forS (tx (dec A)) (tx (dec B)) (tx (bodiesL.getD 1 []))) ∧ den A B M Z = .string (forT (tx (dec A)) (tx (dec B)) (tx (bodiesL.getD 1 []))) := by
  refine ⟨_, _, sm_f1, fun A B M => ⟨?_, ?_⟩⟩
  · rw [for_catS]; exact den_src (n := 79) (c := 0x7d2037203d2078203b7d2069203d2078207b202902202e2e2001203a20692820726f66207b2074696e69203b7d2065747962207b20666f205d325b203d2063206e616863203b69202c782065747962) (by kernel_rfl) (by decide) (by kernel_rfl) (by kernel_rfl) A B M
  · rw [for_catT]; exact den_src (n := 112) (c := 0x7d2037203d2078203b646f206b61657262203e2d2065736c65203a3a2031202b2069203d2069203b69203d2078203e2d2002203d3c2069203a3a206f64203b01203d2069207b2074696e69203b7d2065747962207b20666f205d325b203d2063206e616863203b69202c782065747962) (by kernel_rfl) (by decide) (by kernel_rfl) (by kernel_rfl) A B M
theorem f2_src : ∃ Y Z, Same Y Z ∧ ∀ (A B : Nat) (M : Int), den A B M Y = .string (forS (tx (dec A)) (tx (dec B)) (tx (bodiesL.getD 2 []))) ∧ den A B M Z = .string (forT (tx (dec A)) (tx (dec B)) (tx (bodiesL.getD 2 []))) := by
  refine ⟨_, _, sm_f2, fun A B M => ⟨?_, ?_⟩⟩
  · rw [for_catS]; exact den_src (n := 78) (c := 0x7d2037203d2078203b7d2070696b73207b202902202e2e2001203a20692820726f66207b2074696e69203b7d2065747962207b20666f205d325b203d2063206e616863203b69202c782065747962) (by kernel_rfl) (by decide) (by kernel_rfl) (by kernel_rfl) A B M
  · rw [for_catT]; exact den_src (n := 111) (c := 0x7d2037203d2078203b646f206b61657262203e2d2065736c65203a3a2031202b2069203d2069203b70696b73203e2d2002203d3c2069203a3a206f64203b01203d2069207b2074696e69203b7d2065747962207b20666f205d325b203d2063206e616863203b69202c782065747962) (by kernel_rfl) (by decide) (by kernel_rfl) (by kernel_rfl) A B M
theorem f3_src : ∃ Y Z, Same Y Z ∧ ∀ (A B : Nat) (M : Int), den A B M Y = .string (forS (tx (dec A)) (tx (dec B)) (tx (bodiesL.getD 3 []))) ∧ den A B M Z = .string (forT (tx (dec A)) (tx (dec B)) (tx (bodiesL.getD 3 []))) := by
  refine ⟨_, _, sm_f3, fun A B M => ⟨?_, ?_⟩⟩
  · rw [for_catS]; exact den_src (n := 88) (c := 0x7d2037203d2078203b7d202d2d78203b69202b2078203d2078207b202902202e2e2001203a20692820726f66207b2074696e69203b7d2065747962207b20666f205d325b203d2063206e616863203b69202c782065747962) (by kernel_rfl) (by decide) (by kernel_rfl) (by kernel_rfl) A B M
  · rw [for_catT]; exact den_src (n := 121) (c := 0x7d2037203d2078203b646f206b61657262203e2d2065736c65203a3a2031202b2069203d2069203b2d2d78203b69202b2078203d2078203e2d2002203d3c2069203a3a206f64203b01203d2069207b2074696e69203b7d2065747962207b20666f205d325b203d2063206e616863203b69202c782065747962) (by kernel_rfl) (by decide) (by kernel_rfl) (by kernel_rfl) A B M
theorem f4_src : ∃ Y Z, Same Y Z ∧ ∀ (A B : Nat) (M : Int), den A B M Y = .string (forS (tx (dec A)) (tx (dec B)) (tx (bodiesL.getD 4 []))) ∧ den A B M Z = .string (forT (tx (dec A)) (tx (dec B)) (tx (bodiesL.getD 4 []))) := by
  refine ⟨_, _, sm_f4, fun A B M => ⟨?_, ?_⟩⟩
  · rw [for_catS]; exact den_src (n := 105) (c := 0x7d2037203d2078203b7d2069662065736c65203a3a2030203d2078203e2d2032203e2078203a3a206669207b202902202e2e2001203a20692820726f66207b2074696e69203b7d2065747962207b20666f205d325b203d2063206e616863203b69202c782065747962) (by kernel_rfl) (by decide) (by kernel_rfl) (by kernel_rfl) A B M
  · rw [for_catT]; exact den_src (n := 138) (c := 0x7d2037203d2078203b646f206b61657262203e2d2065736c65203a3a2031202b2069203d2069203b69662065736c65203a3a2030203d2078203e2d2032203e2078203a3a206669203e2d2002203d3c2069203a3a206f64203b01203d2069207b2074696e69203b7d2065747962207b20666f205d325b203d2063206e616863203b69202c782065747962) (by kernel_rfl) (by decide) (by kernel_rfl) (by kernel_rfl) A B M
theorem f5_src : ∃ Y Z, Same Y Z ∧ ∀ (A B : Nat) (M : Int), den A B M Y = .string (forS (tx (dec A)) (tx (dec B)) (tx (bodiesL.getD 5 []))) ∧ den A B M Z = .string (forT (tx (dec A)) (tx (dec B)) (tx (bodiesL.getD 5 []))) := by
  refine ⟨_, _, sm_f5, fun A B M => ⟨?_, ?_⟩⟩
  · rw [for_catS]; exact den_src (n := 93) (c := 0x7d2037203d2078203b7d207d202b2b78203b2b2b78207b2063696d6f7461207b202902202e2e2001203a20692820726f66207b2074696e69203b7d2065747962207b20666f205d325b203d2063206e616863203b69202c782065747962) (by kernel_rfl) (by decide) (by kernel_rfl) (by kernel_rfl) A B M
  · rw [for_catT]; exact den_src (n := 126) (c := 0x7d2037203d2078203b646f206b61657262203e2d2065736c65203a3a2031202b2069203d2069203b7d202b2b78203b2b2b78207b2063696d6f7461203e2d2002203d3c2069203a3a206f64203b01203d2069207b2074696e69203b7d2065747962207b20666f205d325b203d2063206e616863203b69202c782065747962) (by kernel_rfl) (by decide) (by kernel_rfl) (by kernel_rfl) A B M
theorem f6_src : ∃ Y Z, Same Y Z ∧ ∀ (A B : Nat) (M : Int), den A B M Y = .string (forS (tx (dec A)) (tx (dec B)) (tx (bodiesL.getD 6 []))) ∧ den A B M Z = .string (forT (tx (dec A)) (tx (dec B)) (tx (bodiesL.getD 6 []))) := by
  refine ⟨_, _, sm_f6, fun A B M => ⟨?_, ?_⟩⟩
  · rw [for_catS]; exact den_src (n := 96) (c := 0x7d2037203d2078203b7d2032203e2069207373656c6e75207d2031203d2078207b207b202902202e2e2001203a20692820726f66207b2074696e69203b7d2065747962207b20666f205d325b203d2063206e616863203b69202c782065747962) (by kernel_rfl) (by decide) (by kernel_rfl) (by kernel_rfl) A B M
  · rw [for_catT]; exact den_src (n := 129) (c := 0x7d2037203d2078203b646f206b61657262203e2d2065736c65203a3a2031202b2069203d2069203b32203e2069207373656c6e75207d2031203d2078207b203e2d2002203d3c2069203a3a206f64203b01203d2069207b2074696e69203b7d2065747962207b20666f205d325b203d2063206e616863203b69202c782065747962) (by kernel_rfl) (by decide) (by kernel_rfl) (by kernel_rfl) A B M
theorem f7_src : ∃ Y Z, Same Y Z ∧ ∀ (A B : Nat) (M : Int), den A B M Y = .string (forS (tx (dec A)) (tx (dec B)) (tx (bodiesL.getD 7 []))) ∧ den A B M Z = .string (forT (tx (dec A)) (tx (dec B)) (tx (bodiesL.getD 7 []))) := by
  refine ⟨_, _, sm_f7, fun A B M => ⟨?_, ?_⟩⟩
  · rw [for_catS]; exact den_src (n := 79) (c := 0x7d2037203d2078203b7d206920212063207b202902202e2e2001203a20692820726f66207b2074696e69203b7d2065747962207b20666f205d325b203d2063206e616863203b69202c782065747962) (by kernel_rfl) (by decide) (by kernel_rfl) (by kernel_rfl) A B M
  · rw [for_catT]; exact den_src (n := 112) (c := 0x7d2037203d2078203b646f206b61657262203e2d2065736c65203a3a2031202b2069203d2069203b6920212063203e2d2002203d3c2069203a3a206f64203b01203d2069207b2074696e69203b7d2065747962207b20666f205d325b203d2063206e616863203b69202c782065747962) (by kernel_rfl) (by decide) (by kernel_rfl) (by kernel_rfl) A B M
theorem f8_src : ∃ Y Z, Same Y Z ∧ ∀ (A B : Nat) (M : Int), den A B M Y = .string (forS (tx (dec A)) (tx (dec B)) (tx (bodiesL.getD 8 []))) ∧ den A B M Z = .string (forT (tx (dec A)) (tx (dec B)) (tx (bodiesL.getD 8 []))) := by
  refine ⟨_, _, sm_f8, fun A B M => ⟨?_, ?_⟩⟩
  · rw [for_catS]; exact den_src (n := 79) (c := 0x7d2037203d2078203b7d2078203f2063207b202902202e2e2001203a20692820726f66207b2074696e69203b7d2065747962207b20666f205d325b203d2063206e616863203b69202c782065747962) (by kernel_rfl) (by decide) (by kernel_rfl) (by kernel_rfl) A B M
  · rw [for_catT]; exact den_src (n := 112) (c := 0x7d2037203d2078203b646f206b61657262203e2d2065736c65203a3a2031202b2069203d2069203b78203f2063203e2d2002203d3c2069203a3a206f64203b01203d2069207b2074696e69203b7d2065747962207b20666f205d325b203d2063206e616863203b69202c782065747962) (by kernel_rfl) (by decide) (by kernel_rfl) (by kernel_rfl) A B M
theorem for_all (n : Int) : ∃ Y Z, Same Y Z ∧ ∀ (A B : Nat) (M : Int), den A B M Y = .string (forS (tx (dec A)) (tx (dec B)) (tx (bodyL n))) ∧ den A B M Z = .string (forT (tx (dec A)) (tx (dec B)) (tx (bodyL n))) := by
  unfold bodyL
  have hk : (n % 9).toNat < 9 := by omega
  generalize (n % 9).toNat = k at *
  match k, hk with
  | 0, _ => exact f0_src
  | 1, _ => exact f1_src
  | 2, _ => exact f2_src
  | 3, _ => exact f3_src
  | 4, _ => exact f4_src
  | 5, _ => exact f5_src
  | 6, _ => exact f6_src
  | 7, _ => exact f7_src
  | 8, _ => exact f8_src
theorem for_true {W : World} (hl : laidMetH Tryz.prog Rows.compileForRow.laid W) (hs : W.ShapedOpen Tryz.prog) {a b n : Int} (hn : -9223372036854775808 ≤ n ∧ n ≤ 9223372036854775807) :
    Calls Tryz.prog 3 #[.int .i64 a, .int .i64 b, .int .i64 n] W fun e w' => e = .returned (.bool true) ∧ Below W.heap.size W w' := by
  obtain ⟨ρ, M, hρ, s⟩ := start_of hl hs (half_lt a) (half_lt b)
  obtain ⟨Y, Z, H, hd⟩ := for_all n
  exact for_walk hn (fun w hb => awake_any hρ s woke w hb) (fun w hb => comp_any hρ s H (hd _ _ M).1 w hb) (fun w hb => same_any hρ s H (hd _ _ M).1 (hd _ _ M).2 w hb)
end Go.Ev
