/- CompileSelect: what it says, out of its cases. -/
import Derived.Test.YthhgndcpeeifeaaGreatDoorKA
import Derived.Test.YthhgndcpeeifeaaGreatDoorS0
import Derived.Test.YthhgndcpeeifeaaGreatDoorS1
import Derived.Test.YthhgndcpeeifeaaGreatDoorS2
import Derived.Test.YthhgndcpeeifeaaGreatDoorS3
import Derived.Test.YthhgndcpeeifeaaGreatDoorS4
import Derived.Test.YthhgndcpeeifeaaGreatDoorS5
import Derived.Test.YthhgndcpeeifeaaGreatDoorS6
import Derived.Test.YthhgndcpeeifeaaGreatDoorS7
import Derived.Test.YthhgndcpeeifeaaGreatDoorS8
namespace Go.Ev
open Go Go.RowKit Go.Proofs Go.Proofs.YthhgndcpeeifeaaGreatDoor
theorem sel_catS (a b x : List UInt8) : selS (tx a) (tx b) (tx x) = tx (cat a b [.t [98, 121, 116, 101, 32, 120, 44, 32, 105, 59, 32, 99, 104, 97, 110, 32, 99, 32, 61, 32, 91, 50, 93, 32, 111, 102, 32, 123, 32, 98, 121, 116, 101, 32, 125, 59, 32, 105, 110, 105, 116, 32, 123, 32], .t x, .t [59, 32, 115, 101, 108, 101, 99, 116, 32, 40, 105, 32, 58, 32], .a, .t [32, 46, 46, 32], .b, .t [41, 59, 32, 120, 32, 61, 32, 55, 32, 125]]) := by
  apply ByteArray.ext
  apply Array.ext'
  simp [selS, tx, cat, Pc.bys]
theorem sel_catT (a b x : List UInt8) : selT (tx a) (tx b) (tx x) = tx (cat a b [.t [98, 121, 116, 101, 32, 120, 44, 32, 105, 59, 32, 99, 104, 97, 110, 32, 99, 32, 61, 32, 91, 50, 93, 32, 111, 102, 32, 123, 32, 98, 121, 116, 101, 32, 125, 59, 32, 105, 110, 105, 116, 32, 123, 32], .t x, .t [59, 32, 105, 32, 61, 32], .a, .t [59, 32, 100, 111, 32, 58, 58, 32, 105, 32, 60, 32], .b, .t [32, 45, 62, 32, 105, 43, 43, 32, 58, 58, 32, 98, 114, 101, 97, 107, 32, 111, 100, 59, 32, 120, 32, 61, 32, 55, 32, 125]]) := by
  apply ByteArray.ext
  apply Array.ext'
  simp [selT, tx, cat, Pc.bys]
theorem s0_src : ∃ Y Z, Same Y Z ∧ ∀ (A B : Nat) (M : Int), den A B M Y = .string (selS (tx (dec A)) (tx (dec B)) (tx (bodiesL.getD 0 []))) ∧ den A B M Z = .string (selT (tx (dec A)) (tx (dec B)) (tx (bodiesL.getD 0 []))) := by
  refine ⟨_, _, sm_s0, fun A B M => ⟨?_, ?_⟩⟩
  · rw [sel_catS]; exact den_src (n := 77) (c := 0x7d2037203d2078203b2902202e2e2001203a206928207463656c6573203b2b2b78207b2074696e69203b7d2065747962207b20666f205d325b203d2063206e616863203b69202c782065747962) (by kernel_rfl) (by decide) (by kernel_rfl) (by kernel_rfl) A B M
  · rw [sel_catT]; exact den_src (n := 95) (c := 0x7d2037203d2078203b646f206b61657262203a3a202b2b69203e2d2002203c2069203a3a206f64203b01203d2069203b2b2b78207b2074696e69203b7d2065747962207b20666f205d325b203d2063206e616863203b69202c782065747962) (by kernel_rfl) (by decide) (by kernel_rfl) (by kernel_rfl) A B M
theorem s1_src : ∃ Y Z, Same Y Z ∧ ∀ (A B : Nat) (M : Int), den A B M Y = .string (selS (tx (dec A)) (tx (dec B)) (tx (bodiesL.getD 1 []))) ∧ den A B M Z = .string (selT (tx (dec A)) (tx (dec B)) (tx (bodiesL.getD 1 []))) := by
  refine ⟨_, _, sm_s1, fun A B M => ⟨?_, ?_⟩⟩
  · rw [sel_catS]; exact den_src (n := 79) (c := 0x7d2037203d2078203b2902202e2e2001203a206928207463656c6573203b69203d2078207b2074696e69203b7d2065747962207b20666f205d325b203d2063206e616863203b69202c782065747962) (by kernel_rfl) (by decide) (by kernel_rfl) (by kernel_rfl) A B M
  · rw [sel_catT]; exact den_src (n := 97) (c := 0x7d2037203d2078203b646f206b61657262203a3a202b2b69203e2d2002203c2069203a3a206f64203b01203d2069203b69203d2078207b2074696e69203b7d2065747962207b20666f205d325b203d2063206e616863203b69202c782065747962) (by kernel_rfl) (by decide) (by kernel_rfl) (by kernel_rfl) A B M
theorem s2_src : ∃ Y Z, Same Y Z ∧ ∀ (A B : Nat) (M : Int), den A B M Y = .string (selS (tx (dec A)) (tx (dec B)) (tx (bodiesL.getD 2 []))) ∧ den A B M Z = .string (selT (tx (dec A)) (tx (dec B)) (tx (bodiesL.getD 2 []))) := by
  refine ⟨_, _, sm_s2, fun A B M => ⟨?_, ?_⟩⟩
  · rw [sel_catS]; exact den_src (n := 78) (c := 0x7d2037203d2078203b2902202e2e2001203a206928207463656c6573203b70696b73207b2074696e69203b7d2065747962207b20666f205d325b203d2063206e616863203b69202c782065747962) (by kernel_rfl) (by decide) (by kernel_rfl) (by kernel_rfl) A B M
  · rw [sel_catT]; exact den_src (n := 96) (c := 0x7d2037203d2078203b646f206b61657262203a3a202b2b69203e2d2002203c2069203a3a206f64203b01203d2069203b70696b73207b2074696e69203b7d2065747962207b20666f205d325b203d2063206e616863203b69202c782065747962) (by kernel_rfl) (by decide) (by kernel_rfl) (by kernel_rfl) A B M
theorem s3_src : ∃ Y Z, Same Y Z ∧ ∀ (A B : Nat) (M : Int), den A B M Y = .string (selS (tx (dec A)) (tx (dec B)) (tx (bodiesL.getD 3 []))) ∧ den A B M Z = .string (selT (tx (dec A)) (tx (dec B)) (tx (bodiesL.getD 3 []))) := by
  refine ⟨_, _, sm_s3, fun A B M => ⟨?_, ?_⟩⟩
  · rw [sel_catS]; exact den_src (n := 88) (c := 0x7d2037203d2078203b2902202e2e2001203a206928207463656c6573203b2d2d78203b69202b2078203d2078207b2074696e69203b7d2065747962207b20666f205d325b203d2063206e616863203b69202c782065747962) (by kernel_rfl) (by decide) (by kernel_rfl) (by kernel_rfl) A B M
  · rw [sel_catT]; exact den_src (n := 106) (c := 0x7d2037203d2078203b646f206b61657262203a3a202b2b69203e2d2002203c2069203a3a206f64203b01203d2069203b2d2d78203b69202b2078203d2078207b2074696e69203b7d2065747962207b20666f205d325b203d2063206e616863203b69202c782065747962) (by kernel_rfl) (by decide) (by kernel_rfl) (by kernel_rfl) A B M
theorem s4_src : ∃ Y Z, Same Y Z ∧ ∀ (A B : Nat) (M : Int), den A B M Y = .string (selS (tx (dec A)) (tx (dec B)) (tx (bodiesL.getD 4 []))) ∧ den A B M Z = .string (selT (tx (dec A)) (tx (dec B)) (tx (bodiesL.getD 4 []))) := by
  refine ⟨_, _, sm_s4, fun A B M => ⟨?_, ?_⟩⟩
  · rw [sel_catS]; exact den_src (n := 105) (c := 0x7d2037203d2078203b2902202e2e2001203a206928207463656c6573203b69662065736c65203a3a2030203d2078203e2d2032203e2078203a3a206669207b2074696e69203b7d2065747962207b20666f205d325b203d2063206e616863203b69202c782065747962) (by kernel_rfl) (by decide) (by kernel_rfl) (by kernel_rfl) A B M
  · rw [sel_catT]; exact den_src (n := 123) (c := 0x7d2037203d2078203b646f206b61657262203a3a202b2b69203e2d2002203c2069203a3a206f64203b01203d2069203b69662065736c65203a3a2030203d2078203e2d2032203e2078203a3a206669207b2074696e69203b7d2065747962207b20666f205d325b203d2063206e616863203b69202c782065747962) (by kernel_rfl) (by decide) (by kernel_rfl) (by kernel_rfl) A B M
theorem s5_src : ∃ Y Z, Same Y Z ∧ ∀ (A B : Nat) (M : Int), den A B M Y = .string (selS (tx (dec A)) (tx (dec B)) (tx (bodiesL.getD 5 []))) ∧ den A B M Z = .string (selT (tx (dec A)) (tx (dec B)) (tx (bodiesL.getD 5 []))) := by
  refine ⟨_, _, sm_s5, fun A B M => ⟨?_, ?_⟩⟩
  · rw [sel_catS]; exact den_src (n := 93) (c := 0x7d2037203d2078203b2902202e2e2001203a206928207463656c6573203b7d202b2b78203b2b2b78207b2063696d6f7461207b2074696e69203b7d2065747962207b20666f205d325b203d2063206e616863203b69202c782065747962) (by kernel_rfl) (by decide) (by kernel_rfl) (by kernel_rfl) A B M
  · rw [sel_catT]; exact den_src (n := 111) (c := 0x7d2037203d2078203b646f206b61657262203a3a202b2b69203e2d2002203c2069203a3a206f64203b01203d2069203b7d202b2b78203b2b2b78207b2063696d6f7461207b2074696e69203b7d2065747962207b20666f205d325b203d2063206e616863203b69202c782065747962) (by kernel_rfl) (by decide) (by kernel_rfl) (by kernel_rfl) A B M
theorem s6_src : ∃ Y Z, Same Y Z ∧ ∀ (A B : Nat) (M : Int), den A B M Y = .string (selS (tx (dec A)) (tx (dec B)) (tx (bodiesL.getD 6 []))) ∧ den A B M Z = .string (selT (tx (dec A)) (tx (dec B)) (tx (bodiesL.getD 6 []))) := by
  refine ⟨_, _, sm_s6, fun A B M => ⟨?_, ?_⟩⟩
  · rw [sel_catS]; exact den_src (n := 96) (c := 0x7d2037203d2078203b2902202e2e2001203a206928207463656c6573203b32203e2069207373656c6e75207d2031203d2078207b207b2074696e69203b7d2065747962207b20666f205d325b203d2063206e616863203b69202c782065747962) (by kernel_rfl) (by decide) (by kernel_rfl) (by kernel_rfl) A B M
  · rw [sel_catT]; exact den_src (n := 114) (c := 0x7d2037203d2078203b646f206b61657262203a3a202b2b69203e2d2002203c2069203a3a206f64203b01203d2069203b32203e2069207373656c6e75207d2031203d2078207b207b2074696e69203b7d2065747962207b20666f205d325b203d2063206e616863203b69202c782065747962) (by kernel_rfl) (by decide) (by kernel_rfl) (by kernel_rfl) A B M
theorem s7_src : ∃ Y Z, Same Y Z ∧ ∀ (A B : Nat) (M : Int), den A B M Y = .string (selS (tx (dec A)) (tx (dec B)) (tx (bodiesL.getD 7 []))) ∧ den A B M Z = .string (selT (tx (dec A)) (tx (dec B)) (tx (bodiesL.getD 7 []))) := by
  refine ⟨_, _, sm_s7, fun A B M => ⟨?_, ?_⟩⟩
  · rw [sel_catS]; exact den_src (n := 79) (c := 0x7d2037203d2078203b2902202e2e2001203a206928207463656c6573203b6920212063207b2074696e69203b7d2065747962207b20666f205d325b203d2063206e616863203b69202c782065747962) (by kernel_rfl) (by decide) (by kernel_rfl) (by kernel_rfl) A B M
  · rw [sel_catT]; exact den_src (n := 97) (c := 0x7d2037203d2078203b646f206b61657262203a3a202b2b69203e2d2002203c2069203a3a206f64203b01203d2069203b6920212063207b2074696e69203b7d2065747962207b20666f205d325b203d2063206e616863203b69202c782065747962) (by kernel_rfl) (by decide) (by kernel_rfl) (by kernel_rfl) A B M
theorem s8_src : ∃ Y Z, Same Y Z ∧ ∀ (A B : Nat) (M : Int), den A B M Y = .string (selS (tx (dec A)) (tx (dec B)) (tx (bodiesL.getD 8 []))) ∧ den A B M Z = .string (selT (tx (dec A)) (tx (dec B)) (tx (bodiesL.getD 8 []))) := by
  refine ⟨_, _, sm_s8, fun A B M => ⟨?_, ?_⟩⟩
  · rw [sel_catS]; exact den_src (n := 79) (c := 0x7d2037203d2078203b2902202e2e2001203a206928207463656c6573203b78203f2063207b2074696e69203b7d2065747962207b20666f205d325b203d2063206e616863203b69202c782065747962) (by kernel_rfl) (by decide) (by kernel_rfl) (by kernel_rfl) A B M
  · rw [sel_catT]; exact den_src (n := 97) (c := 0x7d2037203d2078203b646f206b61657262203a3a202b2b69203e2d2002203c2069203a3a206f64203b01203d2069203b78203f2063207b2074696e69203b7d2065747962207b20666f205d325b203d2063206e616863203b69202c782065747962) (by kernel_rfl) (by decide) (by kernel_rfl) (by kernel_rfl) A B M
theorem sel_all (n : Int) : ∃ Y Z, Same Y Z ∧ ∀ (A B : Nat) (M : Int), den A B M Y = .string (selS (tx (dec A)) (tx (dec B)) (tx (bodyL n))) ∧ den A B M Z = .string (selT (tx (dec A)) (tx (dec B)) (tx (bodyL n))) := by
  unfold bodyL
  have hk : (n % 9).toNat < 9 := by omega
  generalize (n % 9).toNat = k at *
  match k, hk with
  | 0, _ => exact s0_src
  | 1, _ => exact s1_src
  | 2, _ => exact s2_src
  | 3, _ => exact s3_src
  | 4, _ => exact s4_src
  | 5, _ => exact s5_src
  | 6, _ => exact s6_src
  | 7, _ => exact s7_src
  | 8, _ => exact s8_src
theorem sel_true {W : World} (hl : laidMetH Tryz.prog Rows.compileForRow.laid W) (hs : W.ShapedOpen Tryz.prog) {a b n : Int} (hn : -9223372036854775808 ≤ n ∧ n ≤ 9223372036854775807) :
    Calls Tryz.prog 4 #[.int .i64 a, .int .i64 b, .int .i64 n] W fun e w' => e = .returned (.bool true) ∧ Below W.heap.size W w' := by
  obtain ⟨ρ, M, hρ, s⟩ := start_of hl hs (half_lt a) (half_lt b)
  obtain ⟨Y, Z, H, hd⟩ := sel_all n
  exact sel_walk hn (fun w hb => awake_any hρ s woke w hb) (fun w hb => comp_any hρ s H (hd _ _ M).1 w hb) (fun w hb => same_any hρ s H (hd _ _ M).1 (hd _ _ M).2 w hb)
end Go.Ev
