/- Part of the proof of SyntaxLooseCardSaid (Shelf). -/
import Derived.Shelf.Small.Strs
import Derived.Shelf.LaysM
import Derived.Shelf.Strconv.Clone
import Derived.Shelf.Strings.Search1
import Derived.Shelf.Strings.Search2
import Derived.Shelf.Strings.Search3
import Derived.Shelf.Strings.Cut
import Derived.Shelf.Strings.Prefix
import Derived.Shelf.Strings.Fields
import Derived.Shelf.Slices.Turned
import Derived.Test.YthkebhjaaikopaaGreatDoorProg
namespace Go.Proofs
open Go.Shelf
def Tryz.lays137_ren : Go.Shelf.Ren := ⟨fun | 137 => 119 | 217 => 154 | 266 => 175 | n => n, fun | 9 => 9 | 5 => 5 | 3 => 3 | n => n, fun | n => n⟩
theorem Tryz.lays137 : Go.Proofs.Lays.n137 Tryz.prog Tryz.lays137_ren := {
 mixed := by kernel_rfl
 f137 := Tryz.func119.trans (congrArg some (by kernel_rfl))
 f217 := Tryz.func154.trans (congrArg some (by kernel_rfl))
 f266 := Tryz.func175.trans (congrArg some (by kernel_rfl))
 t3 := Tryz.underlying3
 a3 := Tryz.isAgg3
 z3 := Tryz.sizeOf3
 v3 := Tryz.zeroValue3
 t5 := Tryz.underlying5
 a5 := Tryz.isAgg5
 z5 := Tryz.sizeOf5
 v5 := Tryz.zeroValue5
 t9 := Tryz.underlying9
 a9 := Tryz.isAgg9
 z9 := Tryz.sizeOf9
 v9 := Tryz.zeroValue9 }
open Go.RowKit in
theorem Tryz.strings_IndexByte (s : ByteArray) (c : Int) (w : World) :
 Calls Tryz.prog 119 #[.string s, .int .u8 c] w fun e w' => e = .returned (.int .i64 (Lib.indexByte s.data.toList c.toNat.toUInt8)) ∧ w' = w := Any.strings_IndexByte Tryz.lays137 s c w
def Tryz.laysM316_ren : Go.Shelf.Ren := ⟨fun | 316 => 108 | n => n, fun | 9 => 9 | 3 => 3 | 4 => 4 | 37 => 173 | 0 => 0 | 127 => 174 | 5 => 5 | n => n, fun | n => n⟩
theorem Tryz.laysM316 : Go.Proofs.LaysM.n316 Tryz.prog Tryz.laysM316_ren := {
 mixed := by kernel_rfl
 f316 := Tryz.func108.trans (congrArg some (by kernel_rfl))
 t0 := Tryz.underlying0
 a0 := Tryz.isAgg0
 z0 := Tryz.sizeOf0
 v0 := Tryz.zeroValue0
 t3 := Tryz.underlying3
 a3 := Tryz.isAgg3
 z3 := Tryz.sizeOf3
 v3 := Tryz.zeroValue3
 t4 := Tryz.underlying4
 a4 := Tryz.isAgg4
 z4 := Tryz.sizeOf4
 v4 := Tryz.zeroValue4
 t9 := Tryz.underlying9
 a9 := Tryz.isAgg9
 z9 := Tryz.sizeOf9
 v9 := Tryz.zeroValue9
 t37 := Tryz.underlying173
 a37 := Tryz.isAgg173
 z37 := Tryz.sizeOf173
 v37 := Tryz.zeroValue173
 t127 := Tryz.underlying174
 a127 := Tryz.isAgg174
 z127 := Tryz.sizeOf174
 v127 := Tryz.zeroValue174
 t5 := Tryz.underlying5
 a5 := Tryz.isAgg5
 z5 := Tryz.sizeOf5
 v5 := Tryz.zeroValue5
 i0 := by kernel_rfl
 i3 := by kernel_rfl
 i4 := by kernel_rfl
 i5 := by kernel_rfl
 i9 := by kernel_rfl
 i37 := by kernel_rfl
 i127 := by kernel_rfl }
open Go.RowKit in
theorem Tryz.stringslite_Clone (s : ByteArray) (w : World) (hlim : s.size ≤ 281474976710656) :
 Calls Tryz.prog 108 #[.string s] w fun e w' => e = .returned (.string s) ∧ Below w.heap.size w w' := Any.stringslite_Clone Tryz.laysM316 s w hlim
def Tryz.lays143_ren : Go.Shelf.Ren := ⟨fun | 143 => 121 | 219 => 156 | 217 => 154 | 225 => 176 | 224 => 177 | 267 => 178 | 266 => 175 | 314 => 197 | n => n, fun | 9 => 9 | 3 => 3 | 4 => 4 | 5 => 5 | 46 => 186 | 146 => 199 | 51 => 123 | n => n, fun | 1 => 4 | n => n⟩
theorem Tryz.lays143 : Go.Proofs.Lays.n143 Tryz.prog Tryz.lays143_ren := {
 mixed := by kernel_rfl
 f143 := Tryz.func121.trans (congrArg some (by kernel_rfl))
 f217 := Tryz.func154.trans (congrArg some (by kernel_rfl))
 f219 := Tryz.func156.trans (congrArg some (by kernel_rfl))
 f224 := Tryz.func177.trans (congrArg some (by kernel_rfl))
 f225 := Tryz.func176.trans (congrArg some (by kernel_rfl))
 f266 := Tryz.func175.trans (congrArg some (by kernel_rfl))
 f267 := Tryz.func178.trans (congrArg some (by kernel_rfl))
 f314 := Tryz.func197.trans (congrArg some (by kernel_rfl))
 t3 := Tryz.underlying3
 a3 := Tryz.isAgg3
 z3 := Tryz.sizeOf3
 v3 := Tryz.zeroValue3
 t4 := Tryz.underlying4
 a4 := Tryz.isAgg4
 z4 := Tryz.sizeOf4
 v4 := Tryz.zeroValue4
 t5 := Tryz.underlying5
 a5 := Tryz.isAgg5
 z5 := Tryz.sizeOf5
 v5 := Tryz.zeroValue5
 t9 := Tryz.underlying9
 a9 := Tryz.isAgg9
 z9 := Tryz.sizeOf9
 v9 := Tryz.zeroValue9
 t46 := Tryz.underlying186
 a46 := Tryz.isAgg186
 z46 := Tryz.sizeOf186
 v46 := Tryz.zeroValue186
 t51 := Tryz.underlying123
 a51 := Tryz.isAgg123
 z51 := Tryz.sizeOf123
 v51 := Tryz.zeroValue123
 t146 := Tryz.underlying199
 a146 := Tryz.isAgg199
 z146 := Tryz.sizeOf199
 v146 := Tryz.zeroValue199
 g1 := by kernel_rfl }
open Go.RowKit Go.Lib in
theorem Tryz.strings_Index (s jh : ByteArray) (m : Int) (w : World) (hs : s.size < 4294967281) (hm : w.cell? ⟨4, 0, none⟩ = some (.int .i64 m)) :
 Calls Tryz.prog 121 #[.string s, .string jh] w fun e w' => e = .returned (.int .i64 (Lib.index s.data.toList jh.data.toList)) ∧ w' = w := Any.strings_Index Tryz.lays143 s jh m w hs hm
def Tryz.lays145_ren : Go.Shelf.Ren := ⟨fun | 145 => 157 | 220 => 179 | 219 => 156 | 217 => 154 | 225 => 176 | 224 => 177 | 267 => 178 | 266 => 175 | 314 => 197 | n => n, fun | 9 => 9 | 4 => 4 | 59 => 175 | 3 => 3 | 5 => 5 | 46 => 186 | 146 => 199 | 51 => 123 | n => n, fun | 1 => 4 | n => n⟩
theorem Tryz.lays145 : Go.Proofs.Lays.n145 Tryz.prog Tryz.lays145_ren := {
 mixed := by kernel_rfl
 f145 := Tryz.func157.trans (congrArg some (by kernel_rfl))
 f217 := Tryz.func154.trans (congrArg some (by kernel_rfl))
 f219 := Tryz.func156.trans (congrArg some (by kernel_rfl))
 f220 := Tryz.func179.trans (congrArg some (by kernel_rfl))
 f224 := Tryz.func177.trans (congrArg some (by kernel_rfl))
 f225 := Tryz.func176.trans (congrArg some (by kernel_rfl))
 f266 := Tryz.func175.trans (congrArg some (by kernel_rfl))
 f267 := Tryz.func178.trans (congrArg some (by kernel_rfl))
 f314 := Tryz.func197.trans (congrArg some (by kernel_rfl))
 t3 := Tryz.underlying3
 a3 := Tryz.isAgg3
 z3 := Tryz.sizeOf3
 v3 := Tryz.zeroValue3
 t4 := Tryz.underlying4
 a4 := Tryz.isAgg4
 z4 := Tryz.sizeOf4
 v4 := Tryz.zeroValue4
 t5 := Tryz.underlying5
 a5 := Tryz.isAgg5
 z5 := Tryz.sizeOf5
 v5 := Tryz.zeroValue5
 t9 := Tryz.underlying9
 a9 := Tryz.isAgg9
 z9 := Tryz.sizeOf9
 v9 := Tryz.zeroValue9
 t46 := Tryz.underlying186
 a46 := Tryz.isAgg186
 z46 := Tryz.sizeOf186
 v46 := Tryz.zeroValue186
 t51 := Tryz.underlying123
 a51 := Tryz.isAgg123
 z51 := Tryz.sizeOf123
 v51 := Tryz.zeroValue123
 t59 := Tryz.underlying175
 a59 := Tryz.isAgg175
 z59 := Tryz.sizeOf175
 v59 := Tryz.zeroValue175
 t146 := Tryz.underlying199
 a146 := Tryz.isAgg199
 z146 := Tryz.sizeOf199
 v146 := Tryz.zeroValue199
 g1 := by kernel_rfl }
open Go.RowKit Go.Lib in
theorem Tryz.strings_Cut (s sep : ByteArray) (m : Int) (w : World) (hs : s.size < 4294967281) (hm : w.cell? ⟨4, 0, none⟩ = some (.int .i64 m)) :
 Calls Tryz.prog 157 #[.string s, .string sep] w fun e w' => e = .returned (.tuple #[.string ⟨(Lib.cut s.data.toList sep.data.toList).1.toArray⟩, .string ⟨(Lib.cut s.data.toList sep.data.toList).2.1.toArray⟩, .bool (Lib.cut s.data.toList sep.data.toList).2.2]) ∧ ∃ n, w' = w.drewN n := Any.strings_Cut Tryz.lays145 s sep m w hs hm
def Tryz.lays99_ren : Go.Shelf.Ren := ⟨fun | 99 => 120 | 206 => 155 | n => n, fun | 9 => 9 | 4 => 4 | 3 => 3 | n => n, fun | n => n⟩
theorem Tryz.lays99 : Go.Proofs.Lays.n99 Tryz.prog Tryz.lays99_ren := {
 mixed := by kernel_rfl
 f99 := Tryz.func120.trans (congrArg some (by kernel_rfl))
 f206 := Tryz.func155.trans (congrArg some (by kernel_rfl))
 t3 := Tryz.underlying3
 a3 := Tryz.isAgg3
 z3 := Tryz.sizeOf3
 v3 := Tryz.zeroValue3
 t4 := Tryz.underlying4
 a4 := Tryz.isAgg4
 z4 := Tryz.sizeOf4
 v4 := Tryz.zeroValue4
 t9 := Tryz.underlying9
 a9 := Tryz.isAgg9
 z9 := Tryz.sizeOf9
 v9 := Tryz.zeroValue9 }
open Go.RowKit Go.Lib in
theorem Tryz.strings_HasPrefix (s p : ByteArray) (w : World) :
 Calls Tryz.prog 120 #[.string s, .string p] w fun e w' => e = .returned (.bool (Lib.hasPrefix s.data.toList p.data.toList)) ∧ w' = w := Any.strings_HasPrefix Tryz.lays99 s p w
def Tryz.lays157_ren : Go.Shelf.Ren := ⟨fun | 157 => 20 | 229 => 42 | 199 => 43 | 261 => 97 | 311 => 140 | 312 => 141 | n => n, fun | 9 => 9 | 31 => 53 | 3 => 3 | 5 => 5 | 4 => 4 | 119 => 80 | 0 => 0 | 40 => 82 | 152 => 120 | 21 => 21 | 154 => 122 | 51 => 123 | 141 => 125 | 196 => 164 | 193 => 161 | 198 => 167 | 49 => 165 | 194 => 162 | 201 => 170 | 226 => 185 | 46 => 186 | 227 => 187 | n => n, fun | 0 => 0 | 6 => 1 | n => n⟩
theorem Tryz.lays157 : Go.Proofs.Lays.n157 Tryz.prog Tryz.lays157_ren := {
 mixed := by kernel_rfl
 f157 := Tryz.func20.trans (congrArg some (by kernel_rfl))
 f199 := Tryz.func43.trans (congrArg some (by kernel_rfl))
 f229 := Tryz.func42.trans (congrArg some (by kernel_rfl))
 f261 := Tryz.func97.trans (congrArg some (by kernel_rfl))
 f311 := Tryz.func140.trans (congrArg some (by kernel_rfl))
 f312 := Tryz.func141.trans (congrArg some (by kernel_rfl))
 t0 := Tryz.underlying0
 a0 := Tryz.isAgg0
 z0 := Tryz.sizeOf0
 v0 := Tryz.zeroValue0
 t3 := Tryz.underlying3
 a3 := Tryz.isAgg3
 z3 := Tryz.sizeOf3
 v3 := Tryz.zeroValue3
 t4 := Tryz.underlying4
 a4 := Tryz.isAgg4
 z4 := Tryz.sizeOf4
 v4 := Tryz.zeroValue4
 t5 := Tryz.underlying5
 a5 := Tryz.isAgg5
 z5 := Tryz.sizeOf5
 v5 := Tryz.zeroValue5
 t9 := Tryz.underlying9
 a9 := Tryz.isAgg9
 z9 := Tryz.sizeOf9
 v9 := Tryz.zeroValue9
 t21 := Tryz.underlying21
 a21 := Tryz.isAgg21
 z21 := Tryz.sizeOf21
 v21 := Tryz.zeroValue21
 t31 := Tryz.underlying53
 a31 := Tryz.isAgg53
 z31 := Tryz.sizeOf53
 v31 := Tryz.zeroValue53
 t40 := Tryz.underlying82
 a40 := Tryz.isAgg82
 z40 := Tryz.sizeOf82
 v40 := Tryz.zeroValue82
 t46 := Tryz.underlying186
 a46 := Tryz.isAgg186
 z46 := Tryz.sizeOf186
 v46 := Tryz.zeroValue186
 t49 := Tryz.underlying165
 a49 := Tryz.isAgg165
 z49 := Tryz.sizeOf165
 v49 := Tryz.zeroValue165
 t51 := Tryz.underlying123
 a51 := Tryz.isAgg123
 z51 := Tryz.sizeOf123
 v51 := Tryz.zeroValue123
 t119 := Tryz.underlying80
 a119 := Tryz.isAgg80
 z119 := Tryz.sizeOf80
 t141 := Tryz.underlying125
 a141 := Tryz.isAgg125
 z141 := Tryz.sizeOf125
 v141 := Tryz.zeroValue125
 t152 := Tryz.underlying120
 a152 := Tryz.isAgg120
 z152 := Tryz.sizeOf120
 v152 := Tryz.zeroValue120
 t154 := Tryz.underlying122
 a154 := Tryz.isAgg122
 z154 := Tryz.sizeOf122
 v154 := Tryz.zeroValue122
 t193 := Tryz.underlying161
 a193 := Tryz.isAgg161
 z193 := Tryz.sizeOf161
 v193 := Tryz.zeroValue161
 t194 := Tryz.underlying162
 a194 := Tryz.isAgg162
 z194 := Tryz.sizeOf162
 v194 := Tryz.zeroValue162
 t196 := Tryz.underlying164
 a196 := Tryz.isAgg164
 z196 := Tryz.sizeOf164
 v196 := Tryz.zeroValue164
 t198 := Tryz.underlying167
 a198 := Tryz.isAgg167
 z198 := Tryz.sizeOf167
 v198 := Tryz.zeroValue167
 t201 := Tryz.underlying170
 a201 := Tryz.isAgg170
 z201 := Tryz.sizeOf170
 v201 := Tryz.zeroValue170
 t226 := Tryz.underlying185
 a226 := Tryz.isAgg185
 z226 := Tryz.sizeOf185
 v226 := Tryz.zeroValue185
 t227 := Tryz.underlying187
 a227 := Tryz.isAgg187
 z227 := Tryz.sizeOf187
 v227 := Tryz.zeroValue187
 g0 := by kernel_rfl
 g6 := by kernel_rfl }
open Go.RowKit Go.Lib in
theorem Tryz.strings_Fields (s : ByteArray) (w : World) (hs : s.size < 4294967281) (hascii : ∀ (j : Nat) b, s.data.toList[j]? = some b → b.toNat < 128) (htab : Lib.TabIs Tryz.prog w "strings.asciiSpace" .u8 Lib.asciiSpaceTab) :
 Calls Tryz.prog 20 #[.string s] w fun e w' =>
  e = .returned (.slice (some ⟨w.heap.size, 0, none⟩) (Lib.fields s.data.toList).length (Lib.fields s.data.toList).length) ∧ w' = w.alloc (.cells ((Lib.fields s.data.toList).map fun l => Value.string ⟨l.toArray⟩).toArray 9) := Any.strings_Fields Tryz.lays157 (by kernel_rfl) (by kernel_rfl) s w hs hascii htab
def Tryz.lays109_ren : Go.Shelf.Ren := ⟨fun | 109 => 142 | n => n, fun | 31 => 53 | 9 => 9 | 3 => 3 | 0 => 0 | 4 => 4 | n => n, fun | n => n⟩
theorem Tryz.lays109 : Go.Proofs.Lays.n109 Tryz.prog Tryz.lays109_ren := {
 mixed := by kernel_rfl
 f109 := Tryz.func142.trans (congrArg some (by kernel_rfl))
 t0 := Tryz.underlying0
 a0 := Tryz.isAgg0
 z0 := Tryz.sizeOf0
 v0 := Tryz.zeroValue0
 t3 := Tryz.underlying3
 a3 := Tryz.isAgg3
 z3 := Tryz.sizeOf3
 v3 := Tryz.zeroValue3
 t4 := Tryz.underlying4
 a4 := Tryz.isAgg4
 z4 := Tryz.sizeOf4
 v4 := Tryz.zeroValue4
 t9 := Tryz.underlying9
 a9 := Tryz.isAgg9
 z9 := Tryz.sizeOf9
 v9 := Tryz.zeroValue9
 t31 := Tryz.underlying53
 a31 := Tryz.isAgg53
 z31 := Tryz.sizeOf53
 v31 := Tryz.zeroValue53 }
open Go.Lib in
theorem Tryz.slices_Index_string (b off n c : Nat) (zs : List ByteArray) (x : ByteArray) (w : World) (hz : n ≤ zs.length) (hbig : n ≤ 9223372036854775807) (hc : ∀ j, j < zs.length → w.cell? ⟨b, off + j, none⟩ = some (.string (zs.getD j ByteArray.empty))) :
 Calls Tryz.prog 142 #[.slice (some ⟨b, off, none⟩) n c, .string x] w fun e w' => e = .returned (.int .i64 (Lib.idxOfS (zs.take n) x)) ∧ w' = w := Any.slices_Index_string Tryz.lays109 b off n c zs x w hz hbig hc
def Tryz.lays110_ren : Go.Shelf.Ren := ⟨fun | 110 => 100 | 109 => 142 | n => n, fun | 31 => 53 | 9 => 9 | 4 => 4 | 3 => 3 | 0 => 0 | n => n, fun | n => n⟩
theorem Tryz.lays110 : Go.Proofs.Lays.n110 Tryz.prog Tryz.lays110_ren := {
 mixed := by kernel_rfl
 f109 := Tryz.func142.trans (congrArg some (by kernel_rfl))
 f110 := Tryz.func100.trans (congrArg some (by kernel_rfl))
 t0 := Tryz.underlying0
 a0 := Tryz.isAgg0
 z0 := Tryz.sizeOf0
 v0 := Tryz.zeroValue0
 t3 := Tryz.underlying3
 a3 := Tryz.isAgg3
 z3 := Tryz.sizeOf3
 v3 := Tryz.zeroValue3
 t4 := Tryz.underlying4
 a4 := Tryz.isAgg4
 z4 := Tryz.sizeOf4
 v4 := Tryz.zeroValue4
 t9 := Tryz.underlying9
 a9 := Tryz.isAgg9
 z9 := Tryz.sizeOf9
 v9 := Tryz.zeroValue9
 t31 := Tryz.underlying53
 a31 := Tryz.isAgg53
 z31 := Tryz.sizeOf53
 v31 := Tryz.zeroValue53 }
open Go.Lib in
theorem Tryz.slices_Contains_string (b off n c : Nat) (zs : List ByteArray) (x : ByteArray) (w : World) (hz : n ≤ zs.length) (hbig : n ≤ 9223372036854775807) (hc : ∀ j, j < zs.length → w.cell? ⟨b, off + j, none⟩ = some (.string (zs.getD j ByteArray.empty))) :
 Calls Tryz.prog 100 #[.slice (some ⟨b, off, none⟩) n c, .string x] w fun e w' => e = .returned (.bool (Lib.containsS (zs.take n) x)) ∧ w' = w := Any.slices_Contains_string Tryz.lays110 b off n c zs x w hz hbig hc
end Go.Proofs
