/- A part of the proofs of TopCounter and TopStrict: what the functions of the program do, each walked once, and plain laws about it. No condition. -/
import Derived.Shelf.Strings.Builder1
import Derived.Shelf.Strings.Builder2
import Derived.Shelf.Small.Bits
import Derived.Shelf.Small.Wraps
import Derived.Shelf.Strings.BuilderF
import Derived.Shelf.Strings.BuilderK
import Derived.Shelf.Strings.Builder2Cap
import Derived.Shelf.Strconv.Itoa0
import Derived.Shelf.Sort.Plain
import Derived.Shelf.Strings.Prefix
import Derived.Shelf.Bits.Mul64
import Derived.Shelf.Strings.Repeat
import Derived.Shelf.Slices.Turned
import Derived.Ground.Names2Prog
import Derived.Shelf.Slices.SearchI
import Derived.Shelf.Slices.In.SortNone
import Derived.Shelf.Slices.Empties
import Derived.Test.YtlmjefjimoghcaaGreatProg
namespace Go.Proofs
open Go.Shelf
def Tryz.lays125_ren : Go.Shelf.Ren := ⟨fun | 125 => 100 | 128 => 135 | 129 => 136 | n => n, fun | 46 => 120 | 3 => 3 | 51 => 156 | 53 => 195 | 4 => 4 | 5 => 5 | 9 => 9 | n => n, fun | n => n⟩
theorem Tryz.lays125 : Go.Proofs.Lays.n125 Tryz.prog Tryz.lays125_ren := {
 mixed := by kernel_rfl
 f125 := Tryz.func100.trans (congrArg some (by kernel_rfl))
 f128 := Tryz.func135.trans (congrArg some (by kernel_rfl))
 f129 := Tryz.func136.trans (congrArg some (by kernel_rfl))
 t3 := Tryz.underlying3
 a3 := Tryz.isAgg3
 z3 := Tryz.sizeOf3
 v3 := Tryz.zeroValue3
 t4 := Tryz.underlying4
 a4 := Tryz.isAgg4
 z4 := Tryz.sizeOf4
 v4 := Tryz.zeroValue4
 t5 := Tryz.underlying5
 a5 := Tryz.isAgg5
 z5 := Tryz.sizeOf5
 v5 := Tryz.zeroValue5
 t9 := Tryz.underlying9
 a9 := Tryz.isAgg9
 z9 := Tryz.sizeOf9
 v9 := Tryz.zeroValue9
 t46 := Tryz.underlying120
 a46 := Tryz.isAgg120
 z46 := Tryz.sizeOf120
 v46 := Tryz.zeroValue120
 t51 := Tryz.underlying156
 a51 := Tryz.isAgg156
 z51 := Tryz.sizeOf156
 v51 := Tryz.zeroValue156
 t53 := Tryz.underlying195
 a53 := Tryz.isAgg195
 z53 := Tryz.sizeOf195
 v53 := Tryz.zeroValue195 }
theorem Tryz.bits_Len (x : Int) (w : World) (h0 : 0 ≤ x) (h1 : x ≤ 18446744073709551615) :
  Calls Tryz.prog 100 #[.int .u64 x] w fun e w' => e = .returned (.int .i64 (Lib.bitLen x.toNat)) ∧ w' = w := Any.bits_Len Tryz.lays125 x w h0 h1
def Tryz.lays136_ren : Go.Shelf.Ren := ⟨fun | 136 => 169 | n => n, fun | 5 => 5 | 3 => 3 | 9 => 9 | n => n, fun | n => n⟩
theorem Tryz.lays136 : Go.Proofs.Lays.n136 Tryz.prog Tryz.lays136_ren := {
 mixed := by kernel_rfl
 f136 := Tryz.func169.trans (congrArg some (by kernel_rfl))
 t3 := Tryz.underlying3
 a3 := Tryz.isAgg3
 z3 := Tryz.sizeOf3
 v3 := Tryz.zeroValue3
 t5 := Tryz.underlying5
 a5 := Tryz.isAgg5
 z5 := Tryz.sizeOf5
 v5 := Tryz.zeroValue5
 t9 := Tryz.underlying9
 a9 := Tryz.isAgg9
 z9 := Tryz.sizeOf9
 v9 := Tryz.zeroValue9 }
theorem Tryz.bits_TrailingZeros8 (x : Int) (w : World) (h0 : 0 ≤ x) (h1 : x ≤ 255) :
  Calls Tryz.prog 169 #[.int .u8 x] w fun e w' => e = .returned (.int .i64 (Lib.trailingZeros8 x.toNat)) ∧ w' = w := Any.bits_TrailingZeros8 Tryz.lays136 x w h0 h1
def Tryz.lays189_ren : Go.Shelf.Ren := ⟨fun | 189 => 143 | 125 => 100 | 257 => 168 | 128 => 135 | 129 => 136 | 294 => 181 | 295 => 182 | 296 => 183 | 297 => 184 | 298 => 185 | 299 => 186 | 216 => 153 | 300 => 187 | 301 => 188 | 328 => 197 | 329 => 198 | 330 => 199 | 331 => 200 | 332 => 201 | 215 => 175 | 343 => 232 | n => n, fun | 28 => 27 | 3 => 3 | 46 => 120 | 0 => 0 | 51 => 156 | 53 => 195 | 4 => 4 | 183 => 248 | 182 => 247 | 131 => 178 | 5 => 5 | 9 => 9 | 218 => 266 | 222 => 270 | 228 => 281 | 229 => 229 | n => n, fun | n => n⟩
theorem Tryz.lays189 : Go.Proofs.Lays.n189 Tryz.prog Tryz.lays189_ren := {
 mixed := by kernel_rfl
 f125 := Tryz.func100.trans (congrArg some (by kernel_rfl))
 f128 := Tryz.func135.trans (congrArg some (by kernel_rfl))
 f129 := Tryz.func136.trans (congrArg some (by kernel_rfl))
 f189 := Tryz.func143.trans (congrArg some (by kernel_rfl))
 f215 := Tryz.func175.trans (congrArg some (by kernel_rfl))
 f216 := Tryz.func153.trans (congrArg some (by kernel_rfl))
 f257 := Tryz.func168.trans (congrArg some (by kernel_rfl))
 f294 := Tryz.func181.trans (congrArg some (by kernel_rfl))
 f295 := Tryz.func182.trans (congrArg some (by kernel_rfl))
 f296 := Tryz.func183.trans (congrArg some (by kernel_rfl))
 f297 := Tryz.func184.trans (congrArg some (by kernel_rfl))
 f298 := Tryz.func185.trans (congrArg some (by kernel_rfl))
 f299 := Tryz.func186.trans (congrArg some (by kernel_rfl))
 f300 := Tryz.func187.trans (congrArg some (by kernel_rfl))
 f301 := Tryz.func188.trans (congrArg some (by kernel_rfl))
 f328 := Tryz.func197.trans (congrArg some (by kernel_rfl))
 f329 := Tryz.func198.trans (congrArg some (by kernel_rfl))
 f330 := Tryz.func199.trans (congrArg some (by kernel_rfl))
 f331 := Tryz.func200.trans (congrArg some (by kernel_rfl))
 f332 := Tryz.func201.trans (congrArg some (by kernel_rfl))
 f343 := Tryz.func232.trans (congrArg some (by kernel_rfl))
 t0 := Tryz.underlying0
 a0 := Tryz.isAgg0
 z0 := Tryz.sizeOf0
 v0 := Tryz.zeroValue0
 t3 := Tryz.underlying3
 a3 := Tryz.isAgg3
 z3 := Tryz.sizeOf3
 v3 := Tryz.zeroValue3
 t4 := Tryz.underlying4
 a4 := Tryz.isAgg4
 z4 := Tryz.sizeOf4
 v4 := Tryz.zeroValue4
 t5 := Tryz.underlying5
 a5 := Tryz.isAgg5
 z5 := Tryz.sizeOf5
 v5 := Tryz.zeroValue5
 t9 := Tryz.underlying9
 a9 := Tryz.isAgg9
 z9 := Tryz.sizeOf9
 v9 := Tryz.zeroValue9
 t28 := Tryz.underlying27
 a28 := Tryz.isAgg27
 z28 := Tryz.sizeOf27
 v28 := Tryz.zeroValue27
 t46 := Tryz.underlying120
 a46 := Tryz.isAgg120
 z46 := Tryz.sizeOf120
 v46 := Tryz.zeroValue120
 t51 := Tryz.underlying156
 a51 := Tryz.isAgg156
 z51 := Tryz.sizeOf156
 v51 := Tryz.zeroValue156
 t53 := Tryz.underlying195
 a53 := Tryz.isAgg195
 z53 := Tryz.sizeOf195
 v53 := Tryz.zeroValue195
 t131 := Tryz.underlying178
 a131 := Tryz.isAgg178
 z131 := Tryz.sizeOf178
 v131 := Tryz.zeroValue178
 t182 := Tryz.underlying247
 a182 := Tryz.isAgg247
 z182 := Tryz.sizeOf247
 v182 := Tryz.zeroValue247
 t183 := Tryz.underlying248
 a183 := Tryz.isAgg248
 z183 := Tryz.sizeOf248
 v183 := Tryz.zeroValue248
 t218 := Tryz.underlying266
 a218 := Tryz.isAgg266
 z218 := Tryz.sizeOf266
 v218 := Tryz.zeroValue266
 t222 := Tryz.underlying270
 a222 := Tryz.isAgg270
 z222 := Tryz.sizeOf270
 v222 := Tryz.zeroValue270
 t228 := Tryz.underlying281
 a228 := Tryz.isAgg281
 z228 := Tryz.sizeOf281
 v228 := Tryz.zeroValue281
 t229 := Tryz.underlying229
 a229 := Tryz.isAgg229
 z229 := Tryz.sizeOf229
 v229 := Tryz.zeroValue229 }
open Go.Sort Go.RowKit in
theorem Tryz.slices_Sort_int (blk off cap : Nat) (zs : List Int) (w : World) (hH : Holds (Value.int .i64) w blk off zs.toArray) (hblk : blk < w.heap.size) (hsz : zs.length < 4611686018427387904) :
  Calls Tryz.prog 143 #[.slice (some ⟨blk, off, none⟩) zs.length cap] w fun e w' =>
   e = .returned (.tuple #[]) ∧ ∃ n os, w' = grow (putRow (Value.int .i64) (Sort.ahead w n) blk off (zs.mergeSort fun x y => decide (x ≤ y)).toArray) os := Any.slices_Sort_int Tryz.lays189 blk off cap zs w hH hblk hsz
def Tryz.lays105_ren : Go.Shelf.Ren := ⟨fun | 105 => 173 | 212 => 190 | 99 => 191 | 165 => 192 | 166 => 193 | 170 => 194 | 169 => 195 | 263 => 225 | 264 => 226 | 206 => 227 | 240 => 228 | 241 => 229 | 276 => 233 | 277 => 234 | n => n, fun | 9 => 9 | 3 => 3 | 4 => 4 | 20 => 20 | 0 => 0 | 46 => 120 | 109 => 255 | 5 => 5 | 72 => 260 | 76 => 264 | 51 => 156 | 146 => 274 | 53 => 195 | 148 => 276 | 70 => 258 | 37 => 70 | 75 => 263 | 127 => 278 | 164 => 283 | 80 => 66 | n => n, fun | n => n⟩
theorem Tryz.lays105 : Go.Proofs.Lays.n105 Tryz.prog Tryz.lays105_ren := {
 mixed := by kernel_rfl
 f99 := Tryz.func191.trans (congrArg some (by kernel_rfl))
 f105 := Tryz.func173.trans (congrArg some (by kernel_rfl))
 f165 := Tryz.func192.trans (congrArg some (by kernel_rfl))
 f166 := Tryz.func193.trans (congrArg some (by kernel_rfl))
 f169 := Tryz.func195.trans (congrArg some (by kernel_rfl))
 f170 := Tryz.func194.trans (congrArg some (by kernel_rfl))
 f206 := Tryz.func227.trans (congrArg some (by kernel_rfl))
 f212 := Tryz.func190.trans (congrArg some (by kernel_rfl))
 f240 := Tryz.func228.trans (congrArg some (by kernel_rfl))
 f241 := Tryz.func229.trans (congrArg some (by kernel_rfl))
 f263 := Tryz.func225.trans (congrArg some (by kernel_rfl))
 f264 := Tryz.func226.trans (congrArg some (by kernel_rfl))
 f276 := Tryz.func233.trans (congrArg some (by kernel_rfl))
 f277 := Tryz.func234.trans (congrArg some (by kernel_rfl))
 t0 := Tryz.underlying0
 a0 := Tryz.isAgg0
 z0 := Tryz.sizeOf0
 v0 := Tryz.zeroValue0
 t3 := Tryz.underlying3
 a3 := Tryz.isAgg3
 z3 := Tryz.sizeOf3
 v3 := Tryz.zeroValue3
 t4 := Tryz.underlying4
 a4 := Tryz.isAgg4
 z4 := Tryz.sizeOf4
 v4 := Tryz.zeroValue4
 t5 := Tryz.underlying5
 a5 := Tryz.isAgg5
 z5 := Tryz.sizeOf5
 v5 := Tryz.zeroValue5
 t9 := Tryz.underlying9
 a9 := Tryz.isAgg9
 z9 := Tryz.sizeOf9
 v9 := Tryz.zeroValue9
 t20 := Tryz.underlying20
 a20 := Tryz.isAgg20
 z20 := Tryz.sizeOf20
 v20 := Tryz.zeroValue20
 t37 := Tryz.underlying70
 a37 := Tryz.isAgg70
 z37 := Tryz.sizeOf70
 v37 := Tryz.zeroValue70
 t46 := Tryz.underlying120
 a46 := Tryz.isAgg120
 z46 := Tryz.sizeOf120
 v46 := Tryz.zeroValue120
 t51 := Tryz.underlying156
 a51 := Tryz.isAgg156
 z51 := Tryz.sizeOf156
 v51 := Tryz.zeroValue156
 t53 := Tryz.underlying195
 a53 := Tryz.isAgg195
 z53 := Tryz.sizeOf195
 v53 := Tryz.zeroValue195
 t70 := Tryz.underlying258
 a70 := Tryz.isAgg258
 z70 := Tryz.sizeOf258
 v70 := Tryz.zeroValue258
 t72 := Tryz.underlying260
 a72 := Tryz.isAgg260
 z72 := Tryz.sizeOf260
 v72 := Tryz.zeroValue260
 t75 := Tryz.underlying263
 a75 := Tryz.isAgg263
 z75 := Tryz.sizeOf263
 v75 := Tryz.zeroValue263
 t76 := Tryz.underlying264
 a76 := Tryz.isAgg264
 z76 := Tryz.sizeOf264
 v76 := Tryz.zeroValue264
 t109 := Tryz.underlying255
 a109 := Tryz.isAgg255
 z109 := Tryz.sizeOf255
 v109 := Tryz.zeroValue255
 t127 := Tryz.underlying278
 a127 := Tryz.isAgg278
 z127 := Tryz.sizeOf278
 v127 := Tryz.zeroValue278
 t146 := Tryz.underlying274
 a146 := Tryz.isAgg274
 z146 := Tryz.sizeOf274
 v146 := Tryz.zeroValue274
 t148 := Tryz.underlying276
 a148 := Tryz.isAgg276
 z148 := Tryz.sizeOf276
 v148 := Tryz.zeroValue276
 t164 := Tryz.underlying283
 a164 := Tryz.isAgg283
 z164 := Tryz.sizeOf283
 v164 := Tryz.zeroValue283 }
theorem Tryz.Builder_Extra_105 : Builder.Extra Tryz.prog Tryz.lays105_ren := {
 sizeBuilder := by kernel_rfl
 liesBuilder := by kernel_rfl
 t5 := Tryz.underlying5
 a5 := Tryz.isAgg5
 z5 := Tryz.sizeOf5
 v5 := Tryz.zeroValue5
 infoByte := by kernel_rfl
 cellsByte := by kernel_rfl
 sizeByte := by kernel_rfl
 neB5 := by decide }
open Go.RowKit Go.Lib in
theorem Tryz.strings_Repeat (s : ByteArray) (c : Nat) (w : World) (hc : c ≤ 9223372036854775807) (hlen : s.size * c ≤ 140737488355328) :
  Calls Tryz.prog 173 #[.string s, .int .i64 c] w fun e w' => e = .returned (.string ⟨(Lib.repeatL s.data.toList c).toArray⟩) ∧ Below w.heap.size w w' := Any.strings_Repeat Tryz.lays105 Tryz.Builder_Extra_105 s c w hc hlen
def Tryz.lays108_ren : Go.Shelf.Ren := ⟨fun | 108 => 142 | n => n, fun | 28 => 27 | 3 => 3 | 0 => 0 | 4 => 4 | n => n, fun | n => n⟩
theorem Tryz.lays108 : Go.Proofs.Lays.n108 Tryz.prog Tryz.lays108_ren := {
 mixed := by kernel_rfl
 f108 := Tryz.func142.trans (congrArg some (by kernel_rfl))
 t0 := Tryz.underlying0
 a0 := Tryz.isAgg0
 z0 := Tryz.sizeOf0
 v0 := Tryz.zeroValue0
 t3 := Tryz.underlying3
 a3 := Tryz.isAgg3
 z3 := Tryz.sizeOf3
 v3 := Tryz.zeroValue3
 t4 := Tryz.underlying4
 a4 := Tryz.isAgg4
 z4 := Tryz.sizeOf4
 v4 := Tryz.zeroValue4
 t28 := Tryz.underlying27
 a28 := Tryz.isAgg27
 z28 := Tryz.sizeOf27
 v28 := Tryz.zeroValue27 }
open Go.Lib in
theorem Tryz.slices_Index_int (b off n c : Nat) (zs : List Int) (x : Int) (w : World) (hz : n ≤ zs.length) (hbig : n ≤ 9223372036854775807) (hc : ∀ j, j < zs.length → w.cell? ⟨b, off + j, none⟩ = some (.int .i64 (zs.getD j 0))) :
  Calls Tryz.prog 142 #[.slice (some ⟨b, off, none⟩) n c, .int .i64 x] w fun e w' => e = .returned (.int .i64 (Lib.idxOf (zs.take n) x)) ∧ w' = w := Any.slices_Index_int Tryz.lays108 b off n c zs x w hz hbig hc
def Tryz.laysNm225_ren : Go.Shelf.Ren := ⟨fun | 25 => 121 | 31 => 153 | 32 => 154 | 37 => 175 | n => n, fun | 22 => 27 | 3 => 3 | 4 => 4 | 40 => 120 | 0 => 0 | n => n, fun | n => n⟩
theorem Tryz.laysNm225 : Go.Proofs.Lays2.n25 Tryz.prog Tryz.laysNm225_ren := {
 mixed := by kernel_rfl
 f25 := Tryz.func121.trans (congrArg some (by kernel_rfl))
 f31 := Tryz.func153.trans (congrArg some (by kernel_rfl))
 f32 := Tryz.func154.trans (congrArg some (by kernel_rfl))
 f37 := Tryz.func175.trans (congrArg some (by kernel_rfl))
 t0 := Tryz.underlying0
 a0 := Tryz.isAgg0
 z0 := Tryz.sizeOf0
 v0 := Tryz.zeroValue0
 t3 := Tryz.underlying3
 a3 := Tryz.isAgg3
 z3 := Tryz.sizeOf3
 v3 := Tryz.zeroValue3
 t4 := Tryz.underlying4
 a4 := Tryz.isAgg4
 z4 := Tryz.sizeOf4
 v4 := Tryz.zeroValue4
 t22 := Tryz.underlying27
 a22 := Tryz.isAgg27
 z22 := Tryz.sizeOf27
 v22 := Tryz.zeroValue27
 t40 := Tryz.underlying120
 a40 := Tryz.isAgg120
 z40 := Tryz.sizeOf120
 v40 := Tryz.zeroValue120 }
open Go.RowKit Go.Lib in
theorem Tryz.slices_BinarySearch_int (b off n c : Nat) (zs : List Int) (x : Int) (w : World) (hz : n ≤ zs.length) (hbig : n < 4611686018427387904) (hc : ∀ j, j < zs.length → w.cell? ⟨b, off + j, none⟩ = some (.int .i64 (zs.getD j 0))) (hs : (zs.take n).Pairwise (· ≤ ·)) :
  Calls Tryz.prog 121 #[.slice (some ⟨b, off, none⟩) n c, .int .i64 x] w fun e w' => e = .returned (.tuple #[.int .i64 ((zs.take n).countP (· < x) : Nat), .bool ((zs.take n).contains x)]) ∧ ∃ q, w' = w.drewN q := Any.slices_BinarySearch_int Tryz.laysNm225 b off n c zs x w hz hbig hc hs
open Go.RowKit Go.Sort in
theorem Tryz.slices_Sort_int_none (p : Option Addr) (cap : Nat) (w : World) :
  Calls Tryz.prog 143 #[.slice p 0 cap] w fun e w' => e = .returned (.tuple #[]) ∧ w' = w := Any.slices_Sort_int_none Tryz.lays189 p cap w
open Go.RowKit Go.Lib in
theorem Tryz.slices_BinarySearch_int_empty (a : Option Addr) (c : Nat) (x : Int) (w : World) :
  Calls Tryz.prog 121 #[.slice a 0 c, .int .i64 x] w fun e w' => e = .returned (.tuple #[.int .i64 0, .bool false]) ∧ w' = w := Any.slices_BinarySearch_int_empty Tryz.laysNm225 a c x w
end Go.Proofs
