/-
  DERIVED: THE SHELF's CONTRACTS AT THIS DUMP, IN PLAIN WORDS (tools/lay-plain.mjs out of 'TryzShelf.lean', which tools/lay-shelf.mjs wrote): THE SAME DECLARATIONS UNDER THE SAME NAMES: 'import', 'namespace', 'open', 'def', 'theorem' AND NOTHING ELSE: no command of the shelf's: FOR A HAND-IN. Each laying: the table of numbers ('.._ren') and one theorem, a field a fact of the dump's own or the kernel's comparison; each contract: ONE APPLICATION.
-/
import Derived.Shelf.Strings.Builder1
import Derived.Shelf.Strings.Builder2
import Derived.Shelf.Small.Bits
import Derived.Shelf.Sort.Plain
import Derived.Shelf.Bits.Mul64
import Derived.Shelf.Strings.Repeat
import Derived.Ground.Names2Prog
import Derived.Shelf.Slices.SearchI
import Derived.Shelf.Slices.In.SortNone
import Derived.Test.YtbdhhedfplkidaaGreatProg
namespace Go.Proofs
open Go.Shelf
def Tryz.lays135_ren : Go.Shelf.Ren := ⟨fun | 135 => 126 | n => n, fun | 5 => 5 | 3 => 3 | 9 => 9 | n => n, fun | n => n⟩
theorem Tryz.lays135 : Go.Proofs.Lays.n135 Tryz.prog Tryz.lays135_ren := {
  mixed := by kernel_rfl
  f135 := Tryz.func126.trans (congrArg some (by kernel_rfl))
  t3 := Tryz.underlying3
  a3 := Tryz.isAgg3
  z3 := Tryz.sizeOf3
  v3 := Tryz.zeroValue3
  t5 := Tryz.underlying5
  a5 := Tryz.isAgg5
  z5 := Tryz.sizeOf5
  v5 := Tryz.zeroValue5
  t9 := Tryz.underlying9
  a9 := Tryz.isAgg9
  z9 := Tryz.sizeOf9
  v9 := Tryz.zeroValue9 }
/-- bits.OnesCount8: "OnesCount8 returns the number of one bits ("population count") in x.": IT RETURNS 'Lib.onesCount x'; the world is as it was. ('h0', 'h1': x is a uint8.) (LAID: no walk: one application.) -/
theorem Tryz.bits_OnesCount8 (x : Int) (w : World) (h0 : 0 ≤ x) (h1 : x ≤ 255) :
    Calls Tryz.prog 126 #[.int .u8 x] w fun e w' => e = .returned (.int .i64 (Lib.onesCount x.toNat)) ∧ w' = w := Any.bits_OnesCount8 Tryz.lays135 x w h0 h1
def Tryz.lays189_ren : Go.Shelf.Ren := ⟨fun | 189 => 135 | 125 => 167 | 257 => 166 | 128 => 198 | 129 => 199 | 294 => 189 | 295 => 190 | 296 => 191 | 297 => 192 | 298 => 193 | 299 => 194 | 216 => 195 | 300 => 196 | 301 => 197 | 328 => 206 | 329 => 207 | 330 => 208 | 331 => 209 | 332 => 210 | 215 => 211 | 343 => 214 | n => n, fun | 28 => 22 | 3 => 3 | 46 => 184 | 0 => 0 | 51 => 59 | 53 => 35 | 4 => 4 | 183 => 299 | 182 => 298 | 131 => 154 | 5 => 5 | 9 => 9 | 218 => 312 | 222 => 316 | 228 => 320 | 229 => 321 | n => n, fun | n => n⟩
theorem Tryz.lays189 : Go.Proofs.Lays.n189 Tryz.prog Tryz.lays189_ren := {
  mixed := by kernel_rfl
  f125 := Tryz.func167.trans (congrArg some (by kernel_rfl))
  f128 := Tryz.func198.trans (congrArg some (by kernel_rfl))
  f129 := Tryz.func199.trans (congrArg some (by kernel_rfl))
  f189 := Tryz.func135.trans (congrArg some (by kernel_rfl))
  f215 := Tryz.func211.trans (congrArg some (by kernel_rfl))
  f216 := Tryz.func195.trans (congrArg some (by kernel_rfl))
  f257 := Tryz.func166.trans (congrArg some (by kernel_rfl))
  f294 := Tryz.func189.trans (congrArg some (by kernel_rfl))
  f295 := Tryz.func190.trans (congrArg some (by kernel_rfl))
  f296 := Tryz.func191.trans (congrArg some (by kernel_rfl))
  f297 := Tryz.func192.trans (congrArg some (by kernel_rfl))
  f298 := Tryz.func193.trans (congrArg some (by kernel_rfl))
  f299 := Tryz.func194.trans (congrArg some (by kernel_rfl))
  f300 := Tryz.func196.trans (congrArg some (by kernel_rfl))
  f301 := Tryz.func197.trans (congrArg some (by kernel_rfl))
  f328 := Tryz.func206.trans (congrArg some (by kernel_rfl))
  f329 := Tryz.func207.trans (congrArg some (by kernel_rfl))
  f330 := Tryz.func208.trans (congrArg some (by kernel_rfl))
  f331 := Tryz.func209.trans (congrArg some (by kernel_rfl))
  f332 := Tryz.func210.trans (congrArg some (by kernel_rfl))
  f343 := Tryz.func214.trans (congrArg some (by kernel_rfl))
  t0 := Tryz.underlying0
  a0 := Tryz.isAgg0
  z0 := Tryz.sizeOf0
  v0 := Tryz.zeroValue0
  t3 := Tryz.underlying3
  a3 := Tryz.isAgg3
  z3 := Tryz.sizeOf3
  v3 := Tryz.zeroValue3
  t4 := Tryz.underlying4
  a4 := Tryz.isAgg4
  z4 := Tryz.sizeOf4
  v4 := Tryz.zeroValue4
  t5 := Tryz.underlying5
  a5 := Tryz.isAgg5
  z5 := Tryz.sizeOf5
  v5 := Tryz.zeroValue5
  t9 := Tryz.underlying9
  a9 := Tryz.isAgg9
  z9 := Tryz.sizeOf9
  v9 := Tryz.zeroValue9
  t28 := Tryz.underlying22
  a28 := Tryz.isAgg22
  z28 := Tryz.sizeOf22
  v28 := Tryz.zeroValue22
  t46 := Tryz.underlying184
  a46 := Tryz.isAgg184
  z46 := Tryz.sizeOf184
  v46 := Tryz.zeroValue184
  t51 := Tryz.underlying59
  a51 := Tryz.isAgg59
  z51 := Tryz.sizeOf59
  v51 := Tryz.zeroValue59
  t53 := Tryz.underlying35
  a53 := Tryz.isAgg35
  z53 := Tryz.sizeOf35
  v53 := Tryz.zeroValue35
  t131 := Tryz.underlying154
  a131 := Tryz.isAgg154
  z131 := Tryz.sizeOf154
  v131 := Tryz.zeroValue154
  t182 := Tryz.underlying298
  a182 := Tryz.isAgg298
  z182 := Tryz.sizeOf298
  v182 := Tryz.zeroValue298
  t183 := Tryz.underlying299
  a183 := Tryz.isAgg299
  z183 := Tryz.sizeOf299
  v183 := Tryz.zeroValue299
  t218 := Tryz.underlying312
  a218 := Tryz.isAgg312
  z218 := Tryz.sizeOf312
  v218 := Tryz.zeroValue312
  t222 := Tryz.underlying316
  a222 := Tryz.isAgg316
  z222 := Tryz.sizeOf316
  v222 := Tryz.zeroValue316
  t228 := Tryz.underlying320
  a228 := Tryz.isAgg320
  z228 := Tryz.sizeOf320
  v228 := Tryz.zeroValue320
  t229 := Tryz.underlying321
  a229 := Tryz.isAgg321
  z229 := Tryz.sizeOf321
  v229 := Tryz.zeroValue321 }
open Go.Sort Go.RowKit in
theorem Tryz.slices_Sort_int (blk off cap : Nat) (zs : List Int) (w : World) (hH : Holds (Value.int .i64) w blk off zs.toArray) (hblk : blk < w.heap.size) (hsz : zs.length < 4611686018427387904) :
    Calls Tryz.prog 135 #[.slice (some ⟨blk, off, none⟩) zs.length cap] w fun e w' =>
      e = .returned (.tuple #[]) ∧ ∃ n os, w' = grow (putRow (Value.int .i64) (Sort.ahead w n) blk off (zs.mergeSort fun x y => decide (x ≤ y)).toArray) os := Any.slices_Sort_int Tryz.lays189 blk off cap zs w hH hblk hsz
def Tryz.lays212_ren : Go.Shelf.Ren := ⟨fun | 212 => 139 | 263 => 170 | 264 => 171 | n => n, fun | 46 => 184 | 51 => 59 | 146 => 266 | 53 => 35 | 148 => 268 | n => n, fun | n => n⟩
theorem Tryz.lays212 : Go.Proofs.Lays.n212 Tryz.prog Tryz.lays212_ren := {
  mixed := by kernel_rfl
  f212 := Tryz.func139.trans (congrArg some (by kernel_rfl))
  f263 := Tryz.func170.trans (congrArg some (by kernel_rfl))
  f264 := Tryz.func171.trans (congrArg some (by kernel_rfl))
  t46 := Tryz.underlying184
  a46 := Tryz.isAgg184
  z46 := Tryz.sizeOf184
  v46 := Tryz.zeroValue184
  t51 := Tryz.underlying59
  a51 := Tryz.isAgg59
  z51 := Tryz.sizeOf59
  v51 := Tryz.zeroValue59
  t53 := Tryz.underlying35
  a53 := Tryz.isAgg35
  z53 := Tryz.sizeOf35
  v53 := Tryz.zeroValue35
  t146 := Tryz.underlying266
  a146 := Tryz.isAgg266
  z146 := Tryz.sizeOf266
  v146 := Tryz.zeroValue266
  t148 := Tryz.underlying268
  a148 := Tryz.isAgg268
  z148 := Tryz.sizeOf268
  v148 := Tryz.zeroValue268 }
open Go.RowKit Go.Lib in
/-- math/bits.Mul: "Mul returns the full-width product of x and y": on a machine of 64 bits: Mul64's. (LAID: no walk: one application.) -/
theorem Tryz.bits_Mul (x y : Nat) (hx : x < 18446744073709551616) (hy : y < 18446744073709551616) (w : World) :
    Calls Tryz.prog 139 #[.int .u64 x, .int .u64 y] w fun e w' => e = .returned (.tuple #[.int .u64 ((x * y / 18446744073709551616 : Nat) : Int), .int .u64 ((x * y % 18446744073709551616 : Nat) : Int)]) ∧ w' = w := Any.bits_Mul Tryz.lays212 x y hx hy w
def Tryz.lays105_ren : Go.Shelf.Ren := ⟨fun | 105 => 100 | 212 => 139 | 99 => 140 | 165 => 141 | 166 => 142 | 170 => 143 | 169 => 144 | 263 => 170 | 264 => 171 | 206 => 172 | 240 => 173 | 241 => 174 | 276 => 200 | 277 => 201 | n => n, fun | 9 => 9 | 3 => 3 | 4 => 4 | 20 => 20 | 0 => 0 | 46 => 184 | 109 => 225 | 5 => 5 | 72 => 230 | 76 => 234 | 51 => 59 | 146 => 266 | 53 => 35 | 148 => 268 | 70 => 228 | 37 => 67 | 75 => 233 | 127 => 270 | 164 => 306 | 80 => 190 | n => n, fun | n => n⟩
theorem Tryz.lays105 : Go.Proofs.Lays.n105 Tryz.prog Tryz.lays105_ren := {
  mixed := by kernel_rfl
  f99 := Tryz.func140.trans (congrArg some (by kernel_rfl))
  f105 := Tryz.func100.trans (congrArg some (by kernel_rfl))
  f165 := Tryz.func141.trans (congrArg some (by kernel_rfl))
  f166 := Tryz.func142.trans (congrArg some (by kernel_rfl))
  f169 := Tryz.func144.trans (congrArg some (by kernel_rfl))
  f170 := Tryz.func143.trans (congrArg some (by kernel_rfl))
  f206 := Tryz.func172.trans (congrArg some (by kernel_rfl))
  f212 := Tryz.func139.trans (congrArg some (by kernel_rfl))
  f240 := Tryz.func173.trans (congrArg some (by kernel_rfl))
  f241 := Tryz.func174.trans (congrArg some (by kernel_rfl))
  f263 := Tryz.func170.trans (congrArg some (by kernel_rfl))
  f264 := Tryz.func171.trans (congrArg some (by kernel_rfl))
  f276 := Tryz.func200.trans (congrArg some (by kernel_rfl))
  f277 := Tryz.func201.trans (congrArg some (by kernel_rfl))
  t0 := Tryz.underlying0
  a0 := Tryz.isAgg0
  z0 := Tryz.sizeOf0
  v0 := Tryz.zeroValue0
  t3 := Tryz.underlying3
  a3 := Tryz.isAgg3
  z3 := Tryz.sizeOf3
  v3 := Tryz.zeroValue3
  t4 := Tryz.underlying4
  a4 := Tryz.isAgg4
  z4 := Tryz.sizeOf4
  v4 := Tryz.zeroValue4
  t5 := Tryz.underlying5
  a5 := Tryz.isAgg5
  z5 := Tryz.sizeOf5
  v5 := Tryz.zeroValue5
  t9 := Tryz.underlying9
  a9 := Tryz.isAgg9
  z9 := Tryz.sizeOf9
  v9 := Tryz.zeroValue9
  t20 := Tryz.underlying20
  a20 := Tryz.isAgg20
  z20 := Tryz.sizeOf20
  v20 := Tryz.zeroValue20
  t37 := Tryz.underlying67
  a37 := Tryz.isAgg67
  z37 := Tryz.sizeOf67
  v37 := Tryz.zeroValue67
  t46 := Tryz.underlying184
  a46 := Tryz.isAgg184
  z46 := Tryz.sizeOf184
  v46 := Tryz.zeroValue184
  t51 := Tryz.underlying59
  a51 := Tryz.isAgg59
  z51 := Tryz.sizeOf59
  v51 := Tryz.zeroValue59
  t53 := Tryz.underlying35
  a53 := Tryz.isAgg35
  z53 := Tryz.sizeOf35
  v53 := Tryz.zeroValue35
  t70 := Tryz.underlying228
  a70 := Tryz.isAgg228
  z70 := Tryz.sizeOf228
  v70 := Tryz.zeroValue228
  t72 := Tryz.underlying230
  a72 := Tryz.isAgg230
  z72 := Tryz.sizeOf230
  v72 := Tryz.zeroValue230
  t75 := Tryz.underlying233
  a75 := Tryz.isAgg233
  z75 := Tryz.sizeOf233
  v75 := Tryz.zeroValue233
  t76 := Tryz.underlying234
  a76 := Tryz.isAgg234
  z76 := Tryz.sizeOf234
  v76 := Tryz.zeroValue234
  t109 := Tryz.underlying225
  a109 := Tryz.isAgg225
  z109 := Tryz.sizeOf225
  v109 := Tryz.zeroValue225
  t127 := Tryz.underlying270
  a127 := Tryz.isAgg270
  z127 := Tryz.sizeOf270
  v127 := Tryz.zeroValue270
  t146 := Tryz.underlying266
  a146 := Tryz.isAgg266
  z146 := Tryz.sizeOf266
  v146 := Tryz.zeroValue266
  t148 := Tryz.underlying268
  a148 := Tryz.isAgg268
  z148 := Tryz.sizeOf268
  v148 := Tryz.zeroValue268
  t164 := Tryz.underlying306
  a164 := Tryz.isAgg306
  z164 := Tryz.sizeOf306
  v164 := Tryz.zeroValue306 }
theorem Tryz.Builder_Extra_105 : Builder.Extra Tryz.prog Tryz.lays105_ren := {
  sizeBuilder := by kernel_rfl
  liesBuilder := by kernel_rfl
  t5 := Tryz.underlying5
  a5 := Tryz.isAgg5
  z5 := Tryz.sizeOf5
  v5 := Tryz.zeroValue5
  infoByte := by kernel_rfl
  cellsByte := by kernel_rfl
  sizeByte := by kernel_rfl
  neB5 := by decide }
open Go.RowKit Go.Lib in
/-- **strings.Repeat: count ≥ 0, the result within one allocation: count copies of s.** (LAID: no walk: one application.) -/
theorem Tryz.strings_Repeat (s : ByteArray) (c : Nat) (w : World) (hc : c ≤ 9223372036854775807) (hlen : s.size * c ≤ 140737488355328) :
    Calls Tryz.prog 100 #[.string s, .int .i64 c] w fun e w' => e = .returned (.string ⟨(Lib.repeatL s.data.toList c).toArray⟩) ∧ Below w.heap.size w w' := Any.strings_Repeat Tryz.lays105 Tryz.Builder_Extra_105 s c w hc hlen
open Go.RowKit Go.Sort in
/-- .. and plain. (LAID: no walk: one application.) -/
theorem Tryz.slices_Sort_int_none (p : Option Addr) (cap : Nat) (w : World) :
    Calls Tryz.prog 135 #[.slice p 0 cap] w fun e w' => e = .returned (.tuple #[]) ∧ w' = w := Any.slices_Sort_int_none Tryz.lays189 p cap w
end Go.Proofs
