import Derived.Shelf.Small.Utf8
import Derived.Shelf.Utf8.AppendRune
import Derived.Shelf.Utf8.AppendRunePlain
import Derived.Shelf.Strconv.Itoa0
import Derived.Shelf.Strconv.Itoa1
import Derived.Shelf.LaysM
import Derived.Shelf.Strconv.Itoa2
import Derived.Shelf.Strconv.Itoa3
import Derived.Shelf.Strconv.AppendUint10
import Derived.Shelf.Strconv.AppendInt10
import Derived.Shelf.Strconv.AppendIntPublic10
import Derived.Shelf.Strings.Prefix
import Derived.Shelf.Bits.Mul64
import Derived.Shelf.Spec.DecodeRune
import Derived.Shelf.Spec.NilArms
import Derived.Test.YtafmnkngjjnpiaaGreatDoorProg
namespace Go.Proofs
open Go.Shelf
def Tryz.lays119_ren : Go.Shelf.Ren := ⟨fun | 119 => 59 | n => n, fun | 21 => 21 | 4 => 4 | n => n, fun | n => n⟩
theorem Tryz.lays119 : Go.Proofs.Lays.n119 Tryz.prog Tryz.lays119_ren := {
  mixed := by kernel_rfl
  f119 := Tryz.func59.trans (congrArg some (by kernel_rfl))
  t4 := Tryz.underlying4
  a4 := Tryz.isAgg4
  z4 := Tryz.sizeOf4
  v4 := Tryz.zeroValue4
  t21 := Tryz.underlying21
  a21 := Tryz.isAgg21
  z21 := Tryz.sizeOf21
  v21 := Tryz.zeroValue21 }
theorem Tryz.utf8_ValidRune (r : Int) (w : World) :
    Calls Tryz.prog 59 #[.int .i32 r] w fun e w' => e = .returned (.bool (Lib.validRune r)) ∧ w' = w := Any.utf8_ValidRune Tryz.lays119 r w
def Tryz.lays242_ren : Go.Shelf.Ren := ⟨fun | 242 => 60 | 278 => 92 | n => n, fun | 37 => 22 | 21 => 21 | 51 => 69 | 4 => 4 | 5 => 5 | 46 => 175 | n => n, fun | n => n⟩
theorem Tryz.lays242 : Go.Proofs.Lays.n242 Tryz.prog Tryz.lays242_ren := {
  mixed := by kernel_rfl
  f242 := Tryz.func60.trans (congrArg some (by kernel_rfl))
  f278 := Tryz.func92.trans (congrArg some (by kernel_rfl))
  t4 := Tryz.underlying4
  a4 := Tryz.isAgg4
  z4 := Tryz.sizeOf4
  v4 := Tryz.zeroValue4
  t5 := Tryz.underlying5
  a5 := Tryz.isAgg5
  z5 := Tryz.sizeOf5
  v5 := Tryz.zeroValue5
  t21 := Tryz.underlying21
  a21 := Tryz.isAgg21
  z21 := Tryz.sizeOf21
  v21 := Tryz.zeroValue21
  t37 := Tryz.underlying22
  a37 := Tryz.isAgg22
  z37 := Tryz.sizeOf22
  v37 := Tryz.zeroValue22
  t46 := Tryz.underlying175
  a46 := Tryz.isAgg175
  z46 := Tryz.sizeOf175
  v46 := Tryz.zeroValue175
  t51 := Tryz.underlying69
  a51 := Tryz.isAgg69
  z51 := Tryz.sizeOf69
  v51 := Tryz.zeroValue69 }
open Go.RowKit in
theorem Tryz.utf8_AppendRune_plain (B : Nat) (v : Value) (n : Nat) (xs : List Value) (r : Int) (hr0 : -2147483648 ≤ r) (hr1 : r ≤ 2147483647) (w : World) (hown : w.ownsRow B 5 1 v n xs) (hlen : n + 4 ≤ 140737488355328) (hBw : B ≤ w.heap.size) :
    Calls Tryz.prog 60 #[v, .int .i32 r] w fun e w' => ∃ v', e = .returned v' ∧ w'.ownsRow B 5 1 v' (n + (Lib.runeCells r).length) (xs ++ Lib.runeCells r) ∧ ∃ o, (w.alloc o).grownBy w' v.ownBlock := Any.utf8_AppendRune_plain Tryz.lays242 (by kernel_rfl) B v n xs r hr0 hr1 w hown hlen hBw
def Tryz.laysM246_ren : Go.Shelf.Ren := ⟨fun | 246 => 169 | 283 => 183 | 284 => 184 | 285 => 185 | 286 => 186 | 129 => 198 | 317 => 197 | 318 => 199 | 319 => 200 | 320 => 201 | 337 => 209 | 338 => 210 | n => n, fun | 2 => 2 | 3 => 3 | 9 => 9 | 4 => 4 | 171 => 292 | 0 => 0 | 53 => 211 | 37 => 22 | 5 => 5 | 173 => 295 | 212 => 311 | 51 => 69 | 20 => 20 | 213 => 312 | 46 => 175 | 232 => 320 | 233 => 321 | n => n, fun | 17 => 4 | 18 => 5 | 19 => 6 | n => n⟩
def Tryz.laysM243_ren : Go.Shelf.Ren := ⟨fun | 243 => 154 | 246 => 169 | 283 => 183 | 284 => 184 | 285 => 185 | 286 => 186 | 129 => 198 | 317 => 197 | 318 => 199 | 319 => 200 | 320 => 201 | 337 => 209 | 338 => 210 | n => n, fun | 3 => 3 | 9 => 9 | 2 => 2 | 4 => 4 | 171 => 292 | 0 => 0 | 53 => 211 | 37 => 22 | 5 => 5 | 173 => 295 | 212 => 311 | 51 => 69 | 20 => 20 | 213 => 312 | 46 => 175 | 232 => 320 | 233 => 321 | n => n, fun | 17 => 4 | 18 => 5 | 19 => 6 | n => n⟩
def Tryz.laysM171_ren : Go.Shelf.Ren := ⟨fun | 171 => 123 | 243 => 154 | 246 => 169 | 283 => 183 | 284 => 184 | 285 => 185 | 286 => 186 | 129 => 198 | 317 => 197 | 318 => 199 | 319 => 200 | 320 => 201 | 337 => 209 | 338 => 210 | n => n, fun | 3 => 3 | 9 => 9 | 2 => 2 | 4 => 4 | 171 => 292 | 0 => 0 | 53 => 211 | 37 => 22 | 5 => 5 | 173 => 295 | 212 => 311 | 51 => 69 | 20 => 20 | 213 => 312 | 46 => 175 | 232 => 320 | 233 => 321 | n => n, fun | 17 => 4 | 18 => 5 | 19 => 6 | n => n⟩
theorem Tryz.laysM171 : Go.Proofs.LaysM.n171 Tryz.prog Tryz.laysM171_ren := {
  mixed := by kernel_rfl
  f129 := Tryz.func198.trans (congrArg some (by kernel_rfl))
  f171 := Tryz.func123.trans (congrArg some (by kernel_rfl))
  f243 := Tryz.func154.trans (congrArg some (by kernel_rfl))
  f246 := Tryz.func169.trans (congrArg some (by kernel_rfl))
  f283 := Tryz.func183.trans (congrArg some (by kernel_rfl))
  f284 := Tryz.func184.trans (congrArg some (by kernel_rfl))
  f285 := Tryz.func185.trans (congrArg some (by kernel_rfl))
  f286 := Tryz.func186.trans (congrArg some (by kernel_rfl))
  f317 := Tryz.func197.trans (congrArg some (by kernel_rfl))
  f318 := Tryz.func199.trans (congrArg some (by kernel_rfl))
  f319 := Tryz.func200.trans (congrArg some (by kernel_rfl))
  f320 := Tryz.func201.trans (congrArg some (by kernel_rfl))
  f337 := Tryz.func209.trans (congrArg some (by kernel_rfl))
  f338 := Tryz.func210.trans (congrArg some (by kernel_rfl))
  t0 := Tryz.underlying0
  a0 := Tryz.isAgg0
  z0 := Tryz.sizeOf0
  v0 := Tryz.zeroValue0
  t2 := Tryz.underlying2
  a2 := Tryz.isAgg2
  z2 := Tryz.sizeOf2
  v2 := Tryz.zeroValue2
  t3 := Tryz.underlying3
  a3 := Tryz.isAgg3
  z3 := Tryz.sizeOf3
  v3 := Tryz.zeroValue3
  t4 := Tryz.underlying4
  a4 := Tryz.isAgg4
  z4 := Tryz.sizeOf4
  v4 := Tryz.zeroValue4
  t5 := Tryz.underlying5
  a5 := Tryz.isAgg5
  z5 := Tryz.sizeOf5
  v5 := Tryz.zeroValue5
  t9 := Tryz.underlying9
  a9 := Tryz.isAgg9
  z9 := Tryz.sizeOf9
  v9 := Tryz.zeroValue9
  t20 := Tryz.underlying20
  a20 := Tryz.isAgg20
  z20 := Tryz.sizeOf20
  v20 := Tryz.zeroValue20
  t37 := Tryz.underlying22
  a37 := Tryz.isAgg22
  z37 := Tryz.sizeOf22
  v37 := Tryz.zeroValue22
  t46 := Tryz.underlying175
  a46 := Tryz.isAgg175
  z46 := Tryz.sizeOf175
  v46 := Tryz.zeroValue175
  t51 := Tryz.underlying69
  a51 := Tryz.isAgg69
  z51 := Tryz.sizeOf69
  v51 := Tryz.zeroValue69
  t53 := Tryz.underlying211
  a53 := Tryz.isAgg211
  z53 := Tryz.sizeOf211
  v53 := Tryz.zeroValue211
  t171 := Tryz.underlying292
  a171 := Tryz.isAgg292
  z171 := Tryz.sizeOf292
  v171 := Tryz.zeroValue292
  t173 := Tryz.underlying295
  a173 := Tryz.isAgg295
  z173 := Tryz.sizeOf295
  v173 := Tryz.zeroValue295
  t212 := Tryz.underlying311
  a212 := Tryz.isAgg311
  z212 := Tryz.sizeOf311
  v212 := Tryz.zeroValue311
  t213 := Tryz.underlying312
  a213 := Tryz.isAgg312
  z213 := Tryz.sizeOf312
  t232 := Tryz.underlying320
  a232 := Tryz.isAgg320
  z232 := Tryz.sizeOf320
  v232 := Tryz.zeroValue320
  t233 := Tryz.underlying321
  a233 := Tryz.isAgg321
  z233 := Tryz.sizeOf321
  v233 := Tryz.zeroValue321
  g17 := by kernel_rfl
  g18 := by kernel_rfl
  g19 := by kernel_rfl
  i0 := by kernel_rfl
  i2 := by kernel_rfl
  i3 := by kernel_rfl
  i4 := by kernel_rfl
  i5 := by kernel_rfl
  i9 := by kernel_rfl
  i20 := by kernel_rfl
  i37 := by kernel_rfl
  i46 := by kernel_rfl
  i51 := by kernel_rfl
  i53 := by kernel_rfl
  i171 := by kernel_rfl
  i173 := by kernel_rfl
  i212 := by kernel_rfl
  i232 := by kernel_rfl
  i233 := by kernel_rfl
  m17 := by kernel_rfl
  m18 := by kernel_rfl
  m19 := by kernel_rfl }
open Go.RowKit Go.Sort Go.Lib in
theorem Tryz.strconv_Itoa (n : Int) (h0 : -9223372036854775808 ≤ n) (h1 : n ≤ 9223372036854775807) (w : World) (htab : Lib.TabIs Tryz.prog w "internal/strconv.uint64pow10" .u64 Lib.pow10Tab) :
    Calls Tryz.prog 123 #[.int .i64 n] w fun e w' => e = .returned (.string ⟨(Lib.itoa n).toArray⟩) ∧ ∃ k os, w' = grow (w.drewN k) os := Any.strconv_Itoa Tryz.laysM171 n h0 h1 w htab
def Tryz.laysM249_ren : Go.Shelf.Ren := ⟨fun | 249 => 202 | 288 => 211 | 283 => 183 | 284 => 184 | 285 => 185 | 286 => 186 | 129 => 198 | 317 => 197 | 318 => 199 | 319 => 200 | 320 => 201 | 337 => 209 | 338 => 210 | n => n, fun | 37 => 22 | 2 => 2 | 3 => 3 | 53 => 211 | 4 => 4 | 9 => 9 | 171 => 292 | 0 => 0 | 173 => 295 | 212 => 311 | 51 => 69 | 5 => 5 | 20 => 20 | 213 => 312 | 46 => 175 | 232 => 320 | 233 => 321 | n => n, fun | 17 => 4 | 18 => 5 | 19 => 6 | n => n⟩
def Tryz.laysM176_ren : Go.Shelf.Ren := ⟨fun | 176 => 192 | 249 => 202 | 288 => 211 | 283 => 183 | 284 => 184 | 285 => 185 | 286 => 186 | 129 => 198 | 317 => 197 | 318 => 199 | 319 => 200 | 320 => 201 | 337 => 209 | 338 => 210 | n => n, fun | 37 => 22 | 2 => 2 | 3 => 3 | 53 => 211 | 4 => 4 | 9 => 9 | 171 => 292 | 0 => 0 | 173 => 295 | 212 => 311 | 51 => 69 | 5 => 5 | 20 => 20 | 213 => 312 | 46 => 175 | 232 => 320 | 233 => 321 | n => n, fun | 17 => 4 | 18 => 5 | 19 => 6 | n => n⟩
theorem Tryz.laysM176 : Go.Proofs.LaysM.n176 Tryz.prog Tryz.laysM176_ren := {
  mixed := by kernel_rfl
  f129 := Tryz.func198.trans (congrArg some (by kernel_rfl))
  f176 := Tryz.func192.trans (congrArg some (by kernel_rfl))
  f249 := Tryz.func202.trans (congrArg some (by kernel_rfl))
  f283 := Tryz.func183.trans (congrArg some (by kernel_rfl))
  f284 := Tryz.func184.trans (congrArg some (by kernel_rfl))
  f285 := Tryz.func185.trans (congrArg some (by kernel_rfl))
  f286 := Tryz.func186.trans (congrArg some (by kernel_rfl))
  f288 := Tryz.func211.trans (congrArg some (by kernel_rfl))
  f317 := Tryz.func197.trans (congrArg some (by kernel_rfl))
  f318 := Tryz.func199.trans (congrArg some (by kernel_rfl))
  f319 := Tryz.func200.trans (congrArg some (by kernel_rfl))
  f320 := Tryz.func201.trans (congrArg some (by kernel_rfl))
  f337 := Tryz.func209.trans (congrArg some (by kernel_rfl))
  f338 := Tryz.func210.trans (congrArg some (by kernel_rfl))
  t0 := Tryz.underlying0
  a0 := Tryz.isAgg0
  z0 := Tryz.sizeOf0
  v0 := Tryz.zeroValue0
  t2 := Tryz.underlying2
  a2 := Tryz.isAgg2
  z2 := Tryz.sizeOf2
  v2 := Tryz.zeroValue2
  t3 := Tryz.underlying3
  a3 := Tryz.isAgg3
  z3 := Tryz.sizeOf3
  v3 := Tryz.zeroValue3
  t4 := Tryz.underlying4
  a4 := Tryz.isAgg4
  z4 := Tryz.sizeOf4
  v4 := Tryz.zeroValue4
  t5 := Tryz.underlying5
  a5 := Tryz.isAgg5
  z5 := Tryz.sizeOf5
  v5 := Tryz.zeroValue5
  t9 := Tryz.underlying9
  a9 := Tryz.isAgg9
  z9 := Tryz.sizeOf9
  v9 := Tryz.zeroValue9
  t20 := Tryz.underlying20
  a20 := Tryz.isAgg20
  z20 := Tryz.sizeOf20
  v20 := Tryz.zeroValue20
  t37 := Tryz.underlying22
  a37 := Tryz.isAgg22
  z37 := Tryz.sizeOf22
  v37 := Tryz.zeroValue22
  t46 := Tryz.underlying175
  a46 := Tryz.isAgg175
  z46 := Tryz.sizeOf175
  v46 := Tryz.zeroValue175
  t51 := Tryz.underlying69
  a51 := Tryz.isAgg69
  z51 := Tryz.sizeOf69
  v51 := Tryz.zeroValue69
  t53 := Tryz.underlying211
  a53 := Tryz.isAgg211
  z53 := Tryz.sizeOf211
  v53 := Tryz.zeroValue211
  t171 := Tryz.underlying292
  a171 := Tryz.isAgg292
  z171 := Tryz.sizeOf292
  v171 := Tryz.zeroValue292
  t173 := Tryz.underlying295
  a173 := Tryz.isAgg295
  z173 := Tryz.sizeOf295
  v173 := Tryz.zeroValue295
  t212 := Tryz.underlying311
  a212 := Tryz.isAgg311
  z212 := Tryz.sizeOf311
  v212 := Tryz.zeroValue311
  t213 := Tryz.underlying312
  a213 := Tryz.isAgg312
  z213 := Tryz.sizeOf312
  t232 := Tryz.underlying320
  a232 := Tryz.isAgg320
  z232 := Tryz.sizeOf320
  v232 := Tryz.zeroValue320
  t233 := Tryz.underlying321
  a233 := Tryz.isAgg321
  z233 := Tryz.sizeOf321
  v233 := Tryz.zeroValue321
  g17 := by kernel_rfl
  g18 := by kernel_rfl
  g19 := by kernel_rfl
  i0 := by kernel_rfl
  i2 := by kernel_rfl
  i3 := by kernel_rfl
  i4 := by kernel_rfl
  i5 := by kernel_rfl
  i9 := by kernel_rfl
  i20 := by kernel_rfl
  i37 := by kernel_rfl
  i46 := by kernel_rfl
  i51 := by kernel_rfl
  i53 := by kernel_rfl
  i171 := by kernel_rfl
  i173 := by kernel_rfl
  i212 := by kernel_rfl
  i232 := by kernel_rfl
  i233 := by kernel_rfl
  m17 := by kernel_rfl
  m18 := by kernel_rfl
  m19 := by kernel_rfl }
open Go.RowKit Go.Sort Go.Lib in
theorem Tryz.strconv_AppendInt_10 (B n : Nat) (i : Int) (h0 : -9223372036854775808 ≤ i) (h1 : i ≤ 9223372036854775807) (sv : Value) (xs : List Value) (w : World) (hown : w.ownsRow B 5 1 sv n xs) (hBw : B ≤ w.heap.size) (hlim : n + 21 ≤ 140737488355328) (htab : Lib.TabBelow Tryz.prog B w "internal/strconv.uint64pow10" .u64 Lib.pow10Tab) :
    Calls Tryz.prog 192 #[sv, .int .i64 i, .int .i64 10] w fun e w' => ∃ v', e = .returned v' ∧ w'.ownsRow B 5 1 v' (n + (Lib.itoa i).length) (xs ++ Lib.byteCells (Lib.itoa i)) ∧ Below B w w' ∧ Lib.OthersKept 5 none w w' := Any.strconv_AppendInt_10 Tryz.laysM176 B n i h0 h1 sv xs w hown hBw hlim htab
def Tryz.lays206_ren : Go.Shelf.Ren := ⟨fun | 206 => 168 | n => n, fun | 9 => 9 | 4 => 4 | 3 => 3 | n => n, fun | n => n⟩
def Tryz.lays101_ren : Go.Shelf.Ren := ⟨fun | 101 => 122 | 208 => 153 | 206 => 168 | n => n, fun | 9 => 9 | 4 => 4 | 3 => 3 | n => n, fun | n => n⟩
theorem Tryz.lays101 : Go.Proofs.Lays.n101 Tryz.prog Tryz.lays101_ren := {
  mixed := by kernel_rfl
  f101 := Tryz.func122.trans (congrArg some (by kernel_rfl))
  f206 := Tryz.func168.trans (congrArg some (by kernel_rfl))
  f208 := Tryz.func153.trans (congrArg some (by kernel_rfl))
  t3 := Tryz.underlying3
  a3 := Tryz.isAgg3
  z3 := Tryz.sizeOf3
  v3 := Tryz.zeroValue3
  t4 := Tryz.underlying4
  a4 := Tryz.isAgg4
  z4 := Tryz.sizeOf4
  v4 := Tryz.zeroValue4
  t9 := Tryz.underlying9
  a9 := Tryz.isAgg9
  z9 := Tryz.sizeOf9
  v9 := Tryz.zeroValue9 }
open Go.RowKit Go.Lib in
theorem Tryz.strings_TrimPrefix (s p : ByteArray) (w : World) :
    Calls Tryz.prog 122 #[.string s, .string p] w fun e w' => e = .returned (.string ⟨(Lib.trimPrefix s.data.toList p.data.toList).toArray⟩) ∧ w' = w := Any.strings_TrimPrefix Tryz.lays101 s p w
def Tryz.lays212_ren : Go.Shelf.Ren := ⟨fun | 212 => 106 | 263 => 128 | 264 => 129 | n => n, fun | 46 => 175 | 51 => 69 | 146 => 209 | 53 => 211 | 148 => 212 | n => n, fun | n => n⟩
theorem Tryz.lays212 : Go.Proofs.Lays.n212 Tryz.prog Tryz.lays212_ren := {
  mixed := by kernel_rfl
  f212 := Tryz.func106.trans (congrArg some (by kernel_rfl))
  f263 := Tryz.func128.trans (congrArg some (by kernel_rfl))
  f264 := Tryz.func129.trans (congrArg some (by kernel_rfl))
  t46 := Tryz.underlying175
  a46 := Tryz.isAgg175
  z46 := Tryz.sizeOf175
  v46 := Tryz.zeroValue175
  t51 := Tryz.underlying69
  a51 := Tryz.isAgg69
  z51 := Tryz.sizeOf69
  v51 := Tryz.zeroValue69
  t53 := Tryz.underlying211
  a53 := Tryz.isAgg211
  z53 := Tryz.sizeOf211
  v53 := Tryz.zeroValue211
  t146 := Tryz.underlying209
  a146 := Tryz.isAgg209
  z146 := Tryz.sizeOf209
  v146 := Tryz.zeroValue209
  t148 := Tryz.underlying212
  a148 := Tryz.isAgg212
  z148 := Tryz.sizeOf212
  v148 := Tryz.zeroValue212 }
open Go.RowKit Go.Lib in
theorem Tryz.bits_Mul (x y : Nat) (hx : x < 18446744073709551616) (hy : y < 18446744073709551616) (w : World) :
    Calls Tryz.prog 106 #[.int .u64 x, .int .u64 y] w fun e w' => e = .returned (.tuple #[.int .u64 ((x * y / 18446744073709551616 : Nat) : Int), .int .u64 ((x * y % 18446744073709551616 : Nat) : Int)]) ∧ w' = w := Any.bits_Mul Tryz.lays212 x y hx hy w
def Tryz.laysN732_ren : Go.Shelf.Ren := ⟨fun | 32 => 96 | 49 => 117 | n => n, fun | 30 => 22 | 21 => 21 | 3 => 3 | 0 => 0 | 5 => 5 | 4 => 4 | 33 => 161 | 66 => 233 | 25 => 175 | 69 => 236 | 68 => 235 | n => n, fun | 2 => 1 | 3 => 2 | n => n⟩
theorem Tryz.laysN732 : Go.Proofs.Lays7.n32 Tryz.prog Tryz.laysN732_ren := {
  mixed := by kernel_rfl
  f32 := Tryz.func96.trans (congrArg some (by kernel_rfl))
  f49 := Tryz.func117.trans (congrArg some (by kernel_rfl))
  t0 := Tryz.underlying0
  a0 := Tryz.isAgg0
  z0 := Tryz.sizeOf0
  v0 := Tryz.zeroValue0
  i0 := by kernel_rfl
  t3 := Tryz.underlying3
  a3 := Tryz.isAgg3
  z3 := Tryz.sizeOf3
  v3 := Tryz.zeroValue3
  i3 := by kernel_rfl
  t4 := Tryz.underlying4
  a4 := Tryz.isAgg4
  z4 := Tryz.sizeOf4
  v4 := Tryz.zeroValue4
  i4 := by kernel_rfl
  t5 := Tryz.underlying5
  a5 := Tryz.isAgg5
  z5 := Tryz.sizeOf5
  v5 := Tryz.zeroValue5
  i5 := by kernel_rfl
  t21 := Tryz.underlying21
  a21 := Tryz.isAgg21
  z21 := Tryz.sizeOf21
  v21 := Tryz.zeroValue21
  i21 := by kernel_rfl
  t25 := Tryz.underlying175
  a25 := Tryz.isAgg175
  z25 := Tryz.sizeOf175
  v25 := Tryz.zeroValue175
  i25 := by kernel_rfl
  t30 := Tryz.underlying22
  a30 := Tryz.isAgg22
  z30 := Tryz.sizeOf22
  v30 := Tryz.zeroValue22
  i30 := by kernel_rfl
  t33 := Tryz.underlying161
  a33 := Tryz.isAgg161
  z33 := Tryz.sizeOf161
  v33 := Tryz.zeroValue161
  i33 := by kernel_rfl
  t66 := Tryz.underlying233
  a66 := Tryz.isAgg233
  z66 := Tryz.sizeOf233
  t68 := Tryz.underlying235
  a68 := Tryz.isAgg235
  z68 := Tryz.sizeOf235
  v68 := Tryz.zeroValue235
  i68 := by kernel_rfl
  t69 := Tryz.underlying236
  a69 := Tryz.isAgg236
  z69 := Tryz.sizeOf236
  v69 := Tryz.zeroValue236
  i69 := by kernel_rfl
  g2 := by kernel_rfl
  g3 := by kernel_rfl }
theorem Tryz.utf8_DecodeRune (s : ByteArray) (b off cap : Nat) (w : World) (hT : Lib.Utf8Tabs 1 2 w) (hp : ∀ j, j < s.size → w.cell? ⟨b, off + j, none⟩ = some (.int .u8 (s.get! j).toNat)) :
    Calls Tryz.prog 96 #[.slice (some ⟨b, off, none⟩) s.size cap] w fun e w' => e = .returned (.tuple #[.int .i32 (Lib.decodeGo s).1, .int .i64 (Lib.decodeGo s).2]) ∧ RowKit.Below w.heap.size w w' := Any7.utf8_DecodeRune Tryz.laysN732 s b off cap w hT hp
end Go.Proofs
