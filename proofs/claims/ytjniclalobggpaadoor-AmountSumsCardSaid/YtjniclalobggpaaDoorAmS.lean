/-
  The library's contracts at this program, laid by the kit's own program (lay-shelf, lay-plain): bits.LeadingZeros64, strings.CutPrefix, stringslite.Index, strings.ContainsFunc, strconv.ParseUint, internal/strconv.small, numDigits, formatBase10. No statement is proved here.
-/
import Derived.Shelf.Small.Bits
import Derived.Shelf.Small.Wraps
import Derived.Shelf.Strconv.Itoa0
import Derived.Shelf.Strconv.Itoa1
import Derived.Shelf.LaysM
import Derived.Shelf.Strconv.Itoa2
import Derived.Shelf.Strconv.ParseUint10
import Derived.Shelf.Strconv.ParseUint10b64
import Derived.Shelf.Strconv.ParseUint10At
import Derived.Shelf.Pu.ParseUintPublic10
import Derived.Shelf.Strings.Search1
import Derived.Shelf.Strings.Search2
import Derived.Shelf.GgClosure.StringsIndexFunc
import Derived.Shelf.GgClosure.StringsIndexFuncTop
import Derived.Test.YtjniclalobggpaaDoorBytes
namespace Go.Proofs.YtjniclalobggpaaDoor
open Go.Shelf
set_option linter.unusedVariables false
def lays134_ren : Go.Shelf.Ren := ⟨fun | 134 => 56 | 129 => 66 | n => n, fun | 53 => 49 | 3 => 3 | 4 => 4 | 46 => 65 | 5 => 5 | 9 => 9 | n => n, fun | n => n⟩
theorem lays134 : Go.Proofs.Lays.n134 Tryd.prog lays134_ren := {
  mixed := by kernel_rfl
  f129 := Tryd.func66.trans (congrArg some (by kernel_rfl))
  f134 := Tryd.func56.trans (congrArg some (by kernel_rfl))
  t3 := Tryd.underlying3
  a3 := Tryd.isAgg3
  z3 := Tryd.sizeOf3
  v3 := Tryd.zeroValue3
  t4 := Tryd.underlying4
  a4 := Tryd.isAgg4
  z4 := Tryd.sizeOf4
  v4 := Tryd.zeroValue4
  t5 := Tryd.underlying5
  a5 := Tryd.isAgg5
  z5 := Tryd.sizeOf5
  v5 := Tryd.zeroValue5
  t9 := Tryd.underlying9
  a9 := Tryd.isAgg9
  z9 := Tryd.sizeOf9
  v9 := Tryd.zeroValue9
  t46 := Tryd.underlying65
  a46 := Tryd.isAgg65
  z46 := Tryd.sizeOf65
  v46 := Tryd.zeroValue65
  t53 := Tryd.underlying49
  a53 := Tryd.isAgg49
  z53 := Tryd.sizeOf49
  v53 := Tryd.zeroValue49 }
theorem bits_LeadingZeros64 (x : Int) (w : World) (h0 : 0 ≤ x) (h1 : x ≤ 18446744073709551615) :
    Calls Tryd.prog 56 #[.int .u64 x] w fun e w' => e = .returned (.int .i64 (64 - (Lib.bitLen x.toNat : Int))) ∧ w' = w := Any.bits_LeadingZeros64 lays134 x w h0 h1
def lays103_ren : Go.Shelf.Ren := ⟨fun | 103 => 45 | 210 => 60 | 206 => 69 | n => n, fun | 9 => 9 | 4 => 4 | 24 => 76 | 3 => 3 | n => n, fun | n => n⟩
theorem lays103 : Go.Proofs.Lays.n103 Tryd.prog lays103_ren := {
  mixed := by kernel_rfl
  f103 := Tryd.func45.trans (congrArg some (by kernel_rfl))
  f206 := Tryd.func69.trans (congrArg some (by kernel_rfl))
  f210 := Tryd.func60.trans (congrArg some (by kernel_rfl))
  t3 := Tryd.underlying3
  a3 := Tryd.isAgg3
  z3 := Tryd.sizeOf3
  v3 := Tryd.zeroValue3
  t4 := Tryd.underlying4
  a4 := Tryd.isAgg4
  z4 := Tryd.sizeOf4
  v4 := Tryd.zeroValue4
  t9 := Tryd.underlying9
  a9 := Tryd.isAgg9
  z9 := Tryd.sizeOf9
  v9 := Tryd.zeroValue9
  t24 := Tryd.underlying76
  a24 := Tryd.isAgg76
  z24 := Tryd.sizeOf76
  v24 := Tryd.zeroValue76 }
open Go.RowKit in
theorem strings_CutPrefix (s p : ByteArray) (w : World) :
    Calls Tryd.prog 45 #[.string s, .string p] w fun e w' => e = .returned (.tuple #[.string ⟨(Lib.trimPrefix s.data.toList p.data.toList).toArray⟩, .bool (Lib.hasPrefix s.data.toList p.data.toList)]) ∧ w' = w := Any.strings_CutPrefix lays103 s p w
def lays283_ren : Go.Shelf.Ren := ⟨fun | 283 => 78 | n => n, fun | 3 => 3 | 9 => 9 | 4 => 4 | n => n, fun | n => n⟩
theorem lays283 : Go.Proofs.Lays.n283 Tryd.prog lays283_ren := {
  mixed := by kernel_rfl
  f283 := Tryd.func78.trans (congrArg some (by kernel_rfl))
  t3 := Tryd.underlying3
  a3 := Tryd.isAgg3
  z3 := Tryd.sizeOf3
  v3 := Tryd.zeroValue3
  t4 := Tryd.underlying4
  a4 := Tryd.isAgg4
  z4 := Tryd.sizeOf4
  v4 := Tryd.zeroValue4
  t9 := Tryd.underlying9
  a9 := Tryd.isAgg9
  z9 := Tryd.sizeOf9
  v9 := Tryd.zeroValue9 }
open Go.Lib in
theorem internal_strconv_small (i : Nat) (h : i < 100) (w : World) :
    Calls Tryd.prog 78 #[.int .i64 i] w fun e w' => e = .returned (.string ⟨(Lib.decDigits i).toArray⟩) ∧ w' = w := Any.internal_strconv_small lays283 i h w
def laysM284_ren : Go.Shelf.Ren := ⟨fun | 284 => 79 | 129 => 66 | 317 => 90 | 318 => 91 | n => n, fun | 53 => 49 | 3 => 3 | 212 => 58 | 0 => 0 | 4 => 4 | 46 => 65 | 5 => 5 | 9 => 9 | n => n, fun | 17 => 5 | n => n⟩
theorem laysM284 : Go.Proofs.LaysM.n284 Tryd.prog laysM284_ren := {
  mixed := by kernel_rfl
  f129 := Tryd.func66.trans (congrArg some (by kernel_rfl))
  f284 := Tryd.func79.trans (congrArg some (by kernel_rfl))
  f317 := Tryd.func90.trans (congrArg some (by kernel_rfl))
  f318 := Tryd.func91.trans (congrArg some (by kernel_rfl))
  t0 := Tryd.underlying0
  a0 := Tryd.isAgg0
  z0 := Tryd.sizeOf0
  v0 := Tryd.zeroValue0
  t3 := Tryd.underlying3
  a3 := Tryd.isAgg3
  z3 := Tryd.sizeOf3
  v3 := Tryd.zeroValue3
  t4 := Tryd.underlying4
  a4 := Tryd.isAgg4
  z4 := Tryd.sizeOf4
  v4 := Tryd.zeroValue4
  t5 := Tryd.underlying5
  a5 := Tryd.isAgg5
  z5 := Tryd.sizeOf5
  v5 := Tryd.zeroValue5
  t9 := Tryd.underlying9
  a9 := Tryd.isAgg9
  z9 := Tryd.sizeOf9
  v9 := Tryd.zeroValue9
  t46 := Tryd.underlying65
  a46 := Tryd.isAgg65
  z46 := Tryd.sizeOf65
  v46 := Tryd.zeroValue65
  t53 := Tryd.underlying49
  a53 := Tryd.isAgg49
  z53 := Tryd.sizeOf49
  v53 := Tryd.zeroValue49
  t212 := Tryd.underlying58
  a212 := Tryd.isAgg58
  z212 := Tryd.sizeOf58
  v212 := Tryd.zeroValue58
  g17 := by kernel_rfl
  i0 := by kernel_rfl
  i3 := by kernel_rfl
  i4 := by kernel_rfl
  i5 := by kernel_rfl
  i9 := by kernel_rfl
  i46 := by kernel_rfl
  i53 := by kernel_rfl
  i212 := by kernel_rfl
  m17 := by kernel_rfl }
open Go.Lib in
theorem internal_strconv_numDigits (u : Nat) (h1 : 1 ≤ u) (h2 : u < 18446744073709551616) (w : World) (htab : Lib.TabIs Tryd.prog w "internal/strconv.uint64pow10" .u64 Lib.pow10Tab) :
    Calls Tryd.prog 79 #[.int .u64 u] w fun e w' => e = .returned (.int .i64 (Lib.nDigits u)) ∧ w' = w := Any.internal_strconv_numDigits laysM284 u h1 h2 w htab
def lays285_ren : Go.Shelf.Ren := ⟨fun | 285 => 80 | n => n, fun | 37 => 101 | 53 => 49 | 3 => 3 | 4 => 4 | 51 => 117 | 9 => 9 | 5 => 5 | 0 => 0 | n => n, fun | n => n⟩
theorem lays285 : Go.Proofs.Lays.n285 Tryd.prog lays285_ren := {
  mixed := by kernel_rfl
  f285 := Tryd.func80.trans (congrArg some (by kernel_rfl))
  t0 := Tryd.underlying0
  a0 := Tryd.isAgg0
  z0 := Tryd.sizeOf0
  v0 := Tryd.zeroValue0
  t3 := Tryd.underlying3
  a3 := Tryd.isAgg3
  z3 := Tryd.sizeOf3
  v3 := Tryd.zeroValue3
  t4 := Tryd.underlying4
  a4 := Tryd.isAgg4
  z4 := Tryd.sizeOf4
  v4 := Tryd.zeroValue4
  t5 := Tryd.underlying5
  a5 := Tryd.isAgg5
  z5 := Tryd.sizeOf5
  v5 := Tryd.zeroValue5
  t9 := Tryd.underlying9
  a9 := Tryd.isAgg9
  z9 := Tryd.sizeOf9
  v9 := Tryd.zeroValue9
  t37 := Tryd.underlying101
  a37 := Tryd.isAgg101
  z37 := Tryd.sizeOf101
  v37 := Tryd.zeroValue101
  t51 := Tryd.underlying117
  a51 := Tryd.isAgg117
  z51 := Tryd.sizeOf117
  v51 := Tryd.zeroValue117
  t53 := Tryd.underlying49
  a53 := Tryd.isAgg49
  z53 := Tryd.sizeOf49
  v53 := Tryd.zeroValue49 }
open Go.RowKit Go.Sort Go.Lib in
theorem internal_strconv_formatBase10 (blk off cap : Nat) (u : Nat) (d : Array UInt8) (w : World) (hH : Holds (fun (b : UInt8) => Value.int .u8 (b.toNat : Int)) w blk off d) (hu : u < 10 ^ d.size) (hu64 : u < 18446744073709551616) (hsz : d.size < 4611686018427387904) :
    Calls Tryd.prog 80 #[.slice (some ⟨blk, off, none⟩) d.size cap, .int .u64 u] w fun e w' =>
      e = .returned (.tuple #[]) ∧ ∃ (n v' : Nat) (dk : Array UInt8), w' = (putRow (fun (b : UInt8) => Value.int .u8 (b.toNat : Int)) w blk off dk).drewN n ∧ FmtInv d.size u 0 v' dk := Any.internal_strconv_formatBase10 lays285 blk off cap u d w hH hu hu64 hsz
def laysPu14_ren : Go.Shelf.Ren := ⟨fun | 14 => 50 | 16 => 63 | 17 => 64 | 19 => 72 | 20 => 73 | 21 => 74 | 22 => 75 | 23 => 76 | 24 => 77 | 25 => 87 | 27 => 89 | 26 => 88 | 28 => 97 | 29 => 100 | 30 => 78 | 31 => 79 | 32 => 80 | 33 => 81 | 35 => 66 | 34 => 90 | 36 => 91 | 37 => 92 | 38 => 93 | 39 => 98 | 40 => 99 | n => n, fun | 9 => 9 | 3 => 3 | 22 => 49 | 24 => 84 | 25 => 85 | 4 => 4 | 34 => 99 | 5 => 5 | 36 => 65 | 37 => 101 | 0 => 0 | 39 => 102 | 21 => 21 | 44 => 114 | 47 => 123 | 50 => 126 | 48 => 124 | 2 => 2 | 52 => 106 | 55 => 108 | 59 => 58 | 60 => 117 | 20 => 20 | 61 => 118 | 65 => 129 | 66 => 130 | 67 => 131 | n => n, fun | 0 => 3 | 1 => 4 | 2 => 5 | 3 => 6 | 4 => 7 | n => n⟩
theorem laysPu14 : Go.Proofs.LaysPu.n14 Tryd.prog laysPu14_ren := {
  mixed := by kernel_rfl
  f14 := Tryd.func50.trans (congrArg some (by kernel_rfl))
  f16 := Tryd.func63.trans (congrArg some (by kernel_rfl))
  f17 := Tryd.func64.trans (congrArg some (by kernel_rfl))
  f19 := Tryd.func72.trans (congrArg some (by kernel_rfl))
  f20 := Tryd.func73.trans (congrArg some (by kernel_rfl))
  f21 := Tryd.func74.trans (congrArg some (by kernel_rfl))
  f22 := Tryd.func75.trans (congrArg some (by kernel_rfl))
  f23 := Tryd.func76.trans (congrArg some (by kernel_rfl))
  f24 := Tryd.func77.trans (congrArg some (by kernel_rfl))
  f25 := Tryd.func87.trans (congrArg some (by kernel_rfl))
  f26 := Tryd.func88.trans (congrArg some (by kernel_rfl))
  f27 := Tryd.func89.trans (congrArg some (by kernel_rfl))
  f28 := Tryd.func97.trans (congrArg some (by kernel_rfl))
  f29 := Tryd.func100.trans (congrArg some (by kernel_rfl))
  f30 := Tryd.func78.trans (congrArg some (by kernel_rfl))
  f31 := Tryd.func79.trans (congrArg some (by kernel_rfl))
  f32 := Tryd.func80.trans (congrArg some (by kernel_rfl))
  f33 := Tryd.func81.trans (congrArg some (by kernel_rfl))
  f34 := Tryd.func90.trans (congrArg some (by kernel_rfl))
  f35 := Tryd.func66.trans (congrArg some (by kernel_rfl))
  f36 := Tryd.func91.trans (congrArg some (by kernel_rfl))
  f37 := Tryd.func92.trans (congrArg some (by kernel_rfl))
  f38 := Tryd.func93.trans (congrArg some (by kernel_rfl))
  f39 := Tryd.func98.trans (congrArg some (by kernel_rfl))
  f40 := Tryd.func99.trans (congrArg some (by kernel_rfl))
  t0 := Tryd.underlying0
  a0 := Tryd.isAgg0
  z0 := Tryd.sizeOf0
  v0 := Tryd.zeroValue0
  i0 := by kernel_rfl
  t2 := Tryd.underlying2
  a2 := Tryd.isAgg2
  z2 := Tryd.sizeOf2
  v2 := Tryd.zeroValue2
  i2 := by kernel_rfl
  t3 := Tryd.underlying3
  a3 := Tryd.isAgg3
  z3 := Tryd.sizeOf3
  v3 := Tryd.zeroValue3
  i3 := by kernel_rfl
  t4 := Tryd.underlying4
  a4 := Tryd.isAgg4
  z4 := Tryd.sizeOf4
  v4 := Tryd.zeroValue4
  i4 := by kernel_rfl
  t5 := Tryd.underlying5
  a5 := Tryd.isAgg5
  z5 := Tryd.sizeOf5
  v5 := Tryd.zeroValue5
  i5 := by kernel_rfl
  t9 := Tryd.underlying9
  a9 := Tryd.isAgg9
  z9 := Tryd.sizeOf9
  v9 := Tryd.zeroValue9
  i9 := by kernel_rfl
  t20 := Tryd.underlying20
  a20 := Tryd.isAgg20
  z20 := Tryd.sizeOf20
  v20 := Tryd.zeroValue20
  i20 := by kernel_rfl
  t21 := Tryd.underlying21
  a21 := Tryd.isAgg21
  z21 := Tryd.sizeOf21
  v21 := Tryd.zeroValue21
  i21 := by kernel_rfl
  t22 := Tryd.underlying49
  a22 := Tryd.isAgg49
  z22 := Tryd.sizeOf49
  v22 := Tryd.zeroValue49
  i22 := by kernel_rfl
  t24 := Tryd.underlying84
  a24 := Tryd.isAgg84
  z24 := Tryd.sizeOf84
  v24 := Tryd.zeroValue84
  i24 := by kernel_rfl
  t25 := Tryd.underlying85
  a25 := Tryd.isAgg85
  z25 := Tryd.sizeOf85
  v25 := Tryd.zeroValue85
  i25 := by kernel_rfl
  t34 := Tryd.underlying99
  a34 := Tryd.isAgg99
  z34 := Tryd.sizeOf99
  v34 := Tryd.zeroValue99
  i34 := by kernel_rfl
  c34 := by kernel_rfl
  t36 := Tryd.underlying65
  a36 := Tryd.isAgg65
  z36 := Tryd.sizeOf65
  v36 := Tryd.zeroValue65
  i36 := by kernel_rfl
  t37 := Tryd.underlying101
  a37 := Tryd.isAgg101
  z37 := Tryd.sizeOf101
  v37 := Tryd.zeroValue101
  i37 := by kernel_rfl
  t39 := Tryd.underlying102
  a39 := Tryd.isAgg102
  z39 := Tryd.sizeOf102
  v39 := Tryd.zeroValue102
  i39 := by kernel_rfl
  t44 := Tryd.underlying114
  a44 := Tryd.isAgg114
  z44 := Tryd.sizeOf114
  v44 := Tryd.zeroValue114
  i44 := by kernel_rfl
  t47 := Tryd.underlying123
  a47 := Tryd.isAgg123
  z47 := Tryd.sizeOf123
  v47 := Tryd.zeroValue123
  i47 := by kernel_rfl
  t48 := Tryd.underlying124
  a48 := Tryd.isAgg124
  z48 := Tryd.sizeOf124
  v48 := Tryd.zeroValue124
  i48 := by kernel_rfl
  t50 := Tryd.underlying126
  a50 := Tryd.isAgg126
  z50 := Tryd.sizeOf126
  v50 := Tryd.zeroValue126
  i50 := by kernel_rfl
  t52 := Tryd.underlying106
  a52 := Tryd.isAgg106
  z52 := Tryd.sizeOf106
  v52 := Tryd.zeroValue106
  i52 := by kernel_rfl
  t55 := Tryd.underlying108
  a55 := Tryd.isAgg108
  z55 := Tryd.sizeOf108
  v55 := Tryd.zeroValue108
  i55 := by kernel_rfl
  t59 := Tryd.underlying58
  a59 := Tryd.isAgg58
  z59 := Tryd.sizeOf58
  v59 := Tryd.zeroValue58
  i59 := by kernel_rfl
  t60 := Tryd.underlying117
  a60 := Tryd.isAgg117
  z60 := Tryd.sizeOf117
  v60 := Tryd.zeroValue117
  i60 := by kernel_rfl
  t61 := Tryd.underlying118
  a61 := Tryd.isAgg118
  z61 := Tryd.sizeOf118
  t65 := Tryd.underlying129
  a65 := Tryd.isAgg129
  z65 := Tryd.sizeOf129
  v65 := Tryd.zeroValue129
  i65 := by kernel_rfl
  t66 := Tryd.underlying130
  a66 := Tryd.isAgg130
  z66 := Tryd.sizeOf130
  v66 := Tryd.zeroValue130
  i66 := by kernel_rfl
  t67 := Tryd.underlying131
  a67 := Tryd.isAgg131
  z67 := Tryd.sizeOf131
  v67 := Tryd.zeroValue131
  i67 := by kernel_rfl
  g0 := by kernel_rfl
  m0 := by kernel_rfl
  g1 := by kernel_rfl
  m1 := by kernel_rfl
  g2 := by kernel_rfl
  m2 := by kernel_rfl
  g3 := by kernel_rfl
  m3 := by kernel_rfl
  g4 := by kernel_rfl
  m4 := by kernel_rfl }
open Go.RowKit in
theorem strconv_ParseUint_10_at64_ok (s : ByteArray) (hmax : s.size ≤ 9223372036854775806) (u : Nat) (h : Lib.parseUintB 64 s.data.toList = .ok u) (w : World) :
    Calls Tryd.prog 50 #[.string s, .int .i64 10, .int .i64 64] w fun e w' => e = .returned (.tuple #[.int .u64 u, .nilIface]) ∧ (w' = w ∨ w' = Lib.bytesWorld w 5 s) := Any.strconv_ParseUint_10_at64_ok laysPu14 s hmax u h w
open Go.RowKit in
theorem strconv_ParseUint_10_at64_range (s : ByteArray) (hlim : s.size ≤ 281474976710656) (h : Lib.parseUintB 64 s.data.toList = .range) (ev : Value) (w : World) (hv : w.cell? ⟨4, 0, none⟩ = some ev) (hev : ev = .nilIface ∨ ∃ te pe, ev = .iface te pe) :
    Calls Tryd.prog 50 #[.string s, .int .i64 10, .int .i64 64] w fun e w' => ∃ N, e = .returned (.tuple #[.int .u64 18446744073709551615, .iface 102 (.pointer (some ⟨N, 0, none⟩))]) ∧ w.heap.size ≤ N ∧ w'.heap[N]? = some (.cells #[.string ⟨#[80, 97, 114, 115, 101, 85, 105, 110, 116]⟩, .string s, ev] 114 (0, 0)) ∧ Below w.heap.size w w' := Any.strconv_ParseUint_10_at64_range laysPu14 s hlim h ev w hv hev
def lays219_ren : Go.Shelf.Ren := ⟨fun | 219 => 70 | 217 => 83 | 225 => 84 | 224 => 85 | 267 => 86 | 266 => 95 | 314 => 96 | n => n, fun | 9 => 9 | 3 => 3 | 4 => 4 | 5 => 5 | 46 => 65 | 146 => 121 | 51 => 117 | n => n, fun | 1 => 2 | n => n⟩
theorem lays219 : Go.Proofs.Lays.n219 Tryd.prog lays219_ren := {
  mixed := by kernel_rfl
  f217 := Tryd.func83.trans (congrArg some (by kernel_rfl))
  f219 := Tryd.func70.trans (congrArg some (by kernel_rfl))
  f224 := Tryd.func85.trans (congrArg some (by kernel_rfl))
  f225 := Tryd.func84.trans (congrArg some (by kernel_rfl))
  f266 := Tryd.func95.trans (congrArg some (by kernel_rfl))
  f267 := Tryd.func86.trans (congrArg some (by kernel_rfl))
  f314 := Tryd.func96.trans (congrArg some (by kernel_rfl))
  t3 := Tryd.underlying3
  a3 := Tryd.isAgg3
  z3 := Tryd.sizeOf3
  v3 := Tryd.zeroValue3
  t4 := Tryd.underlying4
  a4 := Tryd.isAgg4
  z4 := Tryd.sizeOf4
  v4 := Tryd.zeroValue4
  t5 := Tryd.underlying5
  a5 := Tryd.isAgg5
  z5 := Tryd.sizeOf5
  v5 := Tryd.zeroValue5
  t9 := Tryd.underlying9
  a9 := Tryd.isAgg9
  z9 := Tryd.sizeOf9
  v9 := Tryd.zeroValue9
  t46 := Tryd.underlying65
  a46 := Tryd.isAgg65
  z46 := Tryd.sizeOf65
  v46 := Tryd.zeroValue65
  t51 := Tryd.underlying117
  a51 := Tryd.isAgg117
  z51 := Tryd.sizeOf117
  v51 := Tryd.zeroValue117
  t146 := Tryd.underlying121
  a146 := Tryd.isAgg121
  z146 := Tryd.sizeOf121
  v146 := Tryd.zeroValue121
  g1 := by kernel_rfl }
open Go.RowKit Go.Lib in
theorem stringslite_Index_one (s : ByteArray) (c : UInt8) (w : World) :
    Calls Tryd.prog 70 #[.string s, .string ⟨#[c]⟩] w fun e w' => e = .returned (.int .i64 (Lib.indexByte s.data.toList c)) ∧ w' = w := Any.stringslite_Index_one lays219 s c w
def laysGw17_ren : Go.Shelf.Ren := ⟨fun | 17 => 48 | 15 => 62 | 20 => 71 | n => n, fun | 9 => 9 | 23 => 81 | 4 => 4 | 3 => 3 | 0 => 0 | 21 => 21 | n => n, fun | n => n⟩
theorem laysGw17 : Go.Proofs.LaysGw.n17 Tryd.prog laysGw17_ren := {
  mixed := by kernel_rfl
  f15 := Tryd.func62.trans (congrArg some (by kernel_rfl))
  f17 := Tryd.func48.trans (congrArg some (by kernel_rfl))
  f20 := Tryd.func71.trans (congrArg some (by kernel_rfl))
  t0 := Tryd.underlying0
  a0 := Tryd.isAgg0
  z0 := Tryd.sizeOf0
  v0 := Tryd.zeroValue0
  i0 := by kernel_rfl
  t3 := Tryd.underlying3
  a3 := Tryd.isAgg3
  z3 := Tryd.sizeOf3
  v3 := Tryd.zeroValue3
  i3 := by kernel_rfl
  t4 := Tryd.underlying4
  a4 := Tryd.isAgg4
  z4 := Tryd.sizeOf4
  v4 := Tryd.zeroValue4
  i4 := by kernel_rfl
  t9 := Tryd.underlying9
  a9 := Tryd.isAgg9
  z9 := Tryd.sizeOf9
  v9 := Tryd.zeroValue9
  i9 := by kernel_rfl
  t21 := Tryd.underlying21
  a21 := Tryd.isAgg21
  z21 := Tryd.sizeOf21
  v21 := Tryd.zeroValue21
  i21 := by kernel_rfl
  t23 := Tryd.underlying81
  a23 := Tryd.isAgg81
  z23 := Tryd.sizeOf81
  v23 := Tryd.zeroValue81
  i23 := by kernel_rfl }
open Go.RowKit Go.Lib in
theorem strings_ContainsFunc (g : Nat) (lb : Array Value) (eg : ∀ args w, (callFunc g args).run Tryd.prog w = .ok (.enter g args) w) (p : Nat → Bool) (s : ByteArray) (w : World) (hp : PredAt Tryd.prog g lb encR p w) :
    Calls Tryd.prog 48 #[.string s, .func (.func g) #[] lb] w fun e w' => e = .returned (.bool (decide (0 ≤ Lib.idxFunc p true s))) ∧ Below w.heap.size w w' := Any.strings_ContainsFunc laysGw17 g lb eg p s w hp
end Go.Proofs.YtjniclalobggpaaDoor
