/- The texts of stamps: TxtA; a seat's own text, no law of its own. -/
import Derived.Test.YthfaacheolhjnaaDoorMStampOrdersx2
import Derived.Shelf.Strconv.Itoa1
import Derived.Shelf.Strconv.Itoa2
import Derived.Shelf.Pu.ErrVarParseUint
import Derived.Shelf.Strings.Search2
import Derived.Ground.MpProg
import Derived.Ground.NamesProg
import Derived.Lib.AppendIntMem
import Derived.Lib.ItoaMem
import Derived.Lib.ItoaLen
import Derived.Lib.ItoaWalk
import Derived.Lib.ParseIntB
import Derived.Lib.SmallJoins
import Derived.Lib.LaidTab
import Derived.Deep.LoopGhost
import Derived.Deep.Cut
import Derived.Deep.CutRange
import Derived.Deep.CutBlock
import Derived.Lib.Hide
import Derived.StillTailTactics
import Derived.Deep.QuietTactic
import Derived.BigQuiet
import Derived.Outline
import Derived.Deep.RegionWith
import Derived.Deep.RegionHeld3
import Derived.WalkLawsBesides
namespace Go.Proofs.YthfaacheolhjnaaDoor.Txt
open Go.Shelf Go.RowKit Go.Proofs.YthfaacheolhjnaaDoorW.PrintWords Go.Joins Go.Proofs.YthfaacheolhjnaaDoor.MStampOrders Go.Proofs.YthfaacheolhjnaaDoorW.PrintLast
set_option linter.unusedVariables false
set_option linter.unusedSimpArgs false
open Go.Shelf
def lays283_ren : Go.Shelf.Ren := ⟨fun | 283 => 35 | n => n, fun | 3 => 3 | 9 => 9 | 4 => 4 | n => n, fun | n => n⟩
theorem lays283 : Go.Proofs.Lays.n283 Tryd.prog lays283_ren := {
  mixed := by kernel_rfl
  f283 := Tryd.func35.trans (congrArg some (by kernel_rfl))
  t3 := Tryd.underlying3
  a3 := Tryd.isAgg3
  z3 := Tryd.sizeOf3
  v3 := Tryd.zeroValue3
  t4 := Tryd.underlying4
  a4 := Tryd.isAgg4
  z4 := Tryd.sizeOf4
  v4 := Tryd.zeroValue4
  t9 := Tryd.underlying9
  a9 := Tryd.isAgg9
  z9 := Tryd.sizeOf9
  v9 := Tryd.zeroValue9 }
open Go.Lib in
theorem internal_strconv_small (i : Nat) (h : i < 100) (w : World) :
    Calls Tryd.prog 35 #[.int .i64 i] w fun e w' => e = .returned (.string ⟨(Lib.decDigits i).toArray⟩) ∧ w' = w := Any.internal_strconv_small lays283 i h w
def laysM284_ren : Go.Shelf.Ren := ⟨fun | 284 => 36 | 129 => 47 | 317 => 46 | 318 => 48 | n => n, fun | 53 => 22 | 3 => 3 | 212 => 80 | 0 => 0 | 4 => 4 | 46 => 73 | 5 => 5 | 9 => 9 | n => n, fun | 17 => 0 | n => n⟩
theorem laysM284 : Go.Proofs.LaysM.n284 Tryd.prog laysM284_ren := {
  mixed := by kernel_rfl
  f129 := Tryd.func47.trans (congrArg some (by kernel_rfl))
  f284 := Tryd.func36.trans (congrArg some (by kernel_rfl))
  f317 := Tryd.func46.trans (congrArg some (by kernel_rfl))
  f318 := Tryd.func48.trans (congrArg some (by kernel_rfl))
  t0 := Tryd.underlying0
  a0 := Tryd.isAgg0
  z0 := Tryd.sizeOf0
  v0 := Tryd.zeroValue0
  t3 := Tryd.underlying3
  a3 := Tryd.isAgg3
  z3 := Tryd.sizeOf3
  v3 := Tryd.zeroValue3
  t4 := Tryd.underlying4
  a4 := Tryd.isAgg4
  z4 := Tryd.sizeOf4
  v4 := Tryd.zeroValue4
  t5 := Tryd.underlying5
  a5 := Tryd.isAgg5
  z5 := Tryd.sizeOf5
  v5 := Tryd.zeroValue5
  t9 := Tryd.underlying9
  a9 := Tryd.isAgg9
  z9 := Tryd.sizeOf9
  v9 := Tryd.zeroValue9
  t46 := Tryd.underlying73
  a46 := Tryd.isAgg73
  z46 := Tryd.sizeOf73
  v46 := Tryd.zeroValue73
  t53 := Tryd.underlying22
  a53 := Tryd.isAgg22
  z53 := Tryd.sizeOf22
  v53 := Tryd.zeroValue22
  t212 := Tryd.underlying80
  a212 := Tryd.isAgg80
  z212 := Tryd.sizeOf80
  v212 := Tryd.zeroValue80
  g17 := by kernel_rfl
  i0 := by kernel_rfl
  i3 := by kernel_rfl
  i4 := by kernel_rfl
  i5 := by kernel_rfl
  i9 := by kernel_rfl
  i46 := by kernel_rfl
  i53 := by kernel_rfl
  i212 := by kernel_rfl
  m17 := by kernel_rfl }
open Go.Lib in
theorem internal_strconv_numDigits (u : Nat) (h1 : 1 ≤ u) (h2 : u < 18446744073709551616) (w : World) (htab : Lib.TabIs Tryd.prog w "internal/strconv.uint64pow10" .u64 Lib.pow10Tab) :
    Calls Tryd.prog 36 #[.int .u64 u] w fun e w' => e = .returned (.int .i64 (Lib.nDigits u)) ∧ w' = w := Any.internal_strconv_numDigits laysM284 u h1 h2 w htab
def lays285_ren : Go.Shelf.Ren := ⟨fun | 285 => 37 | n => n, fun | 37 => 63 | 53 => 22 | 3 => 3 | 4 => 4 | 51 => 23 | 9 => 9 | 5 => 5 | 0 => 0 | n => n, fun | n => n⟩
theorem lays285 : Go.Proofs.Lays.n285 Tryd.prog lays285_ren := {
  mixed := by kernel_rfl
  f285 := Tryd.func37.trans (congrArg some (by kernel_rfl))
  t0 := Tryd.underlying0
  a0 := Tryd.isAgg0
  z0 := Tryd.sizeOf0
  v0 := Tryd.zeroValue0
  t3 := Tryd.underlying3
  a3 := Tryd.isAgg3
  z3 := Tryd.sizeOf3
  v3 := Tryd.zeroValue3
  t4 := Tryd.underlying4
  a4 := Tryd.isAgg4
  z4 := Tryd.sizeOf4
  v4 := Tryd.zeroValue4
  t5 := Tryd.underlying5
  a5 := Tryd.isAgg5
  z5 := Tryd.sizeOf5
  v5 := Tryd.zeroValue5
  t9 := Tryd.underlying9
  a9 := Tryd.isAgg9
  z9 := Tryd.sizeOf9
  v9 := Tryd.zeroValue9
  t37 := Tryd.underlying63
  a37 := Tryd.isAgg63
  z37 := Tryd.sizeOf63
  v37 := Tryd.zeroValue63
  t51 := Tryd.underlying23
  a51 := Tryd.isAgg23
  z51 := Tryd.sizeOf23
  v51 := Tryd.zeroValue23
  t53 := Tryd.underlying22
  a53 := Tryd.isAgg22
  z53 := Tryd.sizeOf22
  v53 := Tryd.zeroValue22 }
open Go.RowKit Go.Sort Go.Lib in
theorem internal_strconv_formatBase10 (blk off cap : Nat) (u : Nat) (d : Array UInt8) (w : World) (hH : Holds (fun (b : UInt8) => Value.int .u8 (b.toNat : Int)) w blk off d) (hu : u < 10 ^ d.size) (hu64 : u < 18446744073709551616) (hsz : d.size < 4611686018427387904) :
    Calls Tryd.prog 37 #[.slice (some ⟨blk, off, none⟩) d.size cap, .int .u64 u] w fun e w' =>
      e = .returned (.tuple #[]) ∧ ∃ (n v' : Nat) (dk : Array UInt8), w' = (putRow (fun (b : UInt8) => Value.int .u8 (b.toNat : Int)) w blk off dk).drewN n ∧ FmtInv d.size u 0 v' dk := Any.internal_strconv_formatBase10 lays285 blk off cap u d w hH hu hu64 hsz
def laysPu14_ren : Go.Shelf.Ren := ⟨fun | 14 => 26 | 16 => 33 | 17 => 34 | 19 => 40 | 20 => 41 | 21 => 42 | 22 => 43 | 23 => 44 | 24 => 45 | 25 => 55 | 27 => 57 | 26 => 56 | 28 => 62 | 29 => 63 | 30 => 35 | 31 => 36 | 32 => 37 | 33 => 38 | 35 => 47 | 34 => 46 | 36 => 48 | 37 => 49 | 38 => 50 | 39 => 58 | 40 => 59 | n => n, fun | 9 => 9 | 3 => 3 | 22 => 22 | 24 => 53 | 25 => 54 | 4 => 4 | 34 => 71 | 5 => 5 | 36 => 73 | 37 => 63 | 0 => 0 | 39 => 75 | 21 => 21 | 44 => 87 | 47 => 92 | 50 => 95 | 48 => 93 | 2 => 2 | 52 => 65 | 55 => 68 | 59 => 80 | 60 => 23 | 20 => 20 | 61 => 81 | 65 => 96 | 66 => 97 | 67 => 99 | n => n, fun | 0 => 2 | 1 => 3 | 2 => 0 | 3 => 4 | 4 => 5 | n => n⟩
theorem laysPu14 : Go.Proofs.LaysPu.n14 Tryd.prog laysPu14_ren := {
  mixed := by kernel_rfl
  f14 := Tryd.func26.trans (congrArg some (by kernel_rfl))
  f16 := Tryd.func33.trans (congrArg some (by kernel_rfl))
  f17 := Tryd.func34.trans (congrArg some (by kernel_rfl))
  f19 := Tryd.func40.trans (congrArg some (by kernel_rfl))
  f20 := Tryd.func41.trans (congrArg some (by kernel_rfl))
  f21 := Tryd.func42.trans (congrArg some (by kernel_rfl))
  f22 := Tryd.func43.trans (congrArg some (by kernel_rfl))
  f23 := Tryd.func44.trans (congrArg some (by kernel_rfl))
  f24 := Tryd.func45.trans (congrArg some (by kernel_rfl))
  f25 := Tryd.func55.trans (congrArg some (by kernel_rfl))
  f26 := Tryd.func56.trans (congrArg some (by kernel_rfl))
  f27 := Tryd.func57.trans (congrArg some (by kernel_rfl))
  f28 := Tryd.func62.trans (congrArg some (by kernel_rfl))
  f29 := Tryd.func63.trans (congrArg some (by kernel_rfl))
  f30 := Tryd.func35.trans (congrArg some (by kernel_rfl))
  f31 := Tryd.func36.trans (congrArg some (by kernel_rfl))
  f32 := Tryd.func37.trans (congrArg some (by kernel_rfl))
  f33 := Tryd.func38.trans (congrArg some (by kernel_rfl))
  f34 := Tryd.func46.trans (congrArg some (by kernel_rfl))
  f35 := Tryd.func47.trans (congrArg some (by kernel_rfl))
  f36 := Tryd.func48.trans (congrArg some (by kernel_rfl))
  f37 := Tryd.func49.trans (congrArg some (by kernel_rfl))
  f38 := Tryd.func50.trans (congrArg some (by kernel_rfl))
  f39 := Tryd.func58.trans (congrArg some (by kernel_rfl))
  f40 := Tryd.func59.trans (congrArg some (by kernel_rfl))
  t0 := Tryd.underlying0
  a0 := Tryd.isAgg0
  z0 := Tryd.sizeOf0
  v0 := Tryd.zeroValue0
  i0 := by kernel_rfl
  t2 := Tryd.underlying2
  a2 := Tryd.isAgg2
  z2 := Tryd.sizeOf2
  v2 := Tryd.zeroValue2
  i2 := by kernel_rfl
  t3 := Tryd.underlying3
  a3 := Tryd.isAgg3
  z3 := Tryd.sizeOf3
  v3 := Tryd.zeroValue3
  i3 := by kernel_rfl
  t4 := Tryd.underlying4
  a4 := Tryd.isAgg4
  z4 := Tryd.sizeOf4
  v4 := Tryd.zeroValue4
  i4 := by kernel_rfl
  t5 := Tryd.underlying5
  a5 := Tryd.isAgg5
  z5 := Tryd.sizeOf5
  v5 := Tryd.zeroValue5
  i5 := by kernel_rfl
  t9 := Tryd.underlying9
  a9 := Tryd.isAgg9
  z9 := Tryd.sizeOf9
  v9 := Tryd.zeroValue9
  i9 := by kernel_rfl
  t20 := Tryd.underlying20
  a20 := Tryd.isAgg20
  z20 := Tryd.sizeOf20
  v20 := Tryd.zeroValue20
  i20 := by kernel_rfl
  t21 := Tryd.underlying21
  a21 := Tryd.isAgg21
  z21 := Tryd.sizeOf21
  v21 := Tryd.zeroValue21
  i21 := by kernel_rfl
  t22 := Tryd.underlying22
  a22 := Tryd.isAgg22
  z22 := Tryd.sizeOf22
  v22 := Tryd.zeroValue22
  i22 := by kernel_rfl
  t24 := Tryd.underlying53
  a24 := Tryd.isAgg53
  z24 := Tryd.sizeOf53
  v24 := Tryd.zeroValue53
  i24 := by kernel_rfl
  t25 := Tryd.underlying54
  a25 := Tryd.isAgg54
  z25 := Tryd.sizeOf54
  v25 := Tryd.zeroValue54
  i25 := by kernel_rfl
  t34 := Tryd.underlying71
  a34 := Tryd.isAgg71
  z34 := Tryd.sizeOf71
  v34 := Tryd.zeroValue71
  i34 := by kernel_rfl
  c34 := by kernel_rfl
  t36 := Tryd.underlying73
  a36 := Tryd.isAgg73
  z36 := Tryd.sizeOf73
  v36 := Tryd.zeroValue73
  i36 := by kernel_rfl
  t37 := Tryd.underlying63
  a37 := Tryd.isAgg63
  z37 := Tryd.sizeOf63
  v37 := Tryd.zeroValue63
  i37 := by kernel_rfl
  t39 := Tryd.underlying75
  a39 := Tryd.isAgg75
  z39 := Tryd.sizeOf75
  v39 := Tryd.zeroValue75
  i39 := by kernel_rfl
  t44 := Tryd.underlying87
  a44 := Tryd.isAgg87
  z44 := Tryd.sizeOf87
  v44 := Tryd.zeroValue87
  i44 := by kernel_rfl
  t47 := Tryd.underlying92
  a47 := Tryd.isAgg92
  z47 := Tryd.sizeOf92
  v47 := Tryd.zeroValue92
  i47 := by kernel_rfl
  t48 := Tryd.underlying93
  a48 := Tryd.isAgg93
  z48 := Tryd.sizeOf93
  v48 := Tryd.zeroValue93
  i48 := by kernel_rfl
  t50 := Tryd.underlying95
  a50 := Tryd.isAgg95
  z50 := Tryd.sizeOf95
  v50 := Tryd.zeroValue95
  i50 := by kernel_rfl
  t52 := Tryd.underlying65
  a52 := Tryd.isAgg65
  z52 := Tryd.sizeOf65
  v52 := Tryd.zeroValue65
  i52 := by kernel_rfl
  t55 := Tryd.underlying68
  a55 := Tryd.isAgg68
  z55 := Tryd.sizeOf68
  v55 := Tryd.zeroValue68
  i55 := by kernel_rfl
  t59 := Tryd.underlying80
  a59 := Tryd.isAgg80
  z59 := Tryd.sizeOf80
  v59 := Tryd.zeroValue80
  i59 := by kernel_rfl
  t60 := Tryd.underlying23
  a60 := Tryd.isAgg23
  z60 := Tryd.sizeOf23
  v60 := Tryd.zeroValue23
  i60 := by kernel_rfl
  t61 := Tryd.underlying81
  a61 := Tryd.isAgg81
  z61 := Tryd.sizeOf81
  t65 := Tryd.underlying96
  a65 := Tryd.isAgg96
  z65 := Tryd.sizeOf96
  v65 := Tryd.zeroValue96
  i65 := by kernel_rfl
  t66 := Tryd.underlying97
  a66 := Tryd.isAgg97
  z66 := Tryd.sizeOf97
  v66 := Tryd.zeroValue97
  i66 := by kernel_rfl
  t67 := Tryd.underlying99
  a67 := Tryd.isAgg99
  z67 := Tryd.sizeOf99
  v67 := Tryd.zeroValue99
  i67 := by kernel_rfl
  g0 := by kernel_rfl
  m0 := by kernel_rfl
  g1 := by kernel_rfl
  m1 := by kernel_rfl
  g2 := by kernel_rfl
  m2 := by kernel_rfl
  g3 := by kernel_rfl
  m3 := by kernel_rfl
  g4 := by kernel_rfl
  m4 := by kernel_rfl }
open Go.RowKit in
theorem strconv_ParseUint_10_at64_ok (s : ByteArray) (hmax : s.size ≤ 9223372036854775806) (u : Nat) (h : Lib.parseUintB 64 s.data.toList = .ok u) (w : World) :
    Calls Tryd.prog 26 #[.string s, .int .i64 10, .int .i64 64] w fun e w' => e = .returned (.tuple #[.int .u64 u, .nilIface]) ∧ (w' = w ∨ w' = Lib.bytesWorld w 5 s) := Any.strconv_ParseUint_10_at64_ok laysPu14 s hmax u h w
open Go.RowKit in
theorem strconv_ParseUint_10_at32_ok (s : ByteArray) (hmax : s.size ≤ 9223372036854775806) (u : Nat) (h : Lib.parseUintB 32 s.data.toList = .ok u) (w : World) :
    Calls Tryd.prog 26 #[.string s, .int .i64 10, .int .i64 32] w fun e w' => e = .returned (.tuple #[.int .u64 u, .nilIface]) ∧ (w' = w ∨ w' = Lib.bytesWorld w 5 s) := Any.strconv_ParseUint_10_at32_ok laysPu14 s hmax u h w
open Go.RowKit in
theorem strconv_ParseUint_10_at64_syntax_var (s : ByteArray) (hlim : s.size ≤ 281474976710656) (h : Lib.parseUintB 64 s.data.toList = .«syntax») (tp : TypeId) (p : Value) (w : World) (hvar : w.var? Tryd.prog "strconv.ErrSyntax" = some #[.iface tp p]) :
    Calls Tryd.prog 26 #[.string s, .int .i64 10, .int .i64 64] w fun e w' => ∃ N, e = .returned (.tuple #[.int .u64 0, .iface 75 (.pointer (some ⟨N, 0, none⟩))]) ∧ w.heap.size ≤ N ∧ w'.heap[N]? = some (.cells #[.string ⟨#[80, 97, 114, 115, 101, 85, 105, 110, 116]⟩, .string s, .iface tp p] 87 (0, 0)) ∧ Below w.heap.size w w' := Any.strconv_ParseUint_10_at64_syntax_var laysPu14 s hlim h tp p w hvar
open Go.RowKit in
theorem strconv_ParseUint_10_at64_range_var (s : ByteArray) (hlim : s.size ≤ 281474976710656) (h : Lib.parseUintB 64 s.data.toList = .range) (tp : TypeId) (p : Value) (w : World) (hvar : w.var? Tryd.prog "strconv.ErrRange" = some #[.iface tp p]) :
    Calls Tryd.prog 26 #[.string s, .int .i64 10, .int .i64 64] w fun e w' => ∃ N, e = .returned (.tuple #[.int .u64 18446744073709551615, .iface 75 (.pointer (some ⟨N, 0, none⟩))]) ∧ w.heap.size ≤ N ∧ w'.heap[N]? = some (.cells #[.string ⟨#[80, 97, 114, 115, 101, 85, 105, 110, 116]⟩, .string s, .iface tp p] 87 (0, 0)) ∧ Below w.heap.size w w' := Any.strconv_ParseUint_10_at64_range_var laysPu14 s hlim h tp p w hvar
open Go.RowKit in
theorem strconv_ParseUint_10_at32_syntax_var (s : ByteArray) (hlim : s.size ≤ 281474976710656) (h : Lib.parseUintB 32 s.data.toList = .«syntax») (tp : TypeId) (p : Value) (w : World) (hvar : w.var? Tryd.prog "strconv.ErrSyntax" = some #[.iface tp p]) :
    Calls Tryd.prog 26 #[.string s, .int .i64 10, .int .i64 32] w fun e w' => ∃ N, e = .returned (.tuple #[.int .u64 0, .iface 75 (.pointer (some ⟨N, 0, none⟩))]) ∧ w.heap.size ≤ N ∧ w'.heap[N]? = some (.cells #[.string ⟨#[80, 97, 114, 115, 101, 85, 105, 110, 116]⟩, .string s, .iface tp p] 87 (0, 0)) ∧ Below w.heap.size w w' := Any.strconv_ParseUint_10_at32_syntax_var laysPu14 s hlim h tp p w hvar
open Go.RowKit in
theorem strconv_ParseUint_10_at32_range_var (s : ByteArray) (hlim : s.size ≤ 281474976710656) (h : Lib.parseUintB 32 s.data.toList = .range) (tp : TypeId) (p : Value) (w : World) (hvar : w.var? Tryd.prog "strconv.ErrRange" = some #[.iface tp p]) :
    Calls Tryd.prog 26 #[.string s, .int .i64 10, .int .i64 32] w fun e w' => ∃ N, e = .returned (.tuple #[.int .u64 4294967295, .iface 75 (.pointer (some ⟨N, 0, none⟩))]) ∧ w.heap.size ≤ N ∧ w'.heap[N]? = some (.cells #[.string ⟨#[80, 97, 114, 115, 101, 85, 105, 110, 116]⟩, .string s, .iface tp p] 87 (0, 0)) ∧ Below w.heap.size w w' := Any.strconv_ParseUint_10_at32_range_var laysPu14 s hlim h tp p w hvar
def lays219_ren : Go.Shelf.Ren := ⟨fun | 219 => 39 | 217 => 51 | 225 => 52 | 224 => 53 | 267 => 54 | 266 => 60 | 314 => 61 | n => n, fun | 9 => 9 | 3 => 3 | 4 => 4 | 5 => 5 | 46 => 73 | 146 => 90 | 51 => 23 | n => n, fun | 1 => 1 | n => n⟩
theorem lays219 : Go.Proofs.Lays.n219 Tryd.prog lays219_ren := {
  mixed := by kernel_rfl
  f217 := Tryd.func51.trans (congrArg some (by kernel_rfl))
  f219 := Tryd.func39.trans (congrArg some (by kernel_rfl))
  f224 := Tryd.func53.trans (congrArg some (by kernel_rfl))
  f225 := Tryd.func52.trans (congrArg some (by kernel_rfl))
  f266 := Tryd.func60.trans (congrArg some (by kernel_rfl))
  f267 := Tryd.func54.trans (congrArg some (by kernel_rfl))
  f314 := Tryd.func61.trans (congrArg some (by kernel_rfl))
  t3 := Tryd.underlying3
  a3 := Tryd.isAgg3
  z3 := Tryd.sizeOf3
  v3 := Tryd.zeroValue3
  t4 := Tryd.underlying4
  a4 := Tryd.isAgg4
  z4 := Tryd.sizeOf4
  v4 := Tryd.zeroValue4
  t5 := Tryd.underlying5
  a5 := Tryd.isAgg5
  z5 := Tryd.sizeOf5
  v5 := Tryd.zeroValue5
  t9 := Tryd.underlying9
  a9 := Tryd.isAgg9
  z9 := Tryd.sizeOf9
  v9 := Tryd.zeroValue9
  t46 := Tryd.underlying73
  a46 := Tryd.isAgg73
  z46 := Tryd.sizeOf73
  v46 := Tryd.zeroValue73
  t51 := Tryd.underlying23
  a51 := Tryd.isAgg23
  z51 := Tryd.sizeOf23
  v51 := Tryd.zeroValue23
  t146 := Tryd.underlying90
  a146 := Tryd.isAgg90
  z146 := Tryd.sizeOf90
  v146 := Tryd.zeroValue90
  g1 := by kernel_rfl }
open Go.RowKit Go.Lib in
theorem stringslite_Index_one (s : ByteArray) (c : UInt8) (w : World) :
    Calls Tryd.prog 39 #[.string s, .string ⟨#[c]⟩] w fun e w' => e = .returned (.int .i64 (Lib.indexByte s.data.toList c)) ∧ w' = w := Any.stringslite_Index_one lays219 s c w
/-! StampTexts: the plain part, over lists of bytes -/
open Go.Lib
abbrev By := List UInt8
def isDg (c : UInt8) : Prop := 48 ≤ c.toNat ∧ c.toNat ≤ 57
instance (c : UInt8) : Decidable (isDg c) := inferInstanceAs (Decidable (_ ∧ _))
def val (acc : Nat) : By → Nat
  | [] => acc
  | c :: r => val (acc * 10 + (c.toNat - 48)) r
theorem val_cons (c : UInt8) (r : By) (acc : Nat) : val acc (c :: r) = val (acc * 10 + (c.toNat - 48)) r := by
  conv => lhs; unfold val
theorem val_app (l : By) (c : UInt8) : ∀ acc, val acc (l ++ [c]) = val acc l * 10 + (c.toNat - 48) := by
  induction l with
  | nil => intro acc; rfl
  | cons a r ih => intro acc; exact ih _
theorem digit_nat {d : Nat} (h : d < 10) : (UInt8.ofNat (48 + d)).toNat = 48 + d := by
  rw [UInt8.toNat_ofNat']; omega
theorem dec_step {u : Nat} (h : ¬ u < 10) : decDigits u = decDigits (u / 10) ++ [UInt8.ofNat (48 + u % 10)] := by rw [decDigits, dif_neg h]
/-- a numeral's digits -/
theorem dec_digits : ∀ (n u : Nat), u ≤ n → (∀ c ∈ decDigits u, isDg c)
  | 0, u, h, c, hc => by
    rw [decDigits_one (by omega)] at hc
    simp only [List.mem_singleton] at hc
    subst hc
    unfold isDg; rw [digit_nat (by omega)]; omega
  | n + 1, u, h, c, hc => by
    by_cases h10 : u < 10
    · rw [decDigits_one h10] at hc
      simp only [List.mem_singleton] at hc
      subst hc
      unfold isDg; rw [digit_nat h10]; omega
    · rw [dec_step h10] at hc
      rcases List.mem_append.1 hc with hc | hc
      · exact dec_digits n (u / 10) (by omega) c hc
      · simp only [List.mem_singleton] at hc
        subst hc
        unfold isDg; rw [digit_nat (by omega)]; omega
theorem dec_dg (u : Nat) : ∀ c ∈ decDigits u, isDg c := dec_digits u u (Nat.le_refl _)
theorem dec_val' : ∀ (n u : Nat), u ≤ n → val 0 (decDigits u) = u
  | 0, u, h => by
    rw [decDigits_one (by omega)]
    show 0 * 10 + ((UInt8.ofNat (48 + u)).toNat - 48) = u
    rw [digit_nat (by omega)]; omega
  | n + 1, u, h => by
    by_cases h10 : u < 10
    · rw [decDigits_one h10]
      show 0 * 10 + ((UInt8.ofNat (48 + u)).toNat - 48) = u
      rw [digit_nat h10]; omega
    · rw [dec_step h10, val_app, dec_val' n (u / 10) (by omega), digit_nat (by omega)]
      omega
theorem dec_val (u : Nat) : val 0 (decDigits u) = u := dec_val' u u (Nat.le_refl _)
theorem dec_ne (u : Nat) : decDigits u ≠ [] := fun e => by
  have h := decDigits_length u
  have := nDigits_pos u
  rw [e] at h
  simp at h
  omega
/-- no zero ahead -/
def zeroAhead : By → Bool
  | [] => false
  | [_] => false
  | c :: _ => c.toNat == 48
theorem dec_head' : ∀ (n u : Nat), u ≤ n → 0 < u → ∃ c r, decDigits u = c :: r ∧ c.toNat ≠ 48
  | 0, u, h, h0 => by omega
  | n + 1, u, h, h0 => by
    by_cases h10 : u < 10
    · rw [decDigits_one h10]
      exact ⟨_, [], rfl, by rw [digit_nat h10]; omega⟩
    · obtain ⟨c, r, e, hc⟩ := dec_head' n (u / 10) (by omega) (by omega)
      rw [dec_step h10, e]
      exact ⟨c, _, rfl, hc⟩
theorem dec_zero (u : Nat) : zeroAhead (decDigits u) = false := by
  by_cases h : u = 0
  · subst h
    rw [decDigits_one (by omega)]
    rfl
  · obtain ⟨c, r, e, hc⟩ := dec_head' u u (Nat.le_refl _) (by omega)
    rw [e]
    cases r with
    | nil => rfl
    | cons a b => show (c.toNat == 48) = false; simpa using hc
/-- a row of digits without a zero ahead is its number's numeral -/
theorem val_dec : ∀ (l : By), l ≠ [] → (∀ c ∈ l, isDg c) → zeroAhead l = false → decDigits (val 0 l) = l := by
  intro l
  induction hn : l.length generalizing l with
  | zero => intro h; exact absurd (List.eq_nil_of_length_eq_zero hn) h
  | succ n ih =>
    intro h hd hz
    obtain ⟨r, c, rfl⟩ : ∃ r c, l = r ++ [c] := ⟨l.dropLast, l.getLast h, (List.dropLast_concat_getLast h).symm⟩
    have hc := hd c (by simp)
    unfold isDg at hc
    have hcc : UInt8.ofNat (48 + (c.toNat - 48)) = c := by
      rw [show 48 + (c.toNat - 48) = c.toNat by omega]; simp
    rw [val_app]
    cases r with
    | nil =>
      show decDigits (0 * 10 + (c.toNat - 48)) = [c]
      rw [Nat.zero_mul, Nat.zero_add, decDigits_one (by omega), hcc]
    | cons a b =>
      have hr := ih (a :: b) (by simpa using hn) (by simp) (fun x hx => hd x (List.mem_append_left _ hx)) (by
        cases b with
        | nil => rfl
        | cons p q => exact hz)
      have hne : ¬ val 0 (a :: b) = 0 := fun e => by
        rw [e, decDigits_one (by omega)] at hr
        have ha : a.toNat = 48 := by
          have := (List.cons.inj hr).1
          rw [← this]; rfl
        have : (a.toNat == 48) = false := by
          cases b with
          | nil => exact hz
          | cons p q => exact hz
        rw [ha] at this
        cases this
      have h10 : ¬ val 0 (a :: b) * 10 + (c.toNat - 48) < 10 := by omega
      rw [dec_step h10, show (val 0 (a :: b) * 10 + (c.toNat - 48)) / 10 = val 0 (a :: b) by omega, show (val 0 (a :: b) * 10 + (c.toNat - 48)) % 10 = c.toNat - 48 by omega, hr, hcc]
/-- what the document reads as a number -/
def numV (l : By) : Option Nat := if l ≠ [] ∧ l.length ≤ 16 ∧ zeroAhead l = false ∧ (∀ c ∈ l, isDg c) then some (val 0 l) else none
theorem numV_dec (u : Nat) (h : (decDigits u).length ≤ 16) : numV (decDigits u) = some u := by
  unfold numV
  rw [if_pos ⟨dec_ne u, h, dec_zero u, dec_dg u⟩, dec_val]
theorem numV_some {l : By} {u : Nat} (h : numV l = some u) : l = decDigits u := by
  unfold numV at h
  split at h
  · rename_i hg
    obtain rfl := Option.some.inj h
    exact (val_dec l hg.1 hg.2.2.2 hg.2.2.1).symm
  · cases h
theorem nDigits_le {u k : Nat} (h : u < 10 ^ k) (hk : 0 < k) : nDigits u ≤ k := by
  induction k generalizing u with
  | zero => omega
  | succ k ih =>
    by_cases h10 : u < 10
    · rw [nDigits_small h10]; omega
    · rw [nDigits_big h10]
      have : 0 < k := by
        rcases Nat.eq_zero_or_pos k with rfl | h0
        · simp at h; omega
        · exact h0
      have := ih (u := u / 10) (by rw [Nat.pow_succ] at h; omega) this
      omega
theorem dec_len16 {u : Nat} (h : u ≤ 281474976710656) : (decDigits u).length ≤ 16 := by
  rw [decDigits_length]
  exact nDigits_le (by omega) (by omega)
/-! Go's ParseUint at a numeral -/
theorem parseM_dec (M : Nat) (hM : M ≤ 18446744073709551615) : ∀ (l : By) (acc : Nat), (∀ c ∈ l, isDg c) → val acc l ≤ M → parseUintM M acc l = .ok (val acc l)
  | [], acc, _, _ => rfl
  | c :: r, acc, hd, hv => by
    have hc := hd c (by simp)
    have hmono : ∀ (l : By) (acc : Nat), acc ≤ val acc l := by
      intro l
      induction l with
      | nil => intro acc; exact Nat.le_refl _
      | cons a b ih => intro acc; exact Nat.le_trans (by omega) (ih (acc * 10 + (a.toNat - 48)))
    have h1 := hmono r (acc * 10 + (c.toNat - 48))
    have hv' : val (acc * 10 + (c.toNat - 48)) r ≤ M := hv
    unfold parseUintM
    unfold isDg at hc
    rw [if_pos hc, if_neg (by omega), if_neg (by omega)]
    exact parseM_dec M hM r _ (fun x hx => hd x (by simp [hx])) hv'
theorem parse_dec {B u : Nat} (hB : B ≤ 64) (h : u < 2 ^ B) : parseUintB B (decDigits u) = .ok u := by
  have h2 : 2 ^ B ≤ 2 ^ 64 := Nat.pow_le_pow_right (by omega) hB
  unfold parseUintB
  rw [if_neg (dec_ne u), parseM_dec _ (by omega) _ _ (dec_dg u) (by rw [dec_val]; omega), dec_val]
/-- the number that ParseUint hands back, whatever its error -/
def puV (B : Nat) (l : By) : Nat := match parseUintB B l with
  | .ok u => u
  | .syntax => 0
  | .range => 2 ^ B - 1
theorem puV_dec {B u : Nat} (hB : B ≤ 64) (h : u < 2 ^ B) : puV B (decDigits u) = u := by
  unfold puV
  rw [parse_dec hB h]
/-! texts -/
def txt (p l : Nat) : By := decDigits p ++ 46 :: decDigits l
theorem no_dot (u : Nat) : (46 : UInt8) ∉ decDigits u := fun h => by
  have := dec_dg u 46 h
  unfold isDg at this
  have e : (46 : UInt8).toNat = 46 := rfl
  omega
/-- a text cut at its first dot -/
def splitDot : By → Option (By × By)
  | [] => none
  | c :: r => if c = 46 then some ([], r) else (splitDot r).map fun x => (c :: x.1, x.2)
theorem split_at : ∀ (p : By) (l : By), (46 : UInt8) ∉ p → splitDot (p ++ 46 :: l) = some (p, l)
  | [], l, _ => by show (if (46 : UInt8) = 46 then _ else _) = _; rw [if_pos rfl]
  | c :: r, l, h => by
    show (if c = 46 then _ else (splitDot (r ++ 46 :: l)).map _) = _
    rw [if_neg (fun e => h (by simp [e])), split_at r l (fun hm => h (by simp [hm]))]
    rfl
theorem split_some : ∀ {s p l : By}, splitDot s = some (p, l) → s = p ++ 46 :: l ∧ (46 : UInt8) ∉ p
  | [], p, l, h => by cases h
  | c :: r, p, l, h => by
    unfold splitDot at h
    split at h
    · rename_i e
      injection h with h
      injection h with h1 h2
      subst h1 h2 e
      exact ⟨rfl, by simp⟩
    · rename_i e
      cases hr : splitDot r with
      | none => rw [hr] at h; cases h
      | some x =>
        rw [hr] at h
        injection h with h
        injection h with h1 h2
        subst h1 h2
        obtain ⟨e1, e2⟩ := split_some hr
        refine ⟨by rw [List.cons_append, ← e1], fun hm => ?_⟩
        rcases List.mem_cons.1 hm with h3 | h3
        · exact e h3.symm
        · exact e2 h3
theorem split_none : ∀ {s : By}, splitDot s = none → (46 : UInt8) ∉ s
  | [], _ => by simp
  | c :: r, h => by
    unfold splitDot at h
    split at h
    · cases h
    · rename_i e
      have hr : splitDot r = none := by
        cases hr : splitDot r with
        | none => rfl
        | some x => rw [hr] at h; cases h
      have := split_none hr
      intro hm
      rcases List.mem_cons.1 hm with h3 | h3
      · exact e h3.symm
      · exact this h3
theorem txt_split (p l : Nat) : splitDot (txt p l) = some (decDigits p, decDigits l) := split_at _ _ (no_dot p)
theorem txt_inj {p l : Nat} {s a b : By} (h : splitDot s = some (a, b)) : txt p l = s ↔ decDigits p = a ∧ decDigits l = b := by
  constructor
  · intro e
    rw [← e, txt_split] at h
    injection h with h
    injection h with h1 h2
    exact ⟨h1, h2⟩
  · rintro ⟨rfl, rfl⟩
    exact (split_some h).1.symm
/-- what Go's program reads; the parts of a cut text -/
def goRead (s : By) : (Nat × Nat) × Bool :=
  let c := (splitDot s).getD (s, [])
  let a := puV 64 c.1
  let b := puV 32 c.2
  if (a ≤ 281474976710656 ∧ b ≤ 4095) ∧ txt a b = s then ((a, b), true) else ((0, 0), false)
/-- what the document reads -/
def docRead (s : By) : (Nat × Nat) × Bool := match splitDot s with
  | none => ((0, 0), false)
  | some (p, l) => match numV p, numV l with
    | some a, some b => if a ≤ 281474976710656 ∧ b ≤ 4095 then ((a, b), true) else ((0, 0), false)
    | _, _ => ((0, 0), false)
theorem read_same (s : By) : goRead s = docRead s := by
  unfold goRead docRead
  cases hs : splitDot s with
  | none =>
    simp only [Option.getD_none]
    rw [if_neg]
    rintro ⟨_, e⟩
    have := txt_split (puV 64 s) (puV 32 [])
    rw [e, hs] at this
    cases this
  | some x =>
    obtain ⟨p, l⟩ := x
    simp only [Option.getD_some]
    have ht : ∀ a b, txt a b = s ↔ decDigits a = p ∧ decDigits b = l := fun a b => txt_inj hs
    cases h1 : numV p with
    | none =>
      simp only []
      rw [if_neg]
      rintro ⟨⟨ha, _⟩, e⟩
      have := numV_dec _ (dec_len16 ha)
      rw [((ht _ _).1 e).1, h1] at this
      cases this
    | some a =>
      cases h2 : numV l with
      | none =>
        simp only []
        rw [if_neg]
        rintro ⟨⟨_, hb⟩, e⟩
        have := numV_dec _ (dec_len16 (by omega : puV 32 l ≤ 281474976710656))
        rw [((ht _ _).1 e).2, h2] at this
        cases this
      | some b =>
        simp only []
        obtain rfl := numV_some h1
        obtain rfl := numV_some h2
        by_cases hg : a ≤ 281474976710656 ∧ b ≤ 4095
        · rw [puV_dec (by omega) (by omega), puV_dec (by omega) (by omega), if_pos ⟨hg, (ht _ _).2 ⟨rfl, rfl⟩⟩, if_pos hg]
        · rw [if_neg hg, if_neg]
          rintro ⟨⟨ha, hb⟩, e⟩
          apply hg
          obtain ⟨e1, e2⟩ := (ht _ _).1 e
          have h3 := dec_val a
          rw [← e1, dec_val] at h3
          have h4 := dec_val b
          rw [← e2, dec_val] at h4
          omega
/-- a text that is read is that stamp's -/
theorem read_text {s : By} {t : Nat × Nat} (h : goRead s = (t, true)) : txt t.1 t.2 = s := by
  unfold goRead at h
  simp only at h
  split at h
  · rename_i hg
    injection h with h _
    subst h
    exact hg.2
  · injection h with _ h
    cases h
theorem read_txt {p l : Nat} (hp : p < 2 ^ 64) (hl : l < 2 ^ 32) : goRead (txt p l) = if p ≤ 281474976710656 ∧ l ≤ 4095 then ((p, l), true) else ((0, 0), false) := by
  unfold goRead
  rw [txt_split]
  simp only [Option.getD_some]
  rw [puV_dec (by omega) hp, puV_dec (by omega) hl]
  by_cases hg : p ≤ 281474976710656 ∧ l ≤ 4095
  · rw [if_pos ⟨hg, rfl⟩, if_pos hg]
  · rw [if_neg (fun h => hg h.1), if_neg hg]
/-! FormatUint at base 10 -/
open Go.Lib Go.Sort
def dB (u : Nat) : ByteArray := ⟨(decDigits u).toArray⟩
theorem fmt_small (u : Nat) (hu : u < 100) (w : World) : Calls Tryd.prog 31 #[.int .u64 (u : Int), .int .i64 10] w fun e w' => e = .returned (.string (dB u)) ∧ w' = w := by
  have hz : (u : Int) < 100 := by omega
  go_enter Tryd.func31, Tryd.ntmps31
  go_wp2_with (go_at_call 35; refine (internal_strconv_small u hu _).mono ?_; rintro e w' ⟨rfl, rfl⟩)
  go_ret
  exact ⟨rfl, rfl⟩
set_option maxHeartbeats 4000000 in
set_option maxRecDepth 100000 in
theorem fmt_big (u : Nat) (hu : 100 ≤ u) (hu64 : u < 18446744073709551616) (w : World) (htab : Lib.TabIs Tryd.prog w "internal/strconv.uint64pow10" .u64 Lib.pow10Tab) :
    Calls Tryd.prog 31 #[.int .u64 (u : Int), .int .i64 10] w fun e w' => e = .returned (.string (dB u)) ∧ ∃ k os, w' = grow (w.drewN k) os := by
  have hu1 : 1 ≤ u := by omega
  have hnd20 : Lib.nDigits u ≤ 20 := by have := Lib.numDigits_eq u hu1 hu64; split at this <;> omega
  have hal : Tryd.prog.arrayLen 65 = 24 := by simp [Program.arrayLen, Tryd.underlying65]
  have hsl : ∀ W, (Instr.sliceAt 65 (.pointer (some ⟨w.heap.size, 0, none⟩)) none (some (.int .i64 (Lib.nDigits u : Int))) none).run Tryd.prog W = .ok (.slice (some ⟨w.heap.size, 0, none⟩) (Lib.nDigits u) 24) W := fun W => by
    rw [run_sliceAt_array_h W 65 ⟨w.heap.size, 0, none⟩ (by simp [Program.arrayLen, Program.elem, Tryd.underlying65]) .i64 (Lib.nDigits u : Int) (by omega) (by rw [hal]; omega)]
    go_simp
  have hH0 := Lib.holds_zero0 w 65 (Lib.nDigits u) (by omega)
  have hfmt := internal_strconv_formatBase10 w.heap.size 0 24 u (Array.replicate (Lib.nDigits u) 0) (w.alloc (.cells Lib.zeros24 65)) hH0 (by rw [Array.size_replicate]; exact Lib.lt_pow_nDigits u) hu64 (by rw [Array.size_replicate]; omega)
  rw [Array.size_replicate] at hfmt
  have HH0 := Lib.hid hH0
  have iu : ¬ (u : Int) < 100 := by omega
  clear hH0 hal
  go_enter Tryd.func31, Tryd.ntmps31
  go_wp2_with (first
    | (go_at_call 36; refine (internal_strconv_numDigits u hu1 hu64 _ (Lib.tabIs_alloc htab _)).mono ?_; rintro e w' ⟨rfl, rfl⟩))
  go_at_call 37
  refine hfmt.mono ?_
  rintro e w' ⟨rfl, k, v', dk, rfl, hF⟩
  have hcv : (convert 63 9 (.slice (some ⟨w.heap.size, 0, none⟩) (Lib.nDigits u) 24)).run Tryd.prog ((putRow (fun (b : UInt8) => Value.int .u8 (b.toNat : Int)) (w.alloc (.cells Lib.zeros24 65)) w.heap.size 0 dk).drewN k) = .ok (.string ⟨(Lib.decDigits u).toArray⟩) ((putRow (fun (b : UInt8) => Value.int .u8 (b.toNat : Int)) (w.alloc (.cells Lib.zeros24 65)) w.heap.size 0 dk).drewN k) := by
    have h := run_convert_bytes_back (P := Tryd.prog) ((putRow (fun (b : UInt8) => Value.int .u8 (b.toNat : Int)) (w.alloc (.cells Lib.zeros24 65)) w.heap.size 0 dk).drewN k) 63 9 5 ⟨w.heap.size, 0, none⟩ 24 (Lib.decDigits u) Tryd.underlying63 Tryd.underlying5 Tryd.underlying9 (fun j hj => by
      rw [Lib.row_is_numeral hF j hj, Lib.add_plain, World.cell?_drewN]
      exact cell?_putRow (fun (b : UInt8) => Value.int .u8 (b.toNat : Int)) _ w.heap.size 0 _ dk HH0.out (by rw [hF.size, Array.size_replicate]) j (by rw [hF.size]; rw [Lib.decDigits_length] at hj; exact hj))
    rw [Lib.decDigits_length] at h
    exact h
  go_wp2
  go_ret
  obtain ⟨os, eo⟩ := Lib.fin_at w (.cells Lib.zeros24 65) dk k 0
  exact ⟨rfl, k, os, eo⟩
theorem fmt_calls (u : Nat) (hu64 : u < 18446744073709551616) (w : World) (htab : Lib.TabIs Tryd.prog w "internal/strconv.uint64pow10" .u64 Lib.pow10Tab) :
    Calls Tryd.prog 24 #[.int .u64 (u : Int), .int .i64 10] w fun e w' => e = .returned (.string (dB u)) ∧ Below w.heap.size w w' := by
  have h31 : Calls Tryd.prog 31 #[.int .u64 (u : Int), .int .i64 10] w fun e w' => e = .returned (.string (dB u)) ∧ Below w.heap.size w w' := by
    by_cases h : u < 100
    · exact (fmt_small u h w).mono fun e w' ⟨h1, h2⟩ => ⟨h1, by rw [h2]; exact Below.refl _ _⟩
    · exact (fmt_big u (by omega) hu64 w htab).mono fun e w' ⟨h1, k, os, h2⟩ => ⟨h1, by rw [h2]; exact Lib.below_grow w.heap.size w (Nat.le_refl _) k os⟩
  go_enter Tryd.func24, Tryd.ntmps24
  go_wp2_with (go_at_call 31; refine h31.mono ?_; rintro e w' ⟨rfl, hb⟩)
  go_ret
  exact ⟨rfl, hb⟩
/-! what the library's tables and errors hold; a stamp in a block of its own -/
structure Vars (w : World) : Prop where
  tab : Lib.TabIs Tryd.prog w "internal/strconv.uint64pow10" .u64 Lib.pow10Tab
  syn : ∃ tp p, w.var? Tryd.prog "strconv.ErrSyntax" = some #[.iface tp p]
  rng : ∃ tp p, w.var? Tryd.prog "strconv.ErrRange" = some #[.iface tp p]
theorem gsyn : ∃ g, Tryd.prog.globalNamed "strconv.ErrSyntax" = some g := Option.isSome_iff_exists.1 (by kernel_rfl)
theorem grng : ∃ g, Tryd.prog.globalNamed "strconv.ErrRange" = some g := Option.isSome_iff_exists.1 (by kernel_rfl)
theorem gtab : ∃ g, Tryd.prog.globalNamed "internal/strconv.uint64pow10" = some g := Option.isSome_iff_exists.1 (by kernel_rfl)
theorem Vars.below {w w' : World} (h : Vars w) (hb : Below w.heap.size w w') : Vars w' := by
  obtain ⟨t, ⟨a, b, s⟩, c, d, r⟩ := h
  obtain ⟨g1, h1⟩ := gtab
  obtain ⟨g2, h2⟩ := gsyn
  obtain ⟨g3, h3⟩ := grng
  exact ⟨tab_stays h1 t hb (Nat.le_refl _), ⟨a, b, var_stays h2 s hb (Nat.le_refl _)⟩, c, d, var_stays h3 r hb (Nat.le_refl _)⟩
theorem below_tr {w w1 w2 : World} (h1 : Below w.heap.size w w1) (h2 : Below w1.heap.size w1 w2) : Below w.heap.size w w2 := h1.trans (h2.mono h1.size)
theorem below_al {w w1 : World} (h1 : Below w.heap.size w w1) (o : Obj) : Below w.heap.size w (w1.alloc o) := h1.alloc h1.size o
/-- a stamp in a block -/
def TB (w : World) (g p l : Nat) : Prop := w.heap[g]? = some (.cells #[.int .u64 (p : Int), .int .u32 (l : Int)] 25 (0, 0))
theorem TB.all {w : World} {g p l : Nat} (h : TB w g p l) : w.cell? ⟨g, 0, none⟩ = some (.int .u64 (p : Int)) ∧ w.cell? ⟨g, 1, none⟩ = some (.int .u32 (l : Int)) := ⟨(blk_cell h 0).trans rfl, (blk_cell h 1).trans rfl⟩
theorem TB.below {w w' : World} {g p l : Nat} (h : TB w g p l) (hb : Below w.heap.size w w') : TB w' g p l := (hb.block g (blk_lt h)).trans h
theorem TB.new (w : World) (p l : Nat) : TB (w.alloc (.cells #[.int .u64 (p : Int), .int .u32 (l : Int)] 25)) w.heap.size p l := blk_new w _
def txB (p l : Nat) : ByteArray := dB p ++ ⟨#[46]⟩ ++ dB l
theorem txB_list (p l : Nat) : (txB p l).data.toList = txt p l := by
  unfold txB txt dB
  simp
theorem dB_size (u : Nat) (h : u < 18446744073709551616) : (dB u).size ≤ 20 := by
  have e : (dB u).size = (decDigits u).length := by simp [dB, ByteArray.size]
  have : nDigits u ≤ 20 := Lib.nDigits_le20 u h
  rw [e, decDigits_length]; exact this
set_option maxHeartbeats 4000000 in
theorem text_calls (p l : Nat) (hp : p < 18446744073709551616) (hl : l < 4294967296) (w : World) (hv : Vars w) :
    Calls Tryd.prog 17 #[.agg #[.int .u64 (p : Int), .int .u32 (l : Int)]] w fun e w' => e = .returned (.string (txB p l)) ∧ Below w.heap.size w w' := by
  have hb := below_al (Below.refl w.heap.size w) (.cells #[.int .u64 (p : Int), .int .u32 (l : Int)] 25)
  have H1 := Lib.hid (And.intro (TB.new w p l) (And.intro hb (hv.below hb)))
  have hw : IntKind.u64.wrap (l : Int) = (l : Int) := by rw [IntKind.wrap_u64]; omega
  have z1 := dB_size p hp
  have z2 := dB_size l (by omega)
  have l1 : (dB p).size + 1 ≤ 9223372036854775807 := by omega
  have l2 : (dB p).size + 1 + (dB l).size ≤ 9223372036854775807 := by omega
  clear hb hv z1 z2
  go_enter Tryd.func17, Tryd.ntmps17
  go_upto_region 1 with fail
  generalize w.alloc _ = W1 at *
  generalize hq : w.heap.size = q at *
  have HQ := Lib.hid hq
  clear hq
  obtain ⟨c0, c1⟩ := H1.out.1.all
  have N0 := Lib.hid trivial
  have hTB := Lib.hid (fun W' (hb : Below W1.heap.size W1 W') => (TB.below H1.out.1 hb).all)
  go_region_with (first
    | (go_at_call 24
       (
         have tok := N0
         clear N0
         refine Calls.mono (fmt_calls p hp _ ?v) ?_
         case v => exact (Vars.below H1.out.2.2 (by (with_reducible repeat (first | exact N2.out | exact N1.out | exact Below.refl _ _ | refine Below.drew ?_)))).tab
         rintro e V2 ⟨rfl, b2⟩
         have b12 : Below W1.heap.size W1 V2 := below_tr (by (with_reducible repeat (first | exact N2.out | exact N1.out | exact Below.refl _ _ | refine Below.drew ?_))) b2
         have N1 := Lib.hid b12
         have hk1 := hTB.out _ b12
         clear b2 b12 tok))
    | (go_at_call 24
       (
         refine Calls.mono (fmt_calls l (by omega) _ ?v) ?_
         case v => exact (Vars.below H1.out.2.2 (by (with_reducible repeat (first | exact N2.out | exact N1.out | exact Below.refl _ _ | refine Below.drew ?_)))).tab
         rintro e V3 ⟨rfl, b3⟩
         have b13 : Below W1.heap.size W1 V3 := below_tr (by (with_reducible repeat (first | exact N2.out | exact N1.out | exact Below.refl _ _ | refine Below.drew ?_))) b3
         have N2 := Lib.hid b13
         have hk2 := hTB.out _ b13
         clear b3 b13)))
  all_goals
    go_wp2
    go_ret
    exact ⟨rfl, below_tr (HQ.out ▸ H1.out.2.1) N2.out⟩
/-! the document's Digits, by calls of itself -/
def chB (d : Nat) : ByteArray := ⟨#[UInt8.ofNat (48 + d)]⟩
theorem dB_one {u : Nat} (h : u < 10) : dB u = chB (u % 10) := by
  unfold dB chB; rw [decDigits_one h, Nat.mod_eq_of_lt h]
theorem dB_step {u : Nat} (h : ¬ u < 10) : dB (u / 10) ++ chB (u % 10) = dB u := by
  unfold dB chB
  rw [dec_step h]
  apply ByteArray.ext
  simp
theorem ch_run (u : Nat) (w : World) : (convert 63 9 (.slice (some ⟨w.heap.size, 0, none⟩) 1 1)).run Tryd.prog (w.alloc (.cells #[.int .u8 (48 + (u : Int) % 10)] 5)) = .ok (.string (chB (u % 10))) (w.alloc (.cells #[.int .u8 (48 + (u : Int) % 10)] 5)) := by
  have h := run_convert_bytes_back (P := Tryd.prog) (w.alloc (.cells #[.int .u8 (48 + (u : Int) % 10)] 5)) 63 9 5 ⟨w.heap.size, 0, none⟩ 1 [UInt8.ofNat (48 + u % 10)] Tryd.underlying63 Tryd.underlying5 Tryd.underlying9 (fun j hj => by
    obtain rfl : j = 0 := by simpa using hj
    rw [Lib.add_plain]
    show (w.alloc _).cell? ⟨w.heap.size, 0, none⟩ = some (.int .u8 ((UInt8.ofNat (48 + u % 10)).toNat : Int))
    rw [digit_nat (by omega), (blk_cell (blk_new w (.cells #[.int .u8 (48 + (u : Int) % 10)] 5)) 0)]
    show some (Value.int .u8 (48 + (u : Int) % 10)) = _
    rw [show ((48 + u % 10 : Nat) : Int) = 48 + (u : Int) % 10 by omega])
  exact h
set_option maxHeartbeats 2000000 in
set_option maxRecDepth 10000 in
theorem digits_calls : ∀ (k u : Nat), u ≤ k → u < 18446744073709551616 → ∀ w : World, Calls Tryd.prog 28 #[.int .u64 (u : Int)] w fun e w' => e = .returned (.string (dB u)) ∧ Below w.heap.size w w' := by
  intro k
  induction k with
  | zero =>
    intro u hk hu w
    have h10 : (u : Int) < 10 := by omega
    have HE := Lib.hid (dB_one (show u < 10 by omega))
    have hr := ch_run u w
    have hw : IntKind.u8.wrap (48 + (u : Int) % 10) = 48 + (u : Int) % 10 := by unfold IntKind.wrap; simp [IntKind.signed, IntKind.bits]; omega
    go_enter Tryd.func28, Tryd.ntmps28
    go_wp2_with fail
    go_ret
    rw [HE.out]
    exact ⟨rfl, below_al (Below.refl _ _) _⟩
  | succ k ih =>
    intro u hk hu w
    have hr := ch_run u w
    have hw : IntKind.u8.wrap (48 + (u : Int) % 10) = 48 + (u : Int) % 10 := by unfold IntKind.wrap; simp [IntKind.signed, IntKind.bits]; omega
    by_cases h10 : u < 10
    · have h10z : (u : Int) < 10 := by omega
      have HE := Lib.hid (dB_one h10)
      go_enter Tryd.func28, Tryd.ntmps28
      go_wp2_with fail
      go_ret
      rw [HE.out]
      exact ⟨rfl, below_al (Below.refl _ _) _⟩
    · have h10z : ¬ (u : Int) < 10 := by omega
      have HE := Lib.hid (dB_step h10)
      have z1 := dB_size (u / 10) (by omega)
      have l1 : (dB (u / 10)).size + (chB (u % 10)).size ≤ 9223372036854775807 := by have : (chB (u % 10)).size = 1 := rfl; omega
      have IH : Hid (∀ w : World, Calls Tryd.prog 28 #[.int .u64 ((u : Int) / 10)] w fun e w' => e = .returned (.string (dB (u / 10))) ∧ Below w.heap.size w w') := Lib.hid fun w => by
        have h := ih (u / 10) (by omega) (by omega) w
        rwa [show ((u / 10 : Nat) : Int) = (u : Int) / 10 by omega] at h
      clear z1 ih
      go_enter Tryd.func28, Tryd.ntmps28
      go_wp2_with fail
      refine (IH.out _).mono ?_
      rintro e w' ⟨rfl, hb⟩
      go_wp2
      go_ret
      rw [HE.out]
      exact ⟨rfl, below_tr (below_al (Below.refl _ _) _) hb⟩
set_option maxHeartbeats 4000000 in
theorem rtext_calls (p l : Nat) (hp : p < 18446744073709551616) (hl : l < 4294967296) (w : World) :
    Calls Tryd.prog 20 #[.agg #[.int .u64 (p : Int), .int .u32 (l : Int)]] w fun e w' => e = .returned (.string (txB p l)) ∧ Below w.heap.size w w' := by
  have hb := below_al (Below.refl w.heap.size w) (.cells #[.int .u64 (p : Int), .int .u32 (l : Int)] 25)
  have H1 := Lib.hid (And.intro (TB.new w p l) hb)
  have hw : IntKind.u64.wrap (l : Int) = (l : Int) := by rw [IntKind.wrap_u64]; omega
  have z1 := dB_size p hp
  have z2 := dB_size l (by omega)
  have l1 : (dB p).size + 1 ≤ 9223372036854775807 := by omega
  have l2 : (dB p).size + 1 + (dB l).size ≤ 9223372036854775807 := by omega
  clear hb z1 z2
  go_enter Tryd.func20, Tryd.ntmps20
  go_upto_region 1 with fail
  generalize w.alloc _ = W1 at *
  generalize hq : w.heap.size = q at *
  have HQ := Lib.hid hq
  clear hq
  obtain ⟨c0, c1⟩ := H1.out.1.all
  have N0 := Lib.hid trivial
  have hTB := Lib.hid (fun W' (hb : Below W1.heap.size W1 W') => (TB.below H1.out.1 hb).all)
  go_region_with (first
    | (go_at_call 28
       (
         have tok := N0
         clear N0
         refine Calls.mono (digits_calls p p (Nat.le_refl _) hp _) ?_
         rintro e V2 ⟨rfl, b2⟩
         have b12 : Below W1.heap.size W1 V2 := below_tr (by (with_reducible repeat (first | exact N2.out | exact N1.out | exact Below.refl _ _ | refine Below.drew ?_))) b2
         have N1 := Lib.hid b12
         have hk1 := hTB.out _ b12
         clear b2 b12 tok))
    | (go_at_call 28
       (
         refine Calls.mono (digits_calls l l (Nat.le_refl _) (by omega) _) ?_
         rintro e V3 ⟨rfl, b3⟩
         have b13 : Below W1.heap.size W1 V3 := below_tr (by (with_reducible repeat (first | exact N2.out | exact N1.out | exact Below.refl _ _ | refine Below.drew ?_))) b3
         have N2 := Lib.hid b13
         have hk2 := hTB.out _ b13
         clear b3 b13)))
  all_goals
    go_wp2
    go_ret
    exact ⟨rfl, below_tr (HQ.out ▸ H1.out.2) N2.out⟩
/-! strings.Cut at a dot -/
theorem index_split : ∀ (s : By), (splitDot s = none → Lib.indexByte s 46 = -1) ∧ (∀ p l, splitDot s = some (p, l) → Lib.indexByte s 46 = p.length)
  | [] => ⟨fun _ => rfl, fun p l h => by cases h⟩
  | c :: r => by
    have ih := index_split r
    unfold splitDot Lib.indexByte
    by_cases hc : c = 46
    · subst hc
      refine ⟨fun h => (by rw [if_pos rfl] at h; cases h), fun p l h => ?_⟩
      rw [if_pos rfl] at h
      injection h with h
      injection h with h1 h2
      subst h1
      rfl
    · have hb : (c == 46) = false := by simpa using hc
      rw [if_neg hc, hb]
      cases hr : splitDot r with
      | none =>
        refine ⟨fun _ => ?_, fun p l h => (by cases h)⟩
        rw [ih.1 hr]
        rfl
      | some x =>
        refine ⟨fun h => (by cases h), fun p l h => ?_⟩
        injection h with h
        injection h with h1 h2
        subst h1 h2
        rw [ih.2 x.1 x.2 (by rw [hr])]
        have : (((x.1.length : Nat) : Int) == -1) = false := by simp
        rw [this]
        simp
def bB (l : By) : ByteArray := ⟨l.toArray⟩
theorem cut_pre {s : ByteArray} {p l : By} (h : splitDot s.data.toList = some (p, l)) : s.extract 0 p.length = bB p ∧ s.extract (p.length + 1) s.size = bB l ∧ p.length + 1 + l.length = s.size := by
  have e := (split_some h).1
  have hs : s.size = s.data.toList.length := Lib.size_eq s
  have h3 : p.length + 1 + l.length = s.size := by rw [hs, e]; simp; omega
  refine ⟨?_, ?_, h3⟩
  · rw [Lib.extract_eq, e]
    unfold bB
    simp
  · rw [Lib.extract_eq, e]
    unfold bB
    have e1 : List.drop (p.length + 1) (p ++ 46 :: l) = l := by
      rw [List.drop_append]; simp
    rw [e1, List.take_of_length_le (by omega)]
set_option maxHeartbeats 2000000 in
theorem cut_calls (s : ByteArray) (hs : s.size ≤ 9223372036854775806) (w : World) : Calls Tryd.prog 32 #[.string s, .string ⟨#[46]⟩] w fun e w' => (∃ b : Bool, e = .returned (.tuple #[.string (bB ((splitDot s.data.toList).getD (s.data.toList, [])).1), .string (bB ((splitDot s.data.toList).getD (s.data.toList, [])).2), .bool b])) ∧ Below w.heap.size w w' := by
  cases hd : splitDot s.data.toList with
  | none =>
    have hi := (index_split s.data.toList).1 hd
    go_enter Tryd.func32, Tryd.ntmps32
    go_wp2_with (go_at_call 39; refine (stringslite_Index_one s 46 _).mono ?_; rintro e w' ⟨rfl, rfl⟩; rw [hi])
    go_ret3
    exact ⟨⟨false, by simp only [Option.getD_none]; rfl⟩, Below.refl _ _⟩
  | some x =>
    obtain ⟨p, l⟩ := x
    have hi := (index_split s.data.toList).2 p l hd
    obtain ⟨e1, e2, e3⟩ := cut_pre hd
    have HE := Lib.hid (And.intro e1 e2)
    have c1 : (0 : Int) ≤ (p.length : Int) := by omega
    have c2 : (p.length : Int) ≤ (s.size : Int) := by omega
    have c3 : (p.length : Int) + 1 ≤ (s.size : Int) := by omega
    have c4 : IntKind.i64.wrap ((p.length : Int) + 1) = (p.length : Int) + 1 := by unfold IntKind.wrap; simp [IntKind.signed, IntKind.bits]; omega
    clear e1 e2
    go_enter Tryd.func32, Tryd.ntmps32
    go_wp2_with (go_at_call 39; refine (stringslite_Index_one s 46 _).mono ?_; rintro e w' ⟨rfl, rfl⟩; rw [hi])
    go_quiet (fail)
    go_wp2
    go_ret3
    refine ⟨⟨true, ?_⟩, pw_below_drewN (Below.refl _ _) _⟩
    simp only [Option.getD_some]
    rw [← HE.out.1, ← HE.out.2]
    rfl
theorem cutP_calls (s : ByteArray) (hs : s.size ≤ 9223372036854775806) (w : World) : Calls Tryd.prog 25 #[.string s, .string ⟨#[46]⟩] w fun e w' => (∃ b : Bool, e = .returned (.tuple #[.string (bB ((splitDot s.data.toList).getD (s.data.toList, [])).1), .string (bB ((splitDot s.data.toList).getD (s.data.toList, [])).2), .bool b])) ∧ Below w.heap.size w w' := by
  have H := Lib.hid (cut_calls s hs w)
  generalize bB ((splitDot s.data.toList).getD (s.data.toList, [])).1 = A at *
  generalize bB ((splitDot s.data.toList).getD (s.data.toList, [])).2 = B at *
  go_enter Tryd.func25, Tryd.ntmps25
  go_wp2_with (go_at_call 32; refine H.out.mono ?_; rintro e w' ⟨⟨b, rfl⟩, hb⟩)
  go_ret3
  exact ⟨⟨b, rfl⟩, hb⟩
/-! strconv.ParseUint: the number it hands back -/
theorem pu64 (s : ByteArray) (hlim : s.size ≤ 281474976710656) (w : World) (hv : Vars w) : Calls Tryd.prog 26 #[.string s, .int .i64 10, .int .i64 64] w fun e w' => (∃ ev, e = .returned (.tuple #[.int .u64 ((puV 64 s.data.toList : Nat) : Int), ev])) ∧ Below w.heap.size w w' := by
  unfold puV
  cases h : parseUintB 64 s.data.toList with
  | ok u =>
    refine (strconv_ParseUint_10_at64_ok s (by omega) u h w).mono ?_
    rintro e w' ⟨rfl, hw⟩
    refine ⟨⟨_, rfl⟩, ?_⟩
    rcases hw with rfl | rfl
    · exact Below.refl _ _
    · exact Lib.bytesWorld_below _ _ _
  | «syntax» =>
    obtain ⟨tp, p, hp⟩ := hv.syn
    refine (strconv_ParseUint_10_at64_syntax_var s hlim h tp p w hp).mono ?_
    rintro e w' ⟨N, rfl, _, _, hb⟩
    exact ⟨⟨_, rfl⟩, hb⟩
  | range =>
    obtain ⟨tp, p, hp⟩ := hv.rng
    refine (strconv_ParseUint_10_at64_range_var s hlim h tp p w hp).mono ?_
    rintro e w' ⟨N, rfl, _, _, hb⟩
    exact ⟨⟨_, rfl⟩, hb⟩
theorem pu32 (s : ByteArray) (hlim : s.size ≤ 281474976710656) (w : World) (hv : Vars w) : Calls Tryd.prog 26 #[.string s, .int .i64 10, .int .i64 32] w fun e w' => (∃ ev, e = .returned (.tuple #[.int .u64 ((puV 32 s.data.toList : Nat) : Int), ev])) ∧ Below w.heap.size w w' := by
  unfold puV
  cases h : parseUintB 32 s.data.toList with
  | ok u =>
    refine (strconv_ParseUint_10_at32_ok s (by omega) u h w).mono ?_
    rintro e w' ⟨rfl, hw⟩
    refine ⟨⟨_, rfl⟩, ?_⟩
    rcases hw with rfl | rfl
    · exact Below.refl _ _
    · exact Lib.bytesWorld_below _ _ _
  | «syntax» =>
    obtain ⟨tp, p, hp⟩ := hv.syn
    refine (strconv_ParseUint_10_at32_syntax_var s hlim h tp p w hp).mono ?_
    rintro e w' ⟨N, rfl, _, _, hb⟩
    exact ⟨⟨_, rfl⟩, hb⟩
  | range =>
    obtain ⟨tp, p, hp⟩ := hv.rng
    refine (strconv_ParseUint_10_at32_range_var s hlim h tp p w hp).mono ?_
    rintro e w' ⟨N, rfl, _, _, hb⟩
    exact ⟨⟨_, rfl⟩, hb⟩
theorem parseM_le {M : Nat} : ∀ {l : By} {acc u : Nat}, acc ≤ M → parseUintM M acc l = .ok u → u ≤ M
  | [], acc, u, ha, h => by injection h with h; omega
  | c :: r, acc, u, ha, h => by
    unfold parseUintM at h
    split at h
    · split at h
      · cases h
      · split at h
        · cases h
        · exact parseM_le (by omega) h
    · cases h
theorem puV_lt (B : Nat) (l : By) : puV B l < 2 ^ B := by
  have h2 : 0 < 2 ^ B := Nat.pow_pos (by omega)
  unfold puV
  cases h : parseUintB B l with
  | ok u =>
    unfold parseUintB at h
    split at h
    · cases h
    · have := parseM_le (by omega) h
      show u < 2 ^ B
      omega
  | «syntax» => exact h2
  | range => show 2 ^ B - 1 < 2 ^ B; omega
/-! the document's number -/
theorem bB_list (l : By) : (bB l).data.toList = l := by unfold bB; simp
theorem bB_size (l : By) : (bB l).size = l.length := by unfold bB; simp [ByteArray.size]
theorem val_lt (l : By) : ∀ (acc : Nat), (∀ c ∈ l, isDg c) → val acc l < (acc + 1) * 10 ^ l.length := by
  induction l with
  | nil => intro acc _; rw [List.length_nil, Nat.pow_zero]; show acc < _; omega
  | cons c r ih =>
    intro acc h
    have hc := h c (by simp)
    unfold isDg at hc
    have ih := ih (acc * 10 + (c.toNat - 48)) (fun x hx => h x (by simp [hx]))
    rw [val_cons, List.length_cons, Nat.pow_succ]
    generalize 10 ^ r.length = P at *
    generalize c.toNat = d at *
    refine Nat.lt_of_lt_of_le ih ?_
    rw [Nat.mul_comm P 10, ← Nat.mul_assoc]
    exact Nat.mul_le_mul_right _ (by omega)
def numO (l : By) : Nat × Bool := match numV l with
  | some u => (u, true)
  | none => (0, false)
theorem numO_bad {l : By} (h : ¬ (l ≠ [] ∧ l.length ≤ 16 ∧ zeroAhead l = false ∧ (∀ c ∈ l, isDg c))) : numO l = (0, false) := by
  unfold numO numV
  rw [if_neg h]
theorem numO_ok {l : By} (h : l ≠ [] ∧ l.length ≤ 16 ∧ zeroAhead l = false ∧ (∀ c ∈ l, isDg c)) : numO l = (val 0 l, true) := by
  unfold numO numV
  rw [if_pos h]
set_option maxHeartbeats 4000000 in
set_option maxRecDepth 10000 in
theorem number_calls (s : ByteArray) (w : World) {r : Nat × Bool} (hr : numO s.data.toList = r) : Calls Tryd.prog 27 #[.string s] w fun e w' => e = .returned (.tuple #[.int .u64 (r.1 : Int), .bool r.2]) ∧ w' = w := by
  have HSZ := Lib.hid (Lib.size_eq s)
  by_cases h0 : s.data.toList = []
  · have h0b : s.toList = [] := by rw [ByteArray.toList_eq]; exact h0
    have h0c : s.toList.isEmpty = true := by rw [h0b]; rfl
    have HR : Hid ((0, false) = r) := Lib.hid (by rw [← hr, numO_bad (fun h => h.1 h0)])
    clear hr
    go_enter Tryd.func27, Tryd.ntmps27
    go_wp2_with fail
    go_ret2
    rw [← HR.out]
    exact ⟨rfl, rfl⟩
  · have h0c : s.toList.isEmpty = false := by
      cases e : s.toList with
      | nil => exact absurd (by rw [← ByteArray.toList_eq]; exact e) h0
      | cons a b => rfl
    have hpos : 0 < s.size := by rw [HSZ.out]; exact List.length_pos_iff.2 h0
    by_cases h16 : 16 < s.size
    · have h16z : (16 : Int) < (s.size : Int) := by omega
      have HR : Hid ((0, false) = r) := Lib.hid (by rw [← hr, numO_bad (fun h => by have := h.2.1; have := HSZ.out; omega)])
      clear hr
      go_enter Tryd.func27, Tryd.ntmps27
      go_wp2_with fail
      go_ret2
      rw [← HR.out]
      exact ⟨rfl, rfl⟩
    · have h16z : ¬ (16 : Int) < (s.size : Int) := by omega
      have hget : ∀ k (hk : k < s.size), s.data.toList[k]'(by rw [← HSZ.out]; exact hk) = s[k] := fun k hk => rfl
      have hza : zeroAhead s.data.toList = (decide (1 < s.size) && ((s[0]'hpos).toNat == 48)) := by
        have e0 := hget 0 hpos
        rw [HSZ.out]
        cases hl : s.data.toList with
        | nil => exact absurd hl h0
        | cons a t =>
          simp only [hl, List.getElem_cons_zero] at e0
          cases t with
          | nil => simp [zeroAhead]
          | cons b q =>
            show (a.toNat == 48) = _
            rw [← e0, decide_eq_true (by simp), Bool.true_and]
      by_cases h1 : 1 < s.size
      case' pos =>
        have h1z : (1 : Int) < (s.size : Int) := by omega
        by_cases hz : (s[0]'hpos).toNat = 48
        · have hzb : (((s[0]'hpos).toNat : Int) == 48) = true := by simpa using (by omega : (((s[0]'hpos).toNat : Int) = 48))
          have HR : Hid ((0, false) = r) := Lib.hid (by rw [← hr, numO_bad (fun h => by have := h.2.2.1; rw [hza, decide_eq_true h1, hz] at this; simp at this)])
          clear hr hza hget hz
          go_enter Tryd.func27, Tryd.ntmps27
          go_wp2_with fail
          go_ret2
          rw [← HR.out]
          exact ⟨rfl, rfl⟩
        have hzb : (((s[0]'hpos).toNat : Int) == 48) = false := by simpa using (by omega : ¬ (((s[0]'hpos).toNat : Int) = 48))
        have HZ : Hid (zeroAhead s.data.toList = false) := Lib.hid (by rw [hza, decide_eq_true h1, Bool.true_and]; simpa using hz)
        have HG := Lib.hid hget
        have HR := Lib.hid hr
        clear hr hza hget hz
        go_enter Tryd.func27, Tryd.ntmps27
        go_upto_region 4 with fail
        clear hzb h1z
      case' neg =>
        have h1z : ¬ (1 : Int) < (s.size : Int) := by omega
        have HZ : Hid (zeroAhead s.data.toList = false) := Lib.hid (by rw [hza, decide_eq_false h1, Bool.false_and])
        have HG := Lib.hid hget
        have HR := Lib.hid hr
        clear hr hza hget
        go_enter Tryd.func27, Tryd.ntmps27
        go_upto_region 4 with fail
        clear h1z
      all_goals
        clear h0c h16z h1
        have H0 := Lib.hid h0
        clear h0
        go_wp2_with fail
        go_loopg [4, 5] s.size (fun kk n i wr => ∃ k : Nat, k ≤ s.size ∧ kk = s.size - k ∧ i = .int .i64 k ∧ n = .int .u64 ((val 0 (s.data.toList.take k) : Nat) : Int) ∧ (∀ c ∈ s.data.toList.take k, isDg c) ∧ wr = w)
        case atStart => exact ⟨0, Nat.zero_le _, rfl, rfl, rfl, fun c hc => (by simp at hc), rfl⟩
        case round =>
          obtain ⟨k, hk, rfl, rfl, rfl, hd, rfl⟩ := hrel
          have HD := Lib.hid hd
          have hv := val_lt (s.data.toList.take k) 0 hd
          clear hd
          by_cases hkl : k < s.size
          · have hkz : (k : Int) < (s.size : Int) := by omega
            have hw : IntKind.i64.wrap ((k : Int) + 1) = ((k + 1 : Nat) : Int) := by unfold IntKind.wrap; simp [IntKind.signed, IntKind.bits]; omega
            have hlk : (s.data.toList.take k).length = k := by rw [List.length_take, ← HSZ.out]; omega
            have hts : s.data.toList.take (k + 1) = s.data.toList.take k ++ [s[k]'hkl] := by
              rw [List.take_succ_eq_append_getElem (by rw [← HSZ.out]; exact hkl), HG.out k hkl]
            have hva : val 0 (s.data.toList.take (k + 1)) = val 0 (s.data.toList.take k) * 10 + ((s[k]'hkl).toNat - 48) := by rw [hts, val_app]
            rw [hlk] at hv
            have hp : 10 ^ k ≤ 10 ^ 15 := Nat.pow_le_pow_right (by omega) (by omega)
            have hvb : val 0 (s.data.toList.take k) < 1000000000000000 := by omega
            have HT := Lib.hid (And.intro hts hva)
            clear hts hva hv hp hlk
            generalize val 0 (s.data.toList.take k) = v at *
            have hc256 : (s[k]'hkl).toNat < 256 := UInt8.toNat_lt _
            by_cases hdg : isDg (s[k]'hkl)
            · have hdg' := hdg
              unfold isDg at hdg'
              have d1 : ¬ (((s[k]'hkl).toNat : Int) < 48) := by omega
              have d2 : ¬ ((57 : Int) < ((s[k]'hkl).toNat : Int)) := by omega
              have d3 : (48 : Int) ≤ ((s[k]'hkl).toNat : Int) := by omega
              have d4 : IntKind.u8.wrap (((s[k]'hkl).toNat : Int) - 48) = ((s[k]'hkl).toNat : Int) - 48 := by unfold IntKind.wrap; simp [IntKind.signed, IntKind.bits]; omega
              have d5 : IntKind.u64.wrap (((s[k]'hkl).toNat : Int) - 48) = ((s[k]'hkl).toNat : Int) - 48 := by rw [IntKind.wrap_u64]; omega
              have d6 : IntKind.u64.wrap ((v : Int) * 10) = (v : Int) * 10 := by rw [IntKind.wrap_u64]; omega
              have d7 : IntKind.u64.wrap ((v : Int) * 10 + (((s[k]'hkl).toNat : Int) - 48)) = (v : Int) * 10 + (((s[k]'hkl).toNat : Int) - 48) := by rw [IntKind.wrap_u64]; omega
              have HN : Hid (∀ c ∈ s.data.toList.take (k + 1), isDg c) := Lib.hid fun c hc => by
                rw [HT.out.1] at hc
                rcases List.mem_append.1 hc with h | h
                · exact HD.out c h
                · simp at h; subst h; exact hdg
              clear hdg hdg'
              go_wp2
              go_roundg (s.size - (k + 1))
              case measure => omega
              case rel => exact ⟨k + 1, by omega, rfl, by rw [show ((k + 1 : Nat) : Int) = (k : Int) + 1 by omega], by rw [HT.out.2]; congr 1; omega, HN.out, rfl⟩
            · have HB : Hid ((0, false) = r) := Lib.hid (by
                rw [← HR.out, numO_bad (fun h => hdg (h.2.2.2 _ (by rw [← HG.out k hkl]; exact List.getElem_mem _)))])
              by_cases d1 : (((s[k]'hkl).toNat : Int) < 48)
              · clear hdg
                go_wp2
                go_ret2
                rw [← HB.out]
                exact ⟨rfl, rfl⟩
              · have d2 : (57 : Int) < ((s[k]'hkl).toNat : Int) := by unfold isDg at hdg; omega
                clear hdg
                go_wp2
                go_ret2
                rw [← HB.out]
                exact ⟨rfl, rfl⟩
          · obtain rfl : k = s.size := by omega
            have hkz : ¬ (s.size : Int) < (s.size : Int) := by omega
            have et : s.data.toList.take s.size = s.data.toList := List.take_of_length_le (by have := HSZ.out; omega)
            have HB : Hid ((val 0 (s.data.toList.take s.size), true) = r) := Lib.hid (by
              rw [et, ← HR.out]
              exact (numO_ok ⟨H0.out, by have := HSZ.out; omega, HZ.out, fun c hc => HD.out c (by rw [et]; exact hc)⟩).symm)
            clear hv et
            generalize val 0 (s.data.toList.take s.size) = v at *
            go_wp2
            go_ret2
            rw [← HB.out]
            exact ⟨rfl, rfl⟩
end Go.Proofs.YthfaacheolhjnaaDoor.Txt
