/- slices.Compact at []string, and the index of one byte in a text, at this program: the library's contracts, laid. Written by a program (the kit's lay-shelf and its plain mode). -/
import Derived.Shelf.Strings.Search1
import Derived.Shelf.Strings.Search2
import Derived.Shelf.Slices.CompactS
import Derived.Test.YthinieokpgmfoaaProg
namespace Go.Proofs.Ythinieokpgmfoaa
open Go.Shelf
def Lit.index_ren : Go.Shelf.Ren := ⟨fun | 219 => 108 | 217 => 110 | 225 => 111 | 224 => 112 | 267 => 113 | 266 => 114 | 314 => 115 | n => n, fun | 9 => 9 | 3 => 3 | 4 => 4 | 5 => 5 | 46 => 87 | 146 => 116 | 51 => 101 | n => n, fun | 1 => 0 | n => n⟩
theorem Lit.index : Go.Proofs.Lays.n219 Try.prog Lit.index_ren := {
  mixed := by kernel_rfl
  f217 := Try.func110.trans (congrArg some (by kernel_rfl))
  f219 := Try.func108.trans (congrArg some (by kernel_rfl))
  f224 := Try.func112.trans (congrArg some (by kernel_rfl))
  f225 := Try.func111.trans (congrArg some (by kernel_rfl))
  f266 := Try.func114.trans (congrArg some (by kernel_rfl))
  f267 := Try.func113.trans (congrArg some (by kernel_rfl))
  f314 := Try.func115.trans (congrArg some (by kernel_rfl))
  t3 := Try.underlying3
  a3 := Try.isAgg3
  z3 := Try.sizeOf3
  v3 := Try.zeroValue3
  t4 := Try.underlying4
  a4 := Try.isAgg4
  z4 := Try.sizeOf4
  v4 := Try.zeroValue4
  t5 := Try.underlying5
  a5 := Try.isAgg5
  z5 := Try.sizeOf5
  v5 := Try.zeroValue5
  t9 := Try.underlying9
  a9 := Try.isAgg9
  z9 := Try.sizeOf9
  v9 := Try.zeroValue9
  t46 := Try.underlying87
  a46 := Try.isAgg87
  z46 := Try.sizeOf87
  v46 := Try.zeroValue87
  t51 := Try.underlying101
  a51 := Try.isAgg101
  z51 := Try.sizeOf101
  v51 := Try.zeroValue101
  t146 := Try.underlying116
  a146 := Try.isAgg116
  z146 := Try.sizeOf116
  v146 := Try.zeroValue116
  g1 := by kernel_rfl }
open Go.RowKit Go.Lib in
theorem Lit.indexOne (s : ByteArray) (c : UInt8) (w : World) :
    Calls Try.prog 108 #[.string s, .string ⟨#[c]⟩] w fun e w' => e = .returned (.int .i64 (Lib.indexByte s.data.toList c)) ∧ w' = w := Any.stringslite_Index_one Lit.index s c w
def Lit.compact_ren : Go.Shelf.Ren := ⟨fun | 194 => 45 | n => n, fun | 31 => 25 | 9 => 9 | 3 => 3 | 4 => 4 | 0 => 0 | n => n, fun | n => n⟩
theorem Lit.compact : Go.Proofs.Lays.n194 Try.prog Lit.compact_ren := {
  mixed := by kernel_rfl
  f194 := Try.func45.trans (congrArg some (by kernel_rfl))
  t0 := Try.underlying0
  a0 := Try.isAgg0
  z0 := Try.sizeOf0
  v0 := Try.zeroValue0
  t3 := Try.underlying3
  a3 := Try.isAgg3
  z3 := Try.sizeOf3
  v3 := Try.zeroValue3
  t4 := Try.underlying4
  a4 := Try.isAgg4
  z4 := Try.sizeOf4
  v4 := Try.zeroValue4
  t9 := Try.underlying9
  a9 := Try.isAgg9
  z9 := Try.sizeOf9
  v9 := Try.zeroValue9
  t31 := Try.underlying25
  a31 := Try.isAgg25
  z31 := Try.sizeOf25
  v31 := Try.zeroValue25 }
open Go.RowKit Go.Lib Go.Sort in
theorem Lit.compactS (blk off cap : Nat) (zs : List (List UInt8)) (w : World) (hH : Holds encStr w blk off zs.toArray) (hsz : zs.length ≤ 9223372036854775807) (hcap : zs.length ≤ cap) :
    Calls Try.prog 45 #[.slice (some ⟨blk, off, none⟩) zs.length cap] w fun e w' => e = .returned (.slice (some ⟨blk, off, none⟩) (Lib.compact zs).length cap) ∧ ∃ q, w' = putRow encStr (Sort.ahead w q) blk off (Lib.compact zs ++ List.replicate (zs.length - (Lib.compact zs).length) []).toArray := Any.slices_Compact_string Lit.compact blk off cap zs w hH hsz hcap
open Go.RowKit Go.Lib Go.Sort in
theorem Lit.compactS0 (a : Option Addr) (cap : Nat) (w : World) :
    Calls Try.prog 45 #[.slice a 0 cap] w fun e w' => e = .returned (.slice a 0 cap) ∧ w' = w := Any.slices_Compact_string_empty Lit.compact a cap w
end Go.Proofs.Ythinieokpgmfoaa
