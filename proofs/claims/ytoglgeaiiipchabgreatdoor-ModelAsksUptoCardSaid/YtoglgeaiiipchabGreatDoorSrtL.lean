/-
  DERIVED: THE SHELF's CONTRACTS AT THIS DUMP, IN PLAIN WORDS (tools/lay-plain.mjs out of 'TryzSrt.lean', which tools/lay-shelf.mjs wrote): THE SAME DECLARATIONS UNDER THE SAME NAMES: 'import', 'namespace', 'open', 'def', 'theorem' AND NOTHING ELSE: no command of the shelf's: FOR A HAND-IN. Each laying: the table of numbers ('.._ren') and one theorem, a field a fact of the dump's own or the kernel's comparison; each contract: ONE APPLICATION.
-/
import Derived.Shelf.SlSortCmp.WholeK
import Derived.Test.YtoglgeaiiipchabGreatDoorProg
namespace Go.Proofs.YtoglgeaiiipchabGreatDoor
open Go.Shelf
def Tryz.sortStp_ren : Go.Shelf.Ren := ⟨fun | 6 => 93 | 15 => 118 | 14 => 117 | 28 => 156 | 29 => 157 | 20 => 148 | 21 => 149 | 22 => 150 | 23 => 151 | 24 => 152 | 25 => 153 | 26 => 154 | 27 => 155 | 46 => 176 | 47 => 177 | 48 => 178 | 49 => 179 | 50 => 180 | 57 => 196 | n => n, fun | 22 => 24 | 24 => 108 | 25 => 123 | 3 => 3 | 39 => 165 | 0 => 0 | 53 => 212 | 55 => 199 | 4 => 4 | 46 => 206 | 45 => 205 | 50 => 126 | 5 => 5 | 9 => 9 | 66 => 227 | 70 => 231 | 76 => 244 | 77 => 245 | n => n, fun | n => n⟩
theorem Tryz.sortStp : Go.Proofs.SlLaysF0.n6 Tryz.prog Tryz.sortStp_ren := {
  mixed := by kernel_rfl
  f6 := ⟨Tryz.f93.name, by decide, Tryz.func93.trans (congrArg some (by kernel_rfl))⟩
  f14 := ⟨Tryz.f117.name, by decide, Tryz.func117.trans (congrArg some (by kernel_rfl))⟩
  f15 := Tryz.func118.trans (congrArg some (by kernel_rfl))
  f20 := ⟨Tryz.f148.name, by decide, Tryz.func148.trans (congrArg some (by kernel_rfl))⟩
  f21 := ⟨Tryz.f149.name, by decide, Tryz.func149.trans (congrArg some (by kernel_rfl))⟩
  f22 := ⟨Tryz.f150.name, by decide, Tryz.func150.trans (congrArg some (by kernel_rfl))⟩
  f23 := ⟨Tryz.f151.name, by decide, Tryz.func151.trans (congrArg some (by kernel_rfl))⟩
  f24 := ⟨Tryz.f152.name, by decide, Tryz.func152.trans (congrArg some (by kernel_rfl))⟩
  f25 := ⟨Tryz.f153.name, by decide, Tryz.func153.trans (congrArg some (by kernel_rfl))⟩
  f26 := ⟨Tryz.f154.name, by decide, Tryz.func154.trans (congrArg some (by kernel_rfl))⟩
  f27 := ⟨Tryz.f155.name, by decide, Tryz.func155.trans (congrArg some (by kernel_rfl))⟩
  f28 := Tryz.func156.trans (congrArg some (by kernel_rfl))
  f29 := Tryz.func157.trans (congrArg some (by kernel_rfl))
  f46 := ⟨Tryz.f176.name, by decide, Tryz.func176.trans (congrArg some (by kernel_rfl))⟩
  f47 := Tryz.func177.trans (congrArg some (by kernel_rfl))
  f48 := Tryz.func178.trans (congrArg some (by kernel_rfl))
  f49 := ⟨Tryz.f179.name, by decide, Tryz.func179.trans (congrArg some (by kernel_rfl))⟩
  f50 := ⟨Tryz.f180.name, by decide, Tryz.func180.trans (congrArg some (by kernel_rfl))⟩
  f57 := ⟨Tryz.f196.name, by decide, Tryz.func196.trans (congrArg some (by kernel_rfl))⟩
  t0 := Tryz.underlying0
  a0 := Tryz.isAgg0
  z0 := Tryz.sizeOf0
  v0 := Tryz.zeroValue0
  t3 := Tryz.underlying3
  a3 := Tryz.isAgg3
  z3 := Tryz.sizeOf3
  v3 := Tryz.zeroValue3
  t4 := Tryz.underlying4
  a4 := Tryz.isAgg4
  z4 := Tryz.sizeOf4
  v4 := Tryz.zeroValue4
  t5 := Tryz.underlying5
  a5 := Tryz.isAgg5
  z5 := Tryz.sizeOf5
  v5 := Tryz.zeroValue5
  t9 := Tryz.underlying9
  a9 := Tryz.isAgg9
  z9 := Tryz.sizeOf9
  v9 := Tryz.zeroValue9
  t22 := Tryz.underlying24
  a22 := Tryz.isAgg24
  z22 := Tryz.sizeOf24
  v22 := Tryz.zeroValue24
  t25 := Tryz.underlying123
  a25 := Tryz.isAgg123
  z25 := Tryz.sizeOf123
  v25 := Tryz.zeroValue123
  t39 := Tryz.underlying165
  a39 := Tryz.isAgg165
  z39 := Tryz.sizeOf165
  v39 := Tryz.zeroValue165
  t45 := Tryz.underlying205
  a45 := Tryz.isAgg205
  z45 := Tryz.sizeOf205
  v45 := Tryz.zeroValue205
  t46 := Tryz.underlying206
  a46 := Tryz.isAgg206
  z46 := Tryz.sizeOf206
  v46 := Tryz.zeroValue206
  t50 := Tryz.underlying126
  a50 := Tryz.isAgg126
  z50 := Tryz.sizeOf126
  v50 := Tryz.zeroValue126
  t53 := Tryz.underlying212
  a53 := Tryz.isAgg212
  z53 := Tryz.sizeOf212
  v53 := Tryz.zeroValue212
  t55 := Tryz.underlying199
  a55 := Tryz.isAgg199
  z55 := Tryz.sizeOf199
  v55 := Tryz.zeroValue199
  t66 := Tryz.underlying227
  a66 := Tryz.isAgg227
  z66 := Tryz.sizeOf227
  v66 := Tryz.zeroValue227
  t70 := Tryz.underlying231
  a70 := Tryz.isAgg231
  z70 := Tryz.sizeOf231
  v70 := Tryz.zeroValue231
  t76 := Tryz.underlying244
  a76 := Tryz.isAgg244
  z76 := Tryz.sizeOf244
  v76 := Tryz.zeroValue244
  t77 := Tryz.underlying245
  a77 := Tryz.isAgg245
  z77 := Tryz.sizeOf245
  v77 := Tryz.zeroValue245 }
end Go.Proofs.YtoglgeaiiipchabGreatDoor
