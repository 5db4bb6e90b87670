/-
  DERIVED: THE SHELF's CONTRACTS AT THIS DUMP, IN PLAIN WORDS (tools/lay-plain.mjs out of 'YtibeihcpehikoaaGreatSortLay0.lean', which tools/lay-shelf.mjs wrote): THE SAME DECLARATIONS UNDER THE SAME NAMES: 'import', 'namespace', 'open', 'def', 'theorem' AND NOTHING ELSE: no command of the shelf's: FOR A HAND-IN. Each laying: the table of numbers ('.._ren') and one theorem, a field a fact of the dump's own or the kernel's comparison; each contract: ONE APPLICATION.
-/
import Derived.Shelf.SlSortCmp.WholeK
import Derived.Ground.SlsfProg
import Derived.Test.YtibeihcpehikoaaGreatProg
namespace Go.Proofs
open Go.Shelf
def Tryz.sortEv_ren : Go.Shelf.Ren := ⟨fun | 6 => 155 | 15 => 227 | 14 => 226 | 28 => 272 | 29 => 273 | 20 => 264 | 21 => 265 | 22 => 266 | 23 => 267 | 24 => 268 | 25 => 269 | 26 => 270 | 27 => 271 | 46 => 300 | 47 => 301 | 48 => 302 | 49 => 303 | 50 => 304 | 57 => 316 | n => n, fun | 22 => 52 | 24 => 62 | 25 => 153 | 3 => 3 | 39 => 82 | 0 => 0 | 53 => 22 | 55 => 163 | 4 => 4 | 46 => 342 | 45 => 341 | 50 => 65 | 5 => 5 | 9 => 9 | 66 => 367 | 70 => 331 | 76 => 380 | 77 => 381 | n => n, fun | n => n⟩
theorem Tryz.sortEv : Go.Proofs.SlLaysF0.n6 Tryz.prog Tryz.sortEv_ren := {
  mixed := by kernel_rfl
  f6 := ⟨Tryz.f155.name, by decide, Tryz.func155.trans (congrArg some (by kernel_rfl))⟩
  f14 := ⟨Tryz.f226.name, by decide, Tryz.func226.trans (congrArg some (by kernel_rfl))⟩
  f15 := Tryz.func227.trans (congrArg some (by kernel_rfl))
  f20 := ⟨Tryz.f264.name, by decide, Tryz.func264.trans (congrArg some (by kernel_rfl))⟩
  f21 := ⟨Tryz.f265.name, by decide, Tryz.func265.trans (congrArg some (by kernel_rfl))⟩
  f22 := ⟨Tryz.f266.name, by decide, Tryz.func266.trans (congrArg some (by kernel_rfl))⟩
  f23 := ⟨Tryz.f267.name, by decide, Tryz.func267.trans (congrArg some (by kernel_rfl))⟩
  f24 := ⟨Tryz.f268.name, by decide, Tryz.func268.trans (congrArg some (by kernel_rfl))⟩
  f25 := ⟨Tryz.f269.name, by decide, Tryz.func269.trans (congrArg some (by kernel_rfl))⟩
  f26 := ⟨Tryz.f270.name, by decide, Tryz.func270.trans (congrArg some (by kernel_rfl))⟩
  f27 := ⟨Tryz.f271.name, by decide, Tryz.func271.trans (congrArg some (by kernel_rfl))⟩
  f28 := Tryz.func272.trans (congrArg some (by kernel_rfl))
  f29 := Tryz.func273.trans (congrArg some (by kernel_rfl))
  f46 := ⟨Tryz.f300.name, by decide, Tryz.func300.trans (congrArg some (by kernel_rfl))⟩
  f47 := Tryz.func301.trans (congrArg some (by kernel_rfl))
  f48 := Tryz.func302.trans (congrArg some (by kernel_rfl))
  f49 := ⟨Tryz.f303.name, by decide, Tryz.func303.trans (congrArg some (by kernel_rfl))⟩
  f50 := ⟨Tryz.f304.name, by decide, Tryz.func304.trans (congrArg some (by kernel_rfl))⟩
  f57 := ⟨Tryz.f316.name, by decide, Tryz.func316.trans (congrArg some (by kernel_rfl))⟩
  t0 := Tryz.underlying0
  a0 := Tryz.isAgg0
  z0 := Tryz.sizeOf0
  v0 := Tryz.zeroValue0
  t3 := Tryz.underlying3
  a3 := Tryz.isAgg3
  z3 := Tryz.sizeOf3
  v3 := Tryz.zeroValue3
  t4 := Tryz.underlying4
  a4 := Tryz.isAgg4
  z4 := Tryz.sizeOf4
  v4 := Tryz.zeroValue4
  t5 := Tryz.underlying5
  a5 := Tryz.isAgg5
  z5 := Tryz.sizeOf5
  v5 := Tryz.zeroValue5
  t9 := Tryz.underlying9
  a9 := Tryz.isAgg9
  z9 := Tryz.sizeOf9
  v9 := Tryz.zeroValue9
  t22 := Tryz.underlying52
  a22 := Tryz.isAgg52
  z22 := Tryz.sizeOf52
  v22 := Tryz.zeroValue52
  t25 := Tryz.underlying153
  a25 := Tryz.isAgg153
  z25 := Tryz.sizeOf153
  v25 := Tryz.zeroValue153
  t39 := Tryz.underlying82
  a39 := Tryz.isAgg82
  z39 := Tryz.sizeOf82
  v39 := Tryz.zeroValue82
  t45 := Tryz.underlying341
  a45 := Tryz.isAgg341
  z45 := Tryz.sizeOf341
  v45 := Tryz.zeroValue341
  t46 := Tryz.underlying342
  a46 := Tryz.isAgg342
  z46 := Tryz.sizeOf342
  v46 := Tryz.zeroValue342
  t50 := Tryz.underlying65
  a50 := Tryz.isAgg65
  z50 := Tryz.sizeOf65
  v50 := Tryz.zeroValue65
  t53 := Tryz.underlying22
  a53 := Tryz.isAgg22
  z53 := Tryz.sizeOf22
  v53 := Tryz.zeroValue22
  t55 := Tryz.underlying163
  a55 := Tryz.isAgg163
  z55 := Tryz.sizeOf163
  v55 := Tryz.zeroValue163
  t66 := Tryz.underlying367
  a66 := Tryz.isAgg367
  z66 := Tryz.sizeOf367
  v66 := Tryz.zeroValue367
  t70 := Tryz.underlying331
  a70 := Tryz.isAgg331
  z70 := Tryz.sizeOf331
  v70 := Tryz.zeroValue331
  t76 := Tryz.underlying380
  a76 := Tryz.isAgg380
  z76 := Tryz.sizeOf380
  v76 := Tryz.zeroValue380
  t77 := Tryz.underlying381
  a77 := Tryz.isAgg381
  z77 := Tryz.sizeOf381
  v77 := Tryz.zeroValue381 }
end Go.Proofs
