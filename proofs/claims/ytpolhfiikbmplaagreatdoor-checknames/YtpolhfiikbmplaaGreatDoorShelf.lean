/-
  DERIVED: THE SHELF's CONTRACTS AT THIS DUMP, IN PLAIN WORDS (tools/lay-plain.mjs out of 'ZzShelfSrc.lean', which tools/lay-shelf.mjs wrote): THE SAME DECLARATIONS UNDER THE SAME NAMES: 'import', 'namespace', 'open', 'def', 'theorem' AND NOTHING ELSE: no command of the shelf's: FOR A HAND-IN. Each laying: the table of numbers ('.._ren') and one theorem, a field a fact of the dump's own or the kernel's comparison; each contract: ONE APPLICATION.
-/
import Derived.Shelf.SlGeneric
import Derived.Shelf.SlIter.Nil
import Derived.Shelf.SortM.Plain
import Derived.Shelf.SortM.SortNone
import Derived.Ground.GgzProg
import Derived.Ground.SlgmProg
import Derived.Test.YtpolhfiikbmplaaGreatDoorProg
namespace Go.Proofs
open Go.Shelf
def Tryz.vkeysA_ren : Go.Shelf.Ren := ⟨fun | 7 => 388 | 10 => 461 | n => n, fun | 23 => 424 | 26 => 9 | 3 => 4 | 28 => 427 | 0 => 0 | 27 => 426 | 33 => 218 | 4 => 4 | n => n, fun | n => n⟩
theorem Tryz.vkeysA : Go.Proofs.SlLaysZ.n7 Tryz.prog Tryz.vkeysA_ren := {
  mixed := by kernel_rfl
  f7 := ⟨Tryz.f388.name, by decide, Tryz.func388.trans (congrArg some (by kernel_rfl))⟩
  f10 := ⟨Tryz.f461.name, by decide, Tryz.func461.trans (congrArg some (by kernel_rfl))⟩
  t0 := Tryz.underlying0
  a0 := Tryz.isAgg0
  z0 := Tryz.sizeOf0
  v0 := Tryz.zeroValue0
  t4 := Tryz.underlying4
  a4 := Tryz.isAgg4
  z4 := Tryz.sizeOf4
  v4 := Tryz.zeroValue4
  t23 := Tryz.underlying424
  a23 := Tryz.isAgg424
  z23 := Tryz.sizeOf424
  v23 := Tryz.zeroValue424
  t26 := Tryz.underlying9
  a26 := Tryz.isAgg9
  z26 := Tryz.sizeOf9
  v26 := Tryz.zeroValue9
  t27 := Tryz.underlying426
  a27 := Tryz.isAgg426
  z27 := Tryz.sizeOf426
  v27 := Tryz.zeroValue426
  t28 := Tryz.underlying427
  a28 := Tryz.isAgg427
  z28 := Tryz.sizeOf427
  v28 := Tryz.zeroValue427
  t33 := Tryz.underlying218
  a33 := Tryz.isAgg218
  z33 := Tryz.sizeOf218
  v33 := Tryz.zeroValue218 }
def Tryz.vsortedA_ren : Go.Shelf.Ren := ⟨fun | 6 => 387 | 8 => 459 | 9 => 460 | 11 => 505 | 13 => 90 | 12 => 506 | 23 => 180 | 24 => 181 | 14 => 533 | 15 => 534 | 16 => 535 | 17 => 536 | 18 => 537 | 19 => 538 | 20 => 539 | 21 => 540 | 22 => 541 | 25 => 562 | 26 => 287 | 27 => 288 | 28 => 563 | 29 => 564 | 30 => 182 | 31 => 587 | n => n, fun | 26 => 9 | 28 => 427 | 24 => 347 | 0 => 0 | 3 => 3 | 37 => 118 | 48 => 124 | 50 => 139 | 4 => 4 | 40 => 211 | 39 => 210 | 45 => 38 | 5 => 5 | 9 => 9 | 51 => 338 | 55 => 342 | 57 => 416 | 58 => 299 | 33 => 218 | n => n, fun | n => n⟩
theorem Tryz.vsortedA : Go.Proofs.SlLaysZ.n6 Tryz.prog Tryz.vsortedA_ren := {
  mixed := by kernel_rfl
  f6 := ⟨Tryz.f387.name, by decide, Tryz.func387.trans (congrArg some (by kernel_rfl))⟩
  f8 := ⟨Tryz.f459.name, by decide, Tryz.func459.trans (congrArg some (by kernel_rfl))⟩
  f11 := ⟨Tryz.f505.name, by decide, Tryz.func505.trans (congrArg some (by kernel_rfl))⟩
  t0 := Tryz.underlying0
  a0 := Tryz.isAgg0
  z0 := Tryz.sizeOf0
  v0 := Tryz.zeroValue0
  t24 := Tryz.underlying347
  a24 := Tryz.isAgg347
  z24 := Tryz.sizeOf347
  v24 := Tryz.zeroValue347
  t26 := Tryz.underlying9
  a26 := Tryz.isAgg9
  z26 := Tryz.sizeOf9
  v26 := Tryz.zeroValue9
  t28 := Tryz.underlying427
  a28 := Tryz.isAgg427
  z28 := Tryz.sizeOf427
  v28 := Tryz.zeroValue427
  i26 := by kernel_rfl }
def Tryz.vsortA_ren : Go.Shelf.Ren := ⟨fun | 6 => 460 | 8 => 90 | 9 => 506 | 19 => 180 | 20 => 181 | 21 => 533 | 22 => 534 | 23 => 535 | 24 => 536 | 25 => 537 | 26 => 538 | 27 => 539 | 28 => 540 | 29 => 541 | 36 => 562 | 31 => 287 | 32 => 288 | 37 => 563 | 38 => 564 | 39 => 182 | 41 => 587 | n => n, fun | 27 => 347 | 29 => 9 | 3 => 3 | 32 => 118 | 26 => 347 | 0 => 0 | 44 => 124 | 46 => 139 | 4 => 4 | 36 => 211 | 35 => 210 | 41 => 38 | 5 => 5 | 9 => 9 | 53 => 338 | 57 => 342 | 63 => 416 | 64 => 299 | n => n, fun | n => n⟩
theorem Tryz.vsortA : Go.Proofs.SlLaysM.n6 Tryz.prog Tryz.vsortA_ren := {
  mixed := by kernel_rfl
  f6 := ⟨Tryz.f460.name, by decide, Tryz.func460.trans (congrArg some (by kernel_rfl))⟩
  f8 := Tryz.func90.trans (congrArg some (by kernel_rfl))
  f9 := ⟨Tryz.f506.name, by decide, Tryz.func506.trans (congrArg some (by kernel_rfl))⟩
  f19 := Tryz.func180.trans (congrArg some (by kernel_rfl))
  f20 := Tryz.func181.trans (congrArg some (by kernel_rfl))
  f21 := ⟨Tryz.f533.name, by decide, Tryz.func533.trans (congrArg some (by kernel_rfl))⟩
  f22 := ⟨Tryz.f534.name, by decide, Tryz.func534.trans (congrArg some (by kernel_rfl))⟩
  f23 := ⟨Tryz.f535.name, by decide, Tryz.func535.trans (congrArg some (by kernel_rfl))⟩
  f24 := ⟨Tryz.f536.name, by decide, Tryz.func536.trans (congrArg some (by kernel_rfl))⟩
  f25 := ⟨Tryz.f537.name, by decide, Tryz.func537.trans (congrArg some (by kernel_rfl))⟩
  f26 := ⟨Tryz.f538.name, by decide, Tryz.func538.trans (congrArg some (by kernel_rfl))⟩
  f27 := ⟨Tryz.f539.name, by decide, Tryz.func539.trans (congrArg some (by kernel_rfl))⟩
  f28 := ⟨Tryz.f540.name, by decide, Tryz.func540.trans (congrArg some (by kernel_rfl))⟩
  f29 := ⟨Tryz.f541.name, by decide, Tryz.func541.trans (congrArg some (by kernel_rfl))⟩
  f31 := Tryz.func287.trans (congrArg some (by kernel_rfl))
  f32 := Tryz.func288.trans (congrArg some (by kernel_rfl))
  f36 := ⟨Tryz.f562.name, by decide, Tryz.func562.trans (congrArg some (by kernel_rfl))⟩
  f37 := ⟨Tryz.f563.name, by decide, Tryz.func563.trans (congrArg some (by kernel_rfl))⟩
  f38 := ⟨Tryz.f564.name, by decide, Tryz.func564.trans (congrArg some (by kernel_rfl))⟩
  f39 := ⟨Tryz.f182.name, by decide, Tryz.func182.trans (congrArg some (by kernel_rfl))⟩
  f41 := ⟨Tryz.f587.name, by decide, Tryz.func587.trans (congrArg some (by kernel_rfl))⟩
  t0 := Tryz.underlying0
  a0 := Tryz.isAgg0
  z0 := Tryz.sizeOf0
  v0 := Tryz.zeroValue0
  t3 := Tryz.underlying3
  a3 := Tryz.isAgg3
  z3 := Tryz.sizeOf3
  v3 := Tryz.zeroValue3
  t4 := Tryz.underlying4
  a4 := Tryz.isAgg4
  z4 := Tryz.sizeOf4
  v4 := Tryz.zeroValue4
  t5 := Tryz.underlying5
  a5 := Tryz.isAgg5
  z5 := Tryz.sizeOf5
  v5 := Tryz.zeroValue5
  t9 := Tryz.underlying9
  a9 := Tryz.isAgg9
  z9 := Tryz.sizeOf9
  v9 := Tryz.zeroValue9
  t26 := Tryz.underlying347
  a26 := Tryz.isAgg347
  z26 := Tryz.sizeOf347
  v26 := Tryz.zeroValue347
  t27 := Tryz.underlying347
  a27 := Tryz.isAgg347
  z27 := Tryz.sizeOf347
  v27 := Tryz.zeroValue347
  t29 := Tryz.underlying9
  a29 := Tryz.isAgg9
  z29 := Tryz.sizeOf9
  v29 := Tryz.zeroValue9
  t32 := Tryz.underlying118
  a32 := Tryz.isAgg118
  z32 := Tryz.sizeOf118
  v32 := Tryz.zeroValue118
  t35 := Tryz.underlying210
  a35 := Tryz.isAgg210
  z35 := Tryz.sizeOf210
  v35 := Tryz.zeroValue210
  t36 := Tryz.underlying211
  a36 := Tryz.isAgg211
  z36 := Tryz.sizeOf211
  v36 := Tryz.zeroValue211
  t41 := Tryz.underlying38
  a41 := Tryz.isAgg38
  z41 := Tryz.sizeOf38
  v41 := Tryz.zeroValue38
  t44 := Tryz.underlying124
  a44 := Tryz.isAgg124
  z44 := Tryz.sizeOf124
  v44 := Tryz.zeroValue124
  t46 := Tryz.underlying139
  a46 := Tryz.isAgg139
  z46 := Tryz.sizeOf139
  v46 := Tryz.zeroValue139
  t53 := Tryz.underlying338
  a53 := Tryz.isAgg338
  z53 := Tryz.sizeOf338
  v53 := Tryz.zeroValue338
  t57 := Tryz.underlying342
  a57 := Tryz.isAgg342
  z57 := Tryz.sizeOf342
  v57 := Tryz.zeroValue342
  t63 := Tryz.underlying416
  a63 := Tryz.isAgg416
  z63 := Tryz.sizeOf416
  v63 := Tryz.zeroValue416
  t64 := Tryz.underlying299
  a64 := Tryz.isAgg299
  z64 := Tryz.sizeOf299
  v64 := Tryz.zeroValue299 }
end Go.Proofs
