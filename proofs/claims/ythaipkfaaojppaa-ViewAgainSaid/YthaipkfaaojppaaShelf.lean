/-
  DERIVED: THE SHELF's CONTRACTS AT THIS DUMP, IN PLAIN WORDS (tools/lay-plain.mjs out of 'YthaipkfaaojppaaShelf.lean', which tools/lay-shelf.mjs wrote): THE SAME DECLARATIONS UNDER THE SAME NAMES: 'import', 'namespace', 'open', 'def', 'theorem' AND NOTHING ELSE: no command of the shelf's: FOR A HAND-IN. Each laying: the table of numbers ('.._ren') and one theorem, a field a fact of the dump's own or the kernel's comparison; each contract: ONE APPLICATION.
-/
import Derived.Shelf.SlIterI.Nil
import Derived.Shelf.SortM.Plain
import Derived.Shelf.SortM.SortNone
import Derived.Ground.GgzProg
import Derived.Ground.SlgmProg
import Derived.Shelf.SlGeneric
import Derived.Test.YthaipkfaaojppaaProg
namespace Go.Proofs
open Go.Shelf
def Try.keysA_ren : Go.Shelf.Ren := ⟨fun | 7 => 30 | 10 => 34 | n => n, fun | 23 => 53 | 26 => 3 | 3 => 44 | 28 => 64 | 0 => 0 | 27 => 63 | 33 => 68 | 4 => 4 | n => n, fun | n => n⟩
theorem Try.keysA : Go.Proofs.SlLaysZI.n7 Try.prog Try.keysA_ren := {
  mixed := by kernel_rfl
  f7 := ⟨Try.f30.name, by decide, Try.func30.trans (congrArg some (by kernel_rfl))⟩
  f10 := ⟨Try.f34.name, by decide, Try.func34.trans (congrArg some (by kernel_rfl))⟩
  t0 := Try.underlying0
  a0 := Try.isAgg0
  z0 := Try.sizeOf0
  v0 := Try.zeroValue0
  t4 := Try.underlying4
  a4 := Try.isAgg4
  z4 := Try.sizeOf4
  v4 := Try.zeroValue4
  t23 := Try.underlying53
  a23 := Try.isAgg53
  z23 := Try.sizeOf53
  v23 := Try.zeroValue53
  t26 := Try.underlying3
  a26 := Try.isAgg3
  z26 := Try.sizeOf3
  v26 := Try.zeroValue3
  t27 := Try.underlying63
  a27 := Try.isAgg63
  z27 := Try.sizeOf63
  v27 := Try.zeroValue63
  t28 := Try.underlying64
  a28 := Try.isAgg64
  z28 := Try.sizeOf64
  v28 := Try.zeroValue64
  t33 := Try.underlying68
  a33 := Try.isAgg68
  z33 := Try.sizeOf68
  v33 := Try.zeroValue68 }
def Try.sortedA_ren : Go.Shelf.Ren := ⟨fun | 6 => 29 | 8 => 32 | 9 => 33 | 11 => 35 | 13 => 37 | 12 => 36 | 23 => 47 | 24 => 48 | 14 => 38 | 15 => 39 | 16 => 40 | 17 => 41 | 18 => 42 | 19 => 43 | 20 => 44 | 21 => 45 | 22 => 46 | 25 => 49 | 26 => 50 | 27 => 51 | 28 => 52 | 29 => 53 | 30 => 54 | 31 => 55 | n => n, fun | 26 => 3 | 28 => 64 | 24 => 61 | 0 => 0 | 3 => 3 | 37 => 72 | 48 => 82 | 50 => 84 | 4 => 4 | 40 => 75 | 39 => 74 | 45 => 34 | 5 => 5 | 9 => 9 | 51 => 85 | 55 => 89 | 57 => 91 | 58 => 92 | 33 => 68 | n => n, fun | n => n⟩
theorem Try.sortedA : Go.Proofs.SlLaysZI.n6 Try.prog Try.sortedA_ren := {
  mixed := by kernel_rfl
  f6 := ⟨Try.f29.name, by decide, Try.func29.trans (congrArg some (by kernel_rfl))⟩
  f8 := ⟨Try.f32.name, by decide, Try.func32.trans (congrArg some (by kernel_rfl))⟩
  f11 := ⟨Try.f35.name, by decide, Try.func35.trans (congrArg some (by kernel_rfl))⟩
  t0 := Try.underlying0
  a0 := Try.isAgg0
  z0 := Try.sizeOf0
  v0 := Try.zeroValue0
  t24 := Try.underlying61
  a24 := Try.isAgg61
  z24 := Try.sizeOf61
  v24 := Try.zeroValue61
  t26 := Try.underlying3
  a26 := Try.isAgg3
  z26 := Try.sizeOf3
  v26 := Try.zeroValue3
  t28 := Try.underlying64
  a28 := Try.isAgg64
  z28 := Try.sizeOf64
  v28 := Try.zeroValue64
  i26 := by kernel_rfl }
def Try.sortA_ren : Go.Shelf.Ren := ⟨fun | 5 => 33 | 8 => 37 | 7 => 36 | 19 => 47 | 20 => 48 | 10 => 38 | 11 => 39 | 12 => 40 | 13 => 41 | 14 => 42 | 15 => 43 | 16 => 44 | 17 => 45 | 18 => 46 | 30 => 49 | 31 => 50 | 32 => 51 | 33 => 52 | 34 => 53 | 35 => 54 | 40 => 55 | n => n, fun | 23 => 61 | 25 => 3 | 3 => 3 | 32 => 72 | 22 => 61 | 0 => 0 | 44 => 82 | 46 => 84 | 4 => 4 | 36 => 75 | 35 => 74 | 41 => 34 | 5 => 5 | 9 => 9 | 53 => 85 | 57 => 89 | 63 => 91 | 64 => 92 | n => n, fun | n => n⟩
theorem Try.sortA : Go.Proofs.SlLaysM.n5 Try.prog Try.sortA_ren := {
  mixed := by kernel_rfl
  f5 := ⟨Try.f33.name, by decide, Try.func33.trans (congrArg some (by kernel_rfl))⟩
  f7 := ⟨Try.f36.name, by decide, Try.func36.trans (congrArg some (by kernel_rfl))⟩
  f8 := Try.func37.trans (congrArg some (by kernel_rfl))
  f10 := ⟨Try.f38.name, by decide, Try.func38.trans (congrArg some (by kernel_rfl))⟩
  f11 := ⟨Try.f39.name, by decide, Try.func39.trans (congrArg some (by kernel_rfl))⟩
  f12 := ⟨Try.f40.name, by decide, Try.func40.trans (congrArg some (by kernel_rfl))⟩
  f13 := ⟨Try.f41.name, by decide, Try.func41.trans (congrArg some (by kernel_rfl))⟩
  f14 := ⟨Try.f42.name, by decide, Try.func42.trans (congrArg some (by kernel_rfl))⟩
  f15 := ⟨Try.f43.name, by decide, Try.func43.trans (congrArg some (by kernel_rfl))⟩
  f16 := ⟨Try.f44.name, by decide, Try.func44.trans (congrArg some (by kernel_rfl))⟩
  f17 := ⟨Try.f45.name, by decide, Try.func45.trans (congrArg some (by kernel_rfl))⟩
  f18 := ⟨Try.f46.name, by decide, Try.func46.trans (congrArg some (by kernel_rfl))⟩
  f19 := Try.func47.trans (congrArg some (by kernel_rfl))
  f20 := Try.func48.trans (congrArg some (by kernel_rfl))
  f30 := ⟨Try.f49.name, by decide, Try.func49.trans (congrArg some (by kernel_rfl))⟩
  f31 := Try.func50.trans (congrArg some (by kernel_rfl))
  f32 := Try.func51.trans (congrArg some (by kernel_rfl))
  f33 := ⟨Try.f52.name, by decide, Try.func52.trans (congrArg some (by kernel_rfl))⟩
  f34 := ⟨Try.f53.name, by decide, Try.func53.trans (congrArg some (by kernel_rfl))⟩
  f35 := ⟨Try.f54.name, by decide, Try.func54.trans (congrArg some (by kernel_rfl))⟩
  f40 := ⟨Try.f55.name, by decide, Try.func55.trans (congrArg some (by kernel_rfl))⟩
  t0 := Try.underlying0
  a0 := Try.isAgg0
  z0 := Try.sizeOf0
  v0 := Try.zeroValue0
  t3 := Try.underlying3
  a3 := Try.isAgg3
  z3 := Try.sizeOf3
  v3 := Try.zeroValue3
  t4 := Try.underlying4
  a4 := Try.isAgg4
  z4 := Try.sizeOf4
  v4 := Try.zeroValue4
  t5 := Try.underlying5
  a5 := Try.isAgg5
  z5 := Try.sizeOf5
  v5 := Try.zeroValue5
  t9 := Try.underlying9
  a9 := Try.isAgg9
  z9 := Try.sizeOf9
  v9 := Try.zeroValue9
  t22 := Try.underlying61
  a22 := Try.isAgg61
  z22 := Try.sizeOf61
  v22 := Try.zeroValue61
  t23 := Try.underlying61
  a23 := Try.isAgg61
  z23 := Try.sizeOf61
  v23 := Try.zeroValue61
  t25 := Try.underlying3
  a25 := Try.isAgg3
  z25 := Try.sizeOf3
  v25 := Try.zeroValue3
  t32 := Try.underlying72
  a32 := Try.isAgg72
  z32 := Try.sizeOf72
  v32 := Try.zeroValue72
  t35 := Try.underlying74
  a35 := Try.isAgg74
  z35 := Try.sizeOf74
  v35 := Try.zeroValue74
  t36 := Try.underlying75
  a36 := Try.isAgg75
  z36 := Try.sizeOf75
  v36 := Try.zeroValue75
  t41 := Try.underlying34
  a41 := Try.isAgg34
  z41 := Try.sizeOf34
  v41 := Try.zeroValue34
  t44 := Try.underlying82
  a44 := Try.isAgg82
  z44 := Try.sizeOf82
  v44 := Try.zeroValue82
  t46 := Try.underlying84
  a46 := Try.isAgg84
  z46 := Try.sizeOf84
  v46 := Try.zeroValue84
  t53 := Try.underlying85
  a53 := Try.isAgg85
  z53 := Try.sizeOf85
  v53 := Try.zeroValue85
  t57 := Try.underlying89
  a57 := Try.isAgg89
  z57 := Try.sizeOf89
  v57 := Try.zeroValue89
  t63 := Try.underlying91
  a63 := Try.isAgg91
  z63 := Try.sizeOf91
  v63 := Try.zeroValue91
  t64 := Try.underlying92
  a64 := Try.isAgg92
  z64 := Try.sizeOf92
  v64 := Try.zeroValue92 }
end Go.Proofs
