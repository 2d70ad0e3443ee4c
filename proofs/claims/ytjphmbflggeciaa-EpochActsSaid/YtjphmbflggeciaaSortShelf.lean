/- slices.Sort and slices.Sorted at ints as they lie at this program. -/
import Derived.Shelf.SlLaysZI
import Derived.Shelf.SlIterI.Sorted
import Derived.Shelf.SortM.Plain
import Derived.Shelf.SortM.SortNone
import Derived.Test.YtjphmbflggeciaaIter
namespace Go.Proofs.Ytjphmbflggeciaa
open Go.RowKit Go.Maps Go.Sort Go.Shelf Go.Proofs

def sort_ren : Ren := ⟨fun | 5 => 30 | 7 => 32 | 8 => 33 | 10 => 34 | 11 => 35 | 12 => 36 | 13 => 37 | 14 => 38 | 15 => 39 | 16 => 40 | 17 => 41 | 18 => 42 | 19 => 43 | 20 => 44 | 30 => 45 | 31 => 46 | 32 => 47 | 33 => 48 | 34 => 49 | 35 => 50 | 40 => 51 | n => n, fun | 0 => 0 | 3 => 3 | 4 => 4 | 5 => 5 | 9 => 9 | 22 => 54 | 23 => 54 | 25 => 3 | 32 => 67 | 35 => 69 | 36 => 70 | 41 => 36 | 44 => 76 | 46 => 78 | 53 => 79 | 57 => 83 | 63 => 85 | 64 => 43 | n => n, fun n => n⟩
set_option maxRecDepth 100000 in
theorem sort_lays : SlLaysM.n5 Try.prog sort_ren := {
  mixed := by kernel_rfl
  f5 := ⟨Try.f30.name, by decide, Try.func30.trans (congrArg some (by kernel_rfl))⟩
  f7 := ⟨Try.f32.name, by decide, Try.func32.trans (congrArg some (by kernel_rfl))⟩
  f8 := Try.func33.trans (congrArg some (by kernel_rfl))
  f10 := ⟨Try.f34.name, by decide, Try.func34.trans (congrArg some (by kernel_rfl))⟩
  f11 := ⟨Try.f35.name, by decide, Try.func35.trans (congrArg some (by kernel_rfl))⟩
  f12 := ⟨Try.f36.name, by decide, Try.func36.trans (congrArg some (by kernel_rfl))⟩
  f13 := ⟨Try.f37.name, by decide, Try.func37.trans (congrArg some (by kernel_rfl))⟩
  f14 := ⟨Try.f38.name, by decide, Try.func38.trans (congrArg some (by kernel_rfl))⟩
  f15 := ⟨Try.f39.name, by decide, Try.func39.trans (congrArg some (by kernel_rfl))⟩
  f16 := ⟨Try.f40.name, by decide, Try.func40.trans (congrArg some (by kernel_rfl))⟩
  f17 := ⟨Try.f41.name, by decide, Try.func41.trans (congrArg some (by kernel_rfl))⟩
  f18 := ⟨Try.f42.name, by decide, Try.func42.trans (congrArg some (by kernel_rfl))⟩
  f19 := Try.func43.trans (congrArg some (by kernel_rfl))
  f20 := Try.func44.trans (congrArg some (by kernel_rfl))
  f30 := ⟨Try.f45.name, by decide, Try.func45.trans (congrArg some (by kernel_rfl))⟩
  f31 := Try.func46.trans (congrArg some (by kernel_rfl))
  f32 := Try.func47.trans (congrArg some (by kernel_rfl))
  f33 := ⟨Try.f48.name, by decide, Try.func48.trans (congrArg some (by kernel_rfl))⟩
  f34 := ⟨Try.f49.name, by decide, Try.func49.trans (congrArg some (by kernel_rfl))⟩
  f35 := ⟨Try.f50.name, by decide, Try.func50.trans (congrArg some (by kernel_rfl))⟩
  f40 := ⟨Try.f51.name, by decide, Try.func51.trans (congrArg some (by kernel_rfl))⟩
  t0 := Try.underlying0, a0 := Try.isAgg0, z0 := Try.sizeOf0, v0 := Try.zeroValue0
  t3 := Try.underlying3, a3 := Try.isAgg3, z3 := Try.sizeOf3, v3 := Try.zeroValue3
  t4 := Try.underlying4, a4 := Try.isAgg4, z4 := Try.sizeOf4, v4 := Try.zeroValue4
  t5 := Try.underlying5, a5 := Try.isAgg5, z5 := Try.sizeOf5, v5 := Try.zeroValue5
  t9 := Try.underlying9, a9 := Try.isAgg9, z9 := Try.sizeOf9, v9 := Try.zeroValue9
  t22 := Try.underlying54, a22 := Try.isAgg54, z22 := Try.sizeOf54, v22 := Try.zeroValue54
  t23 := Try.underlying54, a23 := Try.isAgg54, z23 := Try.sizeOf54, v23 := Try.zeroValue54
  t25 := Try.underlying3, a25 := Try.isAgg3, z25 := Try.sizeOf3, v25 := Try.zeroValue3
  t32 := Try.underlying67, a32 := Try.isAgg67, z32 := Try.sizeOf67, v32 := Try.zeroValue67
  t35 := Try.underlying69, a35 := Try.isAgg69, z35 := Try.sizeOf69, v35 := Try.zeroValue69
  t36 := Try.underlying70, a36 := Try.isAgg70, z36 := Try.sizeOf70, v36 := Try.zeroValue70
  t41 := Try.underlying36, a41 := Try.isAgg36, z41 := Try.sizeOf36, v41 := Try.zeroValue36
  t44 := Try.underlying76, a44 := Try.isAgg76, z44 := Try.sizeOf76, v44 := Try.zeroValue76
  t46 := Try.underlying78, a46 := Try.isAgg78, z46 := Try.sizeOf78, v46 := Try.zeroValue78
  t53 := Try.underlying79, a53 := Try.isAgg79, z53 := Try.sizeOf79, v53 := Try.zeroValue79
  t57 := Try.underlying83, a57 := Try.isAgg83, z57 := Try.sizeOf83, v57 := Try.zeroValue83
  t63 := Try.underlying85, a63 := Try.isAgg85, z63 := Try.sizeOf85, v63 := Try.zeroValue85
  t64 := Try.underlying43, a64 := Try.isAgg43, z64 := Try.sizeOf43, v64 := Try.zeroValue43 }
def sorted_ren : Ren := ⟨fun | 6 => 28 | 8 => 22 | 9 => 30 | 11 => 26 | n => n, fun | 26 => 3 | 28 => 57 | 24 => 54 | 0 => 0 | 33 => 63 | 4 => 4 | n => n, fun n => n⟩
theorem sorted_lays : SlLaysZI.n6 Try.prog sorted_ren := {
  mixed := by kernel_rfl
  f6 := ⟨Try.f28.name, by decide, Try.func28.trans (congrArg some (by kernel_rfl))⟩
  f8 := ⟨Try.f22.name, by decide, Try.func22.trans (congrArg some (by kernel_rfl))⟩
  f11 := ⟨Try.f26.name, by decide, Try.func26.trans (congrArg some (by kernel_rfl))⟩
  t0 := Try.underlying0, a0 := Try.isAgg0, z0 := Try.sizeOf0, v0 := Try.zeroValue0
  t24 := Try.underlying54, a24 := Try.isAgg54, z24 := Try.sizeOf54, v24 := Try.zeroValue54
  t26 := Try.underlying3, a26 := Try.isAgg3, z26 := Try.sizeOf3, v26 := Try.zeroValue3
  t28 := Try.underlying57, a28 := Try.isAgg57, z28 := Try.sizeOf57, v28 := Try.zeroValue57
  i26 := by kernel_rfl }

/-- slices.Sort's two contracts -/
theorem sorts_in (m : Nat) : AnyZI.SortsIn Try.prog sorted_ren Fence.wide m :=
  ⟨fun blk off cap ss W hH hblk hsz => callsIn_wide.2 (AnyM.slices_Sort_int sort_lays blk off cap ss W hH hblk hsz),
   fun p cap W => callsIn_wide.2 (AnyM.slices_Sort_int_none sort_lays p cap W)⟩

end Go.Proofs.Ytjphmbflggeciaa
