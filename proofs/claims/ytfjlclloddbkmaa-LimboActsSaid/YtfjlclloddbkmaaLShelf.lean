/- slices.Sort, Sorted and Compact at ints as they lie at this program. -/
import Derived.Shelf.SlLaysZI
import Derived.Shelf.SlIterI.Sorted
import Derived.Shelf.SortM.Plain
import Derived.Shelf.SortM.SortNone
import Derived.Shelf.Slices.CompactI
import Derived.Test.YtfjlclloddbkmaaProg
namespace Go.Proofs.Ytfjlclloddbkmaa
open Go.RowKit Go.Maps Go.Sort Go.Shelf Go.Proofs

def sort_ren : Ren := ⟨fun | 5 => 32 | 7 => 35 | 8 => 36 | 10 => 37 | 11 => 38 | 12 => 39 | 13 => 40 | 14 => 41 | 15 => 42 | 16 => 43 | 17 => 44 | 18 => 45 | 19 => 46 | 20 => 47 | 30 => 48 | 31 => 49 | 32 => 50 | 33 => 51 | 34 => 52 | 35 => 53 | 40 => 54 | n => n, fun | 0 => 0 | 3 => 3 | 4 => 4 | 5 => 5 | 9 => 9 | 22 => 23 | 23 => 23 | 25 => 3 | 32 => 70 | 35 => 72 | 36 => 73 | 41 => 31 | 44 => 80 | 46 => 82 | 53 => 83 | 57 => 87 | 63 => 89 | 64 => 90 | n => n, fun n => n⟩
set_option maxRecDepth 100000 in
theorem sort_lays : SlLaysM.n5 Try.prog sort_ren := {
  mixed := by kernel_rfl
  f5 := ⟨Try.f32.name, by decide, Try.func32.trans (congrArg some (by kernel_rfl))⟩
  f7 := ⟨Try.f35.name, by decide, Try.func35.trans (congrArg some (by kernel_rfl))⟩
  f8 := Try.func36.trans (congrArg some (by kernel_rfl))
  f10 := ⟨Try.f37.name, by decide, Try.func37.trans (congrArg some (by kernel_rfl))⟩
  f11 := ⟨Try.f38.name, by decide, Try.func38.trans (congrArg some (by kernel_rfl))⟩
  f12 := ⟨Try.f39.name, by decide, Try.func39.trans (congrArg some (by kernel_rfl))⟩
  f13 := ⟨Try.f40.name, by decide, Try.func40.trans (congrArg some (by kernel_rfl))⟩
  f14 := ⟨Try.f41.name, by decide, Try.func41.trans (congrArg some (by kernel_rfl))⟩
  f15 := ⟨Try.f42.name, by decide, Try.func42.trans (congrArg some (by kernel_rfl))⟩
  f16 := ⟨Try.f43.name, by decide, Try.func43.trans (congrArg some (by kernel_rfl))⟩
  f17 := ⟨Try.f44.name, by decide, Try.func44.trans (congrArg some (by kernel_rfl))⟩
  f18 := ⟨Try.f45.name, by decide, Try.func45.trans (congrArg some (by kernel_rfl))⟩
  f19 := Try.func46.trans (congrArg some (by kernel_rfl))
  f20 := Try.func47.trans (congrArg some (by kernel_rfl))
  f30 := ⟨Try.f48.name, by decide, Try.func48.trans (congrArg some (by kernel_rfl))⟩
  f31 := Try.func49.trans (congrArg some (by kernel_rfl))
  f32 := Try.func50.trans (congrArg some (by kernel_rfl))
  f33 := ⟨Try.f51.name, by decide, Try.func51.trans (congrArg some (by kernel_rfl))⟩
  f34 := ⟨Try.f52.name, by decide, Try.func52.trans (congrArg some (by kernel_rfl))⟩
  f35 := ⟨Try.f53.name, by decide, Try.func53.trans (congrArg some (by kernel_rfl))⟩
  f40 := ⟨Try.f54.name, by decide, Try.func54.trans (congrArg some (by kernel_rfl))⟩
  t0 := Try.underlying0, a0 := Try.isAgg0, z0 := Try.sizeOf0, v0 := Try.zeroValue0
  t3 := Try.underlying3, a3 := Try.isAgg3, z3 := Try.sizeOf3, v3 := Try.zeroValue3
  t4 := Try.underlying4, a4 := Try.isAgg4, z4 := Try.sizeOf4, v4 := Try.zeroValue4
  t5 := Try.underlying5, a5 := Try.isAgg5, z5 := Try.sizeOf5, v5 := Try.zeroValue5
  t9 := Try.underlying9, a9 := Try.isAgg9, z9 := Try.sizeOf9, v9 := Try.zeroValue9
  t22 := Try.underlying23, a22 := Try.isAgg23, z22 := Try.sizeOf23, v22 := Try.zeroValue23
  t23 := Try.underlying23, a23 := Try.isAgg23, z23 := Try.sizeOf23, v23 := Try.zeroValue23
  t25 := Try.underlying3, a25 := Try.isAgg3, z25 := Try.sizeOf3, v25 := Try.zeroValue3
  t32 := Try.underlying70, a32 := Try.isAgg70, z32 := Try.sizeOf70, v32 := Try.zeroValue70
  t35 := Try.underlying72, a35 := Try.isAgg72, z35 := Try.sizeOf72, v35 := Try.zeroValue72
  t36 := Try.underlying73, a36 := Try.isAgg73, z36 := Try.sizeOf73, v36 := Try.zeroValue73
  t41 := Try.underlying31, a41 := Try.isAgg31, z41 := Try.sizeOf31, v41 := Try.zeroValue31
  t44 := Try.underlying80, a44 := Try.isAgg80, z44 := Try.sizeOf80, v44 := Try.zeroValue80
  t46 := Try.underlying82, a46 := Try.isAgg82, z46 := Try.sizeOf82, v46 := Try.zeroValue82
  t53 := Try.underlying83, a53 := Try.isAgg83, z53 := Try.sizeOf83, v53 := Try.zeroValue83
  t57 := Try.underlying87, a57 := Try.isAgg87, z57 := Try.sizeOf87, v57 := Try.zeroValue87
  t63 := Try.underlying89, a63 := Try.isAgg89, z63 := Try.sizeOf89, v63 := Try.zeroValue89
  t64 := Try.underlying90, a64 := Try.isAgg90, z64 := Try.sizeOf90, v64 := Try.zeroValue90 }
def sorted_ren : Ren := ⟨fun | 6 => 28 | 8 => 31 | 9 => 32 | 11 => 34 | n => n, fun | 26 => 3 | 28 => 62 | 24 => 23 | 0 => 0 | 33 => 66 | 4 => 4 | n => n, fun n => n⟩
theorem sorted_lays : SlLaysZI.n6 Try.prog sorted_ren := {
  mixed := by kernel_rfl
  f6 := ⟨Try.f28.name, by decide, Try.func28.trans (congrArg some (by kernel_rfl))⟩
  f8 := ⟨Try.f31.name, by decide, Try.func31.trans (congrArg some (by kernel_rfl))⟩
  f11 := ⟨Try.f34.name, by decide, Try.func34.trans (congrArg some (by kernel_rfl))⟩
  t0 := Try.underlying0, a0 := Try.isAgg0, z0 := Try.sizeOf0, v0 := Try.zeroValue0
  t24 := Try.underlying23, a24 := Try.isAgg23, z24 := Try.sizeOf23, v24 := Try.zeroValue23
  t26 := Try.underlying3, a26 := Try.isAgg3, z26 := Try.sizeOf3, v26 := Try.zeroValue3
  t28 := Try.underlying62, a28 := Try.isAgg62, z28 := Try.sizeOf62, v28 := Try.zeroValue62
  i26 := by kernel_rfl }

/-- slices.Sort's two contracts -/
theorem sorts_in (m : Nat) : AnyZI.SortsIn Try.prog sorted_ren Fence.wide m :=
  ⟨fun blk off cap ss W hH hblk hsz => callsIn_wide.2 (AnyM.slices_Sort_int sort_lays blk off cap ss W hH hblk hsz),
   fun p cap W => callsIn_wide.2 (AnyM.slices_Sort_int_none sort_lays p cap W)⟩

def comp_ren : Ren := ⟨fun | 20 => 27 | n => n, fun | 22 => 23 | n => n, fun n => n⟩
theorem comp_lays : Lays2.n20 Try.prog comp_ren := {
  mixed := by kernel_rfl
  f20 := Try.func27.trans (congrArg some (by kernel_rfl))
  t0 := Try.underlying0, a0 := Try.isAgg0, z0 := Try.sizeOf0, v0 := Try.zeroValue0
  t3 := Try.underlying3, a3 := Try.isAgg3, z3 := Try.sizeOf3, v3 := Try.zeroValue3
  t4 := Try.underlying4, a4 := Try.isAgg4, z4 := Try.sizeOf4, v4 := Try.zeroValue4
  t22 := Try.underlying23, a22 := Try.isAgg23, z22 := Try.sizeOf23, v22 := Try.zeroValue23
  i3 := by kernel_rfl }

end Go.Proofs.Ytfjlclloddbkmaa
