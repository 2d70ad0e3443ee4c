/- slices.Collect at ints as it lies at this program. -/
import Derived.Shelf.SlLaysZI
import Derived.Test.YtjphmbflggeciaaProg
namespace Go.Proofs.Ytjphmbflggeciaa
open Go.Shelf Go.Proofs

def collect_ren : Ren := ⟨fun | 8 => 22 | 11 => 26 | n => n, fun | 26 => 3 | 28 => 57 | 24 => 54 | 0 => 0 | 33 => 63 | 4 => 4 | n => n, fun n => n⟩
theorem collect_lays : SlLaysZI.n8 Try.prog collect_ren := {
  mixed := by kernel_rfl
  f8 := ⟨Try.f22.name, by decide, Try.func22.trans (congrArg some (by kernel_rfl))⟩
  f11 := ⟨Try.f26.name, by decide, Try.func26.trans (congrArg some (by kernel_rfl))⟩
  t0 := Try.underlying0, a0 := Try.isAgg0, z0 := Try.sizeOf0, v0 := Try.zeroValue0
  t24 := Try.underlying54, a24 := Try.isAgg54, z24 := Try.sizeOf54, v24 := Try.zeroValue54
  t26 := Try.underlying3, a26 := Try.isAgg3, z26 := Try.sizeOf3, v26 := Try.zeroValue3
  t28 := Try.underlying57, a28 := Try.isAgg57, z28 := Try.sizeOf57, v28 := Try.zeroValue57
  i26 := by kernel_rfl }

end Go.Proofs.Ytjphmbflggeciaa
