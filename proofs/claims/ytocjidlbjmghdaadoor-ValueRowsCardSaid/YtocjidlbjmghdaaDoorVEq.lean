/- Struct equality of values, as one test. -/
import Derived.Test.YtocjidlbjmghdaaDoorVApartPlain
namespace Go.Proofs.YtocjidlbjmghdaaDoor
open Go.RowKit Go.Cw

theorem vl_ext2 (a b : Vl) : a = b ↔ a.k = b.k ∧ a.n = b.n ∧ a.s.toList = b.s.toList := by
  obtain ⟨k, n, ⟨⟨s⟩⟩⟩ := a
  obtain ⟨k', n', ⟨⟨s'⟩⟩⟩ := b
  rw [ByteArray.toList_eq, ByteArray.toList_eq]
  simp
noncomputable instance : DecidableEq Vl := fun a b => Classical.propDecidable _
theorem eq49 (w : World) (x y : Vl) : (Op.equalIn 10000 49 x.val y.val).run Tryd.prog w = .ok (decide (x = y)) w := by
  have hd : decide (x = y) = (decide (x.k = y.k) && (decide (x.n = y.n) && decide (x.s.toList = y.s.toList))) := by
    rw [Bool.eq_iff_iff, decide_eq_true_iff, vl_ext2]
    simp
  rw [hd]
  unfold Vl.val
  have h0 : Tryd.prog.fieldsOf 49 = #[{ name := "Kind", type := 3, offset := 0, embedded := false, tag := "", pkgPath := "", byteOffset := 0 }, { name := "N", type := 3, offset := 1, embedded := false, tag := "", pkgPath := "", byteOffset := 8 }, { name := "S", type := 9, offset := 2, embedded := false, tag := "", pkgPath := "", byteOffset := 16 }] := by kernel_rfl
  rw [run_equalIn_agg w 9999 49 _ _ (by rw [h0]; exact Tryd.underlying49) (by kernel_rfl), h0]
  generalize x.k = k1
  generalize x.n = n1
  generalize x.s = s1
  generalize y.k = k2
  generalize y.n = n2
  generalize y.s = s2
  by_cases hk : k1 = k2
  · by_cases hn : n1 = n2
    · by_cases hs : s1.toList = s2.toList
      · simp [go_sem, hk, hn, hs]
      · simp [go_sem, hk, hn, hs]
    · simp [go_sem, hk, hn]
  · simp [go_sem, hk]

end Go.Proofs.YtocjidlbjmghdaaDoor
