/- What '[]rune(s)' makes. -/
import Derived.Test.YtocjidlbjmghdaaDoorCount
import Derived.Laws.IdiomStrings
namespace Go.Proofs.YtocjidlbjmghdaaDoor
open Go.RowKit Go.Cw

theorem runesFrom_eq (s : ByteArray) : ∀ (f i : Nat) (acc : Array Value), (Conv.runesFrom s f i acc).toList = acc.toList ++ (zs (runesF s f i)).map (Value.int .i32)
  | 0, _, acc => by simp [Conv.runesFrom, runesF, zs]
  | f + 1, i, acc => by
    unfold Conv.runesFrom runesF
    by_cases h : i < s.size
    · rw [if_pos h, if_pos h]
      simp only
      rw [runesFrom_eq s f]
      simp [zs]
    · rw [if_neg h, if_neg h]; simp [zs]
theorem runesFrom_size (s : ByteArray) : (Conv.runesFrom s s.size 0 #[]).size = (runes s).length := by
  have := congrArg List.length (runesFrom_eq s s.size 0 #[])
  rw [← runes_F] at this
  simpa [zs] using this

theorem conv_runes (w : World) (s : ByteArray) (hs : s.size ≤ 100000) :
    ∃ c w', (convert 9 30 (.string s)).run Tryd.prog w = .ok (.slice (some ⟨w.heap.size, 0, none⟩) (runes s).length c) w' ∧ RR w' (some ⟨w.heap.size, 0, none⟩) (zs (runes s)) w.heap.size 0 ∧ Ext none_ w w' := by
  have hn := runes_len s
  have hr := run_runes_of_string (P := Tryd.prog) w 9 30 21 s Tryd.underlying9 Tryd.underlying30 Tryd.underlying21 (by rw [runesFrom_size]; omega)
  rw [runesFrom_size] at hr
  refine ⟨_, _, hr, ⟨fun _ => rfl, fun j r hj => ?_⟩, (Ext.drew w).grow (Ext.alloc _ _)⟩
  have hb := blk_new w.drew (.cells (Conv.runesFrom s s.size 0 #[] ++ Array.replicate (grownCap w (runes s).length 0 21 - (runes s).length) (.int .i32 0)) 21)
  have hjl := (List.getElem?_eq_some_iff.1 hj).1
  rw [zs_len] at hjl
  show (w.drew.alloc _).cell? ⟨w.drew.heap.size, 0 + j, none⟩ = _
  rw [cell_of hb, Nat.zero_add, Array.getElem?_append_left (by rw [runesFrom_size]; exact hjl)]
  have h1 := runesFrom_eq s s.size 0 #[]
  rw [← runes_F] at h1
  have h2 := congrArg (·[j]?) h1
  simp only [List.nil_append, List.getElem?_map, hj, Option.map_some] at h2
  simpa using h2

end Go.Proofs.YtocjidlbjmghdaaDoor
