/- The walk of Fold: strings.Map over fold. -/
import Derived.Test.YtocjidlbjmghdaaDoorQuote
import Derived.Shelf.Strings.MapGrows
namespace Go.Proofs.YtocjidlbjmghdaaDoor
open Go.RowKit Go.Cw

/-- a rune folded -/
def foldR (r : Int) : Int := if (65 ≤ r ∧ r ≤ 90) ∨ (192 ≤ r ∧ r ≤ 222 ∧ r ≠ 215) then r + 32 else r

theorem ret_i32 {a b : Int} (h : a = b) : Ending.returned (.int .i32 a) = Ending.returned (.int .i32 b) := by rw [h]
set_option maxHeartbeats 1000000 in
theorem fold1_any (w : World) (r : Int) : Calls Tryd.prog 61 #[.int .i32 r] w fun e w' => e = .returned (.int .i32 (foldR r)) ∧ w' = w := by
  go_enter Tryd.func61, Tryd.ntmps61
  go_wp2
  all_goals
    go_ret
    refine ⟨ret_i32 ?_, rfl⟩
    unfold foldR
    try simp only [bne_iff_ne, bne_eq_false_iff_eq, ne_eq] at *
    first
      | rw [if_pos (by omega)]
      | rw [if_neg (by omega)]

theorem foldR_range {r : Nat} (h : r ≤ 1114111) : 0 ≤ foldR r ∧ foldR r ≤ 1114111 + 32 := by
  unfold foldR; split <;> omega

/-- the bytes of a text folded -/
def foldP (rs : List Nat) : List UInt8 := text ((zs rs).map foldR)

theorem call61 (args : Array Value) (u : World) : (callFunc 61 args).run Tryd.prog u = .ok (.enter 61 args) u := by kernel_rfl

set_option maxHeartbeats 2000000 in
theorem fold_any (w : World) (s : ByteArray) (hs : s.size ≤ 100000) (hT : Lib.Utf8Tabs 1 2 w) :
    Calls Tryd.prog 25 #[.string s] w fun e w' => e = .returned (.string ⟨(foldP (runes s)).toArray⟩) ∧ Ext none_ w w' := by
  have hf : MapGrows Tryd.prog 61 #[] foldR w := fun W x _ _ => (fold1_any W x).mono fun e w' ⟨h1, h2⟩ => ⟨h1, h2 ▸ Below.refl _ _⟩
  have hm := Any.strings_Map_grows lays230 bx 61 #[] call61 foldR s w (by omega) hf (fun x hx => by have := foldR_range hx; omega) hT
  have hr : Lib.mapD foldR s.data.toList = foldP (runes s) := by
    rw [mapD_text _ _ (Nat.le_refl _) fun r hr => by
      rw [← runes_L] at hr
      exact (foldR_range (runes_valid s r hr).2).1]
    rw [← runes_L]
    unfold foldP zs
    rw [List.map_map]; rfl
  rw [hr] at hm
  have Hr := Lib.hid hr
  clear hr
  go_enter Tryd.func25, Tryd.ntmps25
  go_wp2_with fail
  refine hm.mono ?_
  rintro e w1 ⟨rfl, hb⟩
  go_wp2
  go_ret
  exact ⟨rfl, ext_of_below hb⟩

end Go.Proofs.YtocjidlbjmghdaaDoor
