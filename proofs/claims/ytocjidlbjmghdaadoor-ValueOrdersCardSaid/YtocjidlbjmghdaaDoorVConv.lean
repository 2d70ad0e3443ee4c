/- What 'string(rs)' of runes makes. -/
import Derived.Test.YtocjidlbjmghdaaDoorVRound
import Derived.Test.YtocjidlbjmghdaaDoorText
import Derived.Laws.Cover4
namespace Go.Proofs.YtocjidlbjmghdaaDoor
open Go.RowKit Go.Cw

theorem fold_text : ∀ (rs : List Int) (l : List UInt8), rs.foldl (fun r n => r ++ Utf8.encode n) (⟨l.toArray⟩ : ByteArray) = ⟨(l ++ text rs).toArray⟩
  | [], l => by rw [text_nil, List.append_nil]; rfl
  | r :: rs, l => by
    rw [List.foldl_cons, app_enc, fold_text rs, text_cons, List.append_assoc]
theorem runesBytes_text (rs : List Int) : runesBytes rs = tB rs := by
  have := fold_text rs []
  rw [List.nil_append] at this
  exact this
theorem conv_text (w : World) (a : Option Addr) (rs : List Int) (b off c : Nat) (h : RR w a rs b off) : (convert 30 9 (.slice a rs.length c)).run Tryd.prog w = .ok (.string (tB rs)) w := by
  cases rs with
  | nil =>
    cases a with
    | none => exact run_convert_runes_nil w 30 9 21 0 c Tryd.underlying30 Tryd.underlying21 Tryd.underlying9
    | some a =>
      have := run_convert_runes (P := Tryd.prog) w 30 9 21 a 0 c [] (Nat.le_refl _) Tryd.underlying30 Tryd.underlying21 Tryd.underlying9 (fun j hj => by simp at hj)
      rw [List.take_nil, runesBytes_text] at this
      exact this
  | cons r rs =>
    obtain rfl := h.addr (by simp)
    have := run_convert_runes (P := Tryd.prog) w 30 9 21 ⟨b, off, none⟩ (r :: rs).length c (r :: rs) (Nat.le_refl _) Tryd.underlying30 Tryd.underlying21 Tryd.underlying9 (fun j hj => by
      have := h.cell j _ (List.getElem?_eq_getElem hj)
      rw [show (⟨b, off, none⟩ : Addr).add j = ⟨b, off + j, none⟩ by cases j <;> simp [Addr.add], this]
      simp [List.getD, List.getElem?_eq_getElem hj])
    rw [List.take_of_length_le (Nat.le_refl _), runesBytes_text] at this
    exact this

theorem elem51 : Tryd.prog.elem 51 = 5 := by kernel_rfl
theorem und51 : Tryd.prog.underlying 51 = some (.slice (Tryd.prog.elem 51)) := by kernel_rfl
/-- a row of bytes' head, made a text -/
theorem head_text (w : World) (a : Option Addr) (bs : List UInt8) (b off c K : Nat) (h : UR w a bs b off) (hc : bs.length ≤ c) (hK : K ≤ bs.length) :
    ∃ v, (∀ w, (Instr.slice 51 (.slice a bs.length c) none (some (.int .i64 (K : Int))) none).run Tryd.prog w = .ok v w) ∧ ∀ w', Ext none_ w w' → (convert 51 9 v).run Tryd.prog w' = .ok (.string ⟨(bs.take K).toArray⟩) w' := by
  refine ⟨.slice (if c = 0 then a else a.map (·.add (0 * 1))) K (c - 0), fun w => ?_, fun w' hx => ?_⟩
  · rw [run_slice_h w 51 a bs.length c und51 .i64 K (by omega) (by omega), elem51, Tryd.sizeOf5]
    rfl
  · have hl : (bs.take K).length = K := by rw [List.length_take]; omega
    have hU : UR w' (if c = 0 then a else a.map (·.add (0 * 1))) (bs.take K) b off := by
      refine ⟨fun hp => ?_, fun j x hj => ?_⟩
      · rw [hl] at hp
        obtain rfl := h.addr (by omega)
        rw [if_neg (by omega)]
        simp [Addr.add]
      · rw [List.getElem?_take] at hj
        split at hj
        · exact cell_ext0 hx (h.cell j x hj)
        · cases hj
    have := conv_bytes w' _ (bs.take K) b off (c - 0) hU
    rw [hl] at this
    exact this

end Go.Proofs.YtocjidlbjmghdaaDoor
