/- The walk of the reference's Quote. -/
import Derived.Test.YtocjidlbjmghdaaDoorText
namespace Go.Proofs.YtocjidlbjmghdaaDoor
open Go.RowKit Go.Cw

theorem qflat_take {rs : List Int} {k : Nat} {r : Int} (h : rs[k]? = some r) : (rs.take (k + 1)).flatMap qr = (rs.take k).flatMap qr ++ qr r := by
  obtain ⟨hl, rfl⟩ := List.getElem?_eq_some_iff.1 h
  rw [List.take_succ_eq_append_getElem hl, List.flatMap_append]; simp
theorem toB_bytes (l : List UInt8) : (⟨l.toArray⟩ : ByteArray).data.toList = l := rfl

set_option maxHeartbeats 4000000 in
theorem rquote_any (w : World) (s : ByteArray) (hs : s.size ≤ 100000) :
    Calls Tryd.prog 33 #[.string s] w fun e w' => e = .returned (.string ⟨(quoteP (runes s)).toArray⟩) ∧ Ext none_ w w' := by
  have hlen := runes_len s
  go_enter Tryd.func33, Tryd.ntmps33
  go_wp2_with fail
  refine (runes_any w s hs).mono ?_
  rintro e w1 ⟨v, rfl, hown, hx1⟩
  obtain ⟨a, c, b, rfl, hR⟩ := hown.read
  rw [zs_len]
  generalize hrs : runes s = rs at *
  have Hrs := Lib.hid hrs
  clear hrs hown
  go_wp2_with fail
  go_loopw [4, 5] (fun q i wr => ∃ (k : Nat) (o : ByteArray), k ≤ rs.length ∧ i = .int .i64 k ∧ q = .string o ∧ o.size ≤ 1 + 5 * k ∧ Hid (o.data.toList = 34 :: ((zs rs).take k).flatMap qr) ∧ wr = w1) (fun _ i _ => rs.length - (RowKit.intOf i).toNat)
  case atStart => exact ⟨0, _, Nat.zero_le _, rfl, rfl, by decide, Lib.hid rfl, rfl⟩
  case round =>
    obtain ⟨k, o, hk, rfl, rfl, hos, Ho, e⟩ := hrel
    subst e
    by_cases hlt : k < rs.length
    · obtain ⟨r, hrk⟩ : ∃ x, rs[k]? = some x := ⟨_, List.getElem?_eq_getElem hlt⟩
      have hc := hR.cell k r (zs_get hrk)
      have ha := hR.addr (by rw [zs_len]; omega)
      subst ha
      simp only [Nat.zero_add] at hc
      have Htk := Lib.hid (qflat_take (zs_get hrk))
      clear hrk
      have hend : ∀ o2 : ByteArray, o2.data.toList = o.data.toList ++ qr r → ∃ (k' : Nat) (o' : ByteArray), k' ≤ rs.length ∧ (Value.int .i64 ((k : Int) + 1)) = .int .i64 k' ∧ Value.string o2 = .string o' ∧ o'.size ≤ 1 + 5 * k' ∧ Hid (o'.data.toList = 34 :: ((zs rs).take k').flatMap qr) ∧ True := by
        intro o2 h2
        refine ⟨k + 1, o2, by omega, by simp, rfl, ?_, Lib.hid ?_, trivial⟩
        · have h3 := congrArg List.length h2
          rw [show o2.data.toList.length = o2.size from Array.length_toList, List.length_append, show o.data.toList.length = o.size from Array.length_toList] at h3
          have := qr_len r
          omega
        · rw [h2, Ho.out, Htk.out]; rfl
      have hse := enc_size r
      have h1 : ∀ (a b : ByteArray), (a ++ b).data.toList = a.data.toList ++ b.data.toList := fun a b => by rw [ByteArray.data_append, Array.toList_append]
      by_cases h34 : r = 34 ∨ r = 92
      · have hq : qr (r : Int) = 92 :: Lib.encodeRune r := by unfold qr; rw [if_pos (by omega)]
        have hfin := hend (o ++ ⟨#[92]⟩ ++ Utf8.encode r) (by rw [h1, h1, hq, enc_eq, List.append_assoc]; rfl)
        have hd3 : ((r : Int) == 10) = false := by simp; omega
        clear hq hend h1
        rcases h34 with h34 | h34
        · have hd : ((r : Int) == 34) = true := by simp [h34]
          clear h34
          go_wp2
          exact ⟨hfin, by simp [RowKit.intOf]; omega⟩
        · have hd : ((r : Int) == 34) = false := by simp; omega
          have hd2 : ((r : Int) == 92) = true := by simp [h34]
          clear h34
          go_wp2
          exact ⟨hfin, by simp [RowKit.intOf]; omega⟩
      · have hd : ((r : Int) == 34) = false := by simp; omega
        have hd2 : ((r : Int) == 92) = false := by simp; omega
        by_cases h10 : r = 10
        · have hd3 : ((r : Int) == 10) = true := by simp [h10]
          have hq : qr (r : Int) = [92, 110] := by unfold qr; rw [if_neg (by omega), if_pos (by omega)]
          have hfin := hend (o ++ ⟨#[92, 110]⟩) (by rw [h1, hq])
          clear hq hend h1 h34 h10
          go_wp2
          exact ⟨hfin, by simp [RowKit.intOf]; omega⟩
        · have hd3 : ((r : Int) == 10) = false := by simp; omega
          have hq : qr (r : Int) = Lib.encodeRune r := by unfold qr; rw [if_neg (by omega), if_neg (by omega)]
          have hfin := hend (o ++ Utf8.encode r) (by rw [h1, hq, enc_eq])
          clear hq hend h1 h34 h10
          go_wp2
          exact ⟨hfin, by simp [RowKit.intOf]; omega⟩
    · have hkn : k = rs.length := by omega
      subst hkn
      rw [List.take_of_length_le (by rw [zs_len]; exact Nat.le_refl _)] at Ho
      have He : Hid (o ++ ⟨#[34]⟩ = ⟨(quoteP rs).toArray⟩) := Lib.hid (by
        apply ByteArray.ext
        apply Array.toList_inj.1
        rw [ByteArray.data_append, Array.toList_append, Ho.out]; rfl)
      go_wp2
      go_ret
      exact ⟨ret_str (by rw [Hrs.out]; exact He.out), hx1⟩

end Go.Proofs.YtocjidlbjmghdaaDoor
