/- The walk of LimboActs. -/
import Derived.Test.YtfjlclloddbkmaaLActsA
namespace Go.Proofs.Ytfjlclloddbkmaa
open Go.RowKit Go.Cw

set_option maxHeartbeats 8000000 in
set_option maxRecDepth 100000 in
theorem acts_any (w : World) (a : Option Addr) (xs : List A) (b off c : Nat) (hA : AR w a xs b off) (hn : xs.length ≤ 80) :
    Calls Try.prog 5 #[.slice a xs.length c] w fun e w' => e = .returned (.bool true) ∧ Ext none_ w w' := by
  go_enter Try.func5, Try.ntmps5
  go_wp2_with fail
  refine (awake_any w).mono ?_
  rintro e w1 ⟨rfl, hx1⟩
  have hn' : decide ((80 : Int) < (xs.length : Int)) = false := by simp; omega
  go_wp2_with fail
  clear hn'
  refine (new_any w1 w.heap.size hx1.size).mono ?_
  rintro e w2 ⟨g, mb, rfl, hL2, hx2, hg, hmb⟩
  have hx2' := hx1.grow hx2
  clear hx1 hx2 hg hmb
  go_wp2_with fail
  have hx3 := hx2'.grow (Ext.alloc w2 (.cells #[.slice none 0 0] 44))
  have hL3 := hL2.ext0 (Ext.alloc w2 (.cells #[.slice none 0 0] 44))
  have hR3 : RefIs (w2.alloc (.cells #[.slice none 0 0] 44)) w.heap.size w2.heap.size (.slice none 0 0) [] := ⟨blk_new w2 _, GOwn.nil _ _ _ _ _, hx2'.size⟩
  generalize w2.alloc (.cells #[.slice none 0 0] 44) = w3 at *
  generalize w2.heap.size = f at *
  clear hL2 hx2'
  go_loopw [5] (fun i wr => ∃ (k : Nat) (rv : Value) (row : List K) (M : List (K × Int)) (sv : Value) (L : List (K × Int)), k ≤ xs.length ∧ i = .int .i64 k ∧ LimboIs wr w.heap.size g mb rv row M ∧ RefIs wr w.heap.size f sv L ∧ Ext none_ w wr ∧ Hid (Sm row M L) ∧ row.length ≤ 10 * k) (fun i _ => xs.length - (intOf i).toNat)
  case atStart => exact ⟨0, _, _, _, _, _, Nat.zero_le _, rfl, hL3, hR3, hx3, Lib.hid Sm.nil, by simp⟩
  case round =>
    obtain ⟨k, rv, row, M, sv, L, hk, rfl, hLr, hRr, hx, Hsm, hlen⟩ := hrel
    clear hL3 hR3 hx3
    by_cases hlt : k < xs.length
    · obtain ⟨act, hak⟩ : ∃ x, xs[k]? = some x := ⟨_, List.getElem?_eq_getElem hlt⟩
      obtain ⟨c0, c1, c2⟩ := (hA.ext0 hx).cell k act hak
      have hkr0 := hA.keys act (List.mem_of_getElem? hak)
      have ha := hA.addr (by omega)
      subst ha
      by_cases hks : 10 < act.ks.length
      · have hd : decide ((10 : Int) < (act.ks.length : Int)) = true := by simp; omega
        go_wp2
        go_ret
        exact ⟨rfl, hx.grow (Ext.alloc _ _)⟩
      · have hd : decide ((10 : Int) < (act.ks.length : Int)) = false := by simp; omega
        go_upto_block 2 with fail
        have hx4 := hx.grow (Ext.alloc wr (.cells #[.int .i64 act.kind, .int .i64 act.n, .slice act.a act.ks.length act.c] 38))
        have hL4 := hLr.ext0 (Ext.alloc wr (.cells #[.int .i64 act.kind, .int .i64 act.n, .slice act.a act.ks.length act.c] 38))
        have hR4 := hRr.ext0 (Ext.alloc wr (.cells #[.int .i64 act.kind, .int .i64 act.n, .slice act.a act.ks.length act.c] 38))
        have hab := blk_new wr (.cells #[.int .i64 act.kind, .int .i64 act.n, .slice act.a act.ks.length act.c] 38)
        generalize wr.alloc (.cells #[.int .i64 act.kind, .int .i64 act.n, .slice act.a act.ks.length act.c] 38) = w4 at *
        generalize wr.heap.size = ab at *
        have Hkr := Lib.hid hkr0
        clear hLr hRr hx c0 c1 c2 hd hkr0
        go_cut [7, 8, 9] from 44 to 103 (fun _ _ _ wx => ∃ (rv : Value) (row : List K) (M : List (K × Int)) (sv : Value) (L : List (K × Int)), LimboIs wx w.heap.size g mb rv row M ∧ RefIs wx w.heap.size f sv L ∧ Ext none_ w wx ∧ Hid (Sm row M L) ∧ row.length ≤ 10 * k + 10 ∧ wx.heap[ab]? = some (.cells #[.int .i64 act.kind, .int .i64 act.n, .slice act.a act.ks.length act.c] 38 (0, 0)))
        case first =>
          by_cases hk0 : act.kind = 0
          · have hb0 : (act.kind == 0) = true := by simp [hk0]
            clear hk0
            obtain ⟨c0, c1, c2⟩ := cells3 hab
            go_wp2_with fail
            refine (retire_any w4 w.heap.size g mb rv row M act.n act.a act.c act.ks act.b act.off hL4 (Hkr.out.ext0 hx4) (fun h0 hf => ?_) hx4.size (by omega)).mono ?_
            · have := Hkr.out.lt h0
              rcases hf with e | e | hf
              · have := hL4.gb; omega
              · have := hL4.mb; omega
              · have := (hL4.own.lt _ hf).1; omega
            rintro en w5 ⟨rv5, rfl, hL5, hx5, _⟩
            have hab5 := hL4.keep hx5 hab (by decide) (by decide)
            have hR5 := hR4.over hL4 hx5
            have hx5' := hL4.since hx4 hx5
            have hll := Hsm.out.len
            have hlr : ∀ j, (rrets act.n L (act.ks.take j)).length ≤ 900 := fun j => by
              have h1 := (Hsm.out.rets act.n (act.ks.take j)).len
              have h2 := rets_len act.n (row, M) (act.ks.take j)
              have h3 := List.length_take_le' j act.ks
              simp only at h2
              omega
            have Hlr := Lib.hid hlr
            have hlf : (rets act.n (row, M) act.ks).1.length ≤ 10 * k + 10 := by
              have := rets_len act.n (row, M) act.ks
              simp only at this
              omega
            clear c0 c1 c2 hb0 hlr hL4 hR4 hx4 hx5 hab
            go_wp2_with fail
            go_loopw [8] (fun i wx => ∃ (j : Nat) (sv' : Value), j ≤ act.ks.length ∧ i = .int .i64 j ∧ LimboIs wx w.heap.size g mb rv5 (rets act.n (row, M) act.ks).1 (rets act.n (row, M) act.ks).2 ∧ RefIs wx w.heap.size f sv' (rrets act.n L (act.ks.take j)) ∧ Ext none_ w wx ∧ wx.heap[ab]? = some (.cells #[.int .i64 act.kind, .int .i64 act.n, .slice act.a act.ks.length act.c] 38 (0, 0))) (fun i _ => act.ks.length - (intOf i).toNat)
            case atStart => exact ⟨0, sv, Nat.zero_le _, rfl, hL5, hR5, hx5', hab5⟩
            case round =>
              obtain ⟨j, sv', hj, rfl, hL6, hR6, hx6, hab6⟩ := hrel
              clear hL5 hR5 hx5' hab5
              obtain ⟨c0, c1, c2⟩ := cells3 hab6
              by_cases hjl : j < act.ks.length
              · obtain ⟨x, hxj⟩ : ∃ x, act.ks[j]? = some x := ⟨_, List.getElem?_eq_getElem hjl⟩
                have hstep := rrets_succ act.n L hxj
                have Hst := Lib.hid hstep
                have Hnd := Lib.hid (Hsm.out.rets act.n (act.ks.take j)).nd
                have hlj := Hlr.out j
                go_wp2_with fail
                clear c0 c1 c2
                have hx7 := hx6.grow (Ext.drew wr)
                have hL7 := hL6.ext0 (Ext.drew wr)
                have hR7 := hR6.ext0 (Ext.drew wr)
                have hab7 := (Ext.drew wr).blk0 hab6
                obtain ⟨d0, d1, d2, d3⟩ := (Hkr.out.ext0 hx7).cell j x hxj
                have hka := Hkr.out.addr (by omega)
                clear hxj hstep hL6 hR6 hx6 hab6
                refine wp_region_hoist (Still wr.drew) 8 [0, 1, 2, 3, 4, 5, 6, 7] [8] mixed (by kernel_rfl) rfl ?_
                simp only [List.filterMap_cons, List.filterMap_nil, List.getElem?_cons_zero, List.getElem?_cons_succ]
                generalize wr.drew = w7 at *
                obtain ⟨c0, c1, c2⟩ := cells3 hab7
                rw [hka] at c2
                clear hka
                have hF := fun i => Still.fam (w := w7) i
                have hnn := Still.ne w7
                repeat (refine wpV_step (fun K hK => ?_); go_simp; refine hK _ ?_; clear hK K)
                refine wpV_nil (wpCh_last ?_)
                clear hF hnn c0 c1 c2 d0 d1 d2 d3
                go_wp2_with fail
                refine (rretire_any w7 w.heap.size f sv' _ act.n x hR7 (by omega) hx7.size Hnd.out).mono ?_
                rintro en w8 ⟨sv8, rfl, hR8, hx8⟩
                rw [← Hst.out] at hR8
                have hL8 := hL7.over hR7 hx8
                have hx8' := hR7.since hx7 hx8
                have hab8 := hR7.keep hx8 hab7 (by decide) (by decide)
                clear hL7 hR7 hx7 hx8 hab7
                go_wp2
                exact ⟨⟨j + 1, sv8, by omega, by simp, hL8, hR8, hx8', hab8⟩, by simp [intOf]; omega⟩
              · have hjn : j = act.ks.length := by omega
                subst hjn
                rw [List.take_length] at hR6
                have Hs := Lib.hid (Hsm.out.rets act.n act.ks)
                go_wp2
                go_meet
                exact ⟨rv5, _, _, sv', _, hL6, hR6, hx6, Hs, hlf, hab6⟩
          · have hb0 : (act.kind == 0) = false := by simp [hk0]
            clear hk0
            by_cases hk1 : act.kind = 1
            · have hb1 : (act.kind == 1) = true := by simp [hk1]
              clear hk1
              have hll := Hsm.out.len
              go_wp2_with fail
              have hx5 := hx4.grow (Ext.drew w4)
              have hL5 := hL4.ext0 (Ext.drew w4)
              have hR5 := hR4.ext0 (Ext.drew w4)
              have hab5 := (Ext.drew w4).blk0 hab
              clear hx4 hL4 hR4 hab hb0 hb1
              refine wp_region_hoist (AF ab act) 9 [0, 1, 2, 4, 5, 6] [3, 7, 8, 9] mixed (by kernel_rfl) hab5 ?_
              simp only [List.filterMap_cons, List.filterMap_nil, List.getElem?_cons_zero, List.getElem?_cons_succ]
              have hnn : Nonempty (Fam (AF ab act)) := ⟨⟨_, hab5⟩⟩
              have f1 : ∀ i : Fam (AF ab act), i.w.cell? ⟨ab, 1, none⟩ = some (.int .i64 act.n) := fun i => (cells3 i.h).2.1
              generalize w4.drew = w5 at *
              repeat (refine wpV_step (fun K hK => ?_); go_simp; refine hK _ ?_; clear hK K)
              refine wpV_nil ?_
              clear f1 hnn
              refine wpCh_step ?_
              go_wp2_with fail
              refine (take_any w5 w.heap.size g mb rv row M act.n hL5 hx5.size (by omega)).mono ?_
              rintro en w6 ⟨gv, rv6, rfl, hL6, hG6, hne6, hx6, hf6⟩
              have hab6 := hL5.keep hx6 hab5 (by decide) (by decide)
              have hR6 := hR5.over hL5 hx6
              have hx6' := hL5.since hx5 hx6
              clear hL5 hR5 hx5 hx6 hne6 hf6
              go_wp2
              refine ⟨hab6, wpCh_step ?_⟩
              go_wp2_with fail
              refine (rtake_any w6 w.heap.size f sv L act.n hR6 (by omega) hx6'.size).mono ?_
              rintro en w7 ⟨gv7, sv7, rfl, hR7, hG7, hx7⟩
              have hx7R : Ext (RFoot f sv) w6 w7 := hx7.mono fun _ _ h => .inl h
              have hL7 := hL6.over hR6 hx7R
              have hab7 := hR6.keep hx7R hab6 (by decide) (by decide)
              have hx7' := hR6.since hx6' hx7R
              have hG6' := hG6.ext hx7 (fun b hb e => hG6.ne_blk hR6.blk (by decide) (by rw [hb, e]))
              have hst := Hsm.out.take act.n
              rw [← hst.2] at hG7
              have Hst := Lib.hid hst.1
              have hfl := List.length_filter_le (fun x => !decide ((mget M x).getD 0 < act.n)) row
              have hfg := List.length_filter_le (fun x => decide ((mget M x).getD 0 < act.n)) row
              clear hst hL6 hR6 hx6' hx7 hx7R hG6 hab6
              generalize row.filter (fun x => !decide ((mget M x).getD 0 < act.n)) = rowL at *
              generalize row.filter (fun x => decide ((mget M x).getD 0 < act.n)) = rowG at *
              generalize dels M rowG = M7 at *
              generalize (L.filter fun z => !decide (z.2 < act.n)) = L7 at *
              obtain ⟨ga, gc, gb, rfl, hgk, _⟩ := hG6'.read
              obtain ⟨ga7, gc7, gb7, rfl, hgk7, _⟩ := hG7.read
              clear hG6' hG7
              go_wp2
              refine ⟨hab7, wpCh_step ?_⟩
              go_wp2_with fail
              refine (same_any w7 ga ga7 rowG rowG gb 0 gb7 0 gc gc7 hgk hgk7 (by omega) (by omega)).mono ?_
              rintro en w8 ⟨rfl, hx8⟩
              have hab8 := hx8.blk0 hab7
              have hL8 := hL7.ext0 hx8
              have hR8 := hR7.ext0 hx8
              have hx8' := hx7'.grow hx8
              clear hgk hgk7 hab7 hL7 hR7 hx7' hx8
              simp only [decide_true]
              go_wp2
              refine ⟨hab8, wpCh_last ?_⟩
              go_wp2
              go_meet
              exact ⟨rv6, rowL, M7, sv7, L7, hL8, hR8, hx8', Hst, by omega, hab8⟩
            · have hb1 : (act.kind == 1) = false := by simp [hk1]
              clear hk1
              by_cases hk2 : act.kind = 2
              · have hb2 : (act.kind == 2) = true := by simp [hk2]
                clear hk2
                have hll := Hsm.out.len
                go_wp2_with fail
                clear hb0 hb1 hb2
                go_loopw [7, 9] (fun cc i wx => ∃ (j r : Nat) (sv' : Value), j ≤ act.ks.length ∧ i = .int .i64 j ∧ cc = .int .i64 r ∧ LimboIs wx w.heap.size g mb rv row M ∧ RefIs wx w.heap.size f sv' (lft L (act.ks.take j)) ∧ Ext none_ w wx ∧ wx.heap[ab]? = some (.cells #[.int .i64 act.kind, .int .i64 act.n, .slice act.a act.ks.length act.c] 38 (0, 0)) ∧ r + (lft L (act.ks.take j)).length = L.length) (fun _ i _ => act.ks.length - (intOf i).toNat)
                case atStart => exact ⟨0, 0, sv, Nat.zero_le _, rfl, rfl, hL4, by rw [List.take_zero, lft_nil]; exact hR4, hx4, hab, by rw [List.take_zero, lft_nil]; omega⟩
                case round =>
                  obtain ⟨j, r, sv', hj, rfl, rfl, hL6, hR6, hx6, hab6, hr6⟩ := hrel
                  clear hL4 hR4 hx4 hab
                  obtain ⟨c0, c1, c2⟩ := cells3 hab6
                  by_cases hjl : j < act.ks.length
                  · obtain ⟨x, hxj⟩ : ∃ x, act.ks[j]? = some x := ⟨_, List.getElem?_eq_getElem hjl⟩
                    have Hst := Lib.hid (lft_succ L hxj)
                    have hnd : Hid (((lft L (act.ks.take j)).map (·.1)).Nodup) := Lib.hid (nodup_filter_key Hsm.out.nd _)
                    obtain ⟨d0, d1, d2, d3⟩ := (Hkr.out.ext0 hx6).cell j x hxj
                    have hka := Hkr.out.addr (by omega)
                    rw [hka] at c2
                    clear hka hxj
                    go_wp2_with fail
                    refine (rback_any wr w.heap.size f sv' _ x hR6 (by omega) hx6.size hnd.out).mono ?_
                    rintro en w8 ⟨sv8, r8, rfl, hR8, hx8, _, hcnt⟩
                    rw [← Hst.out] at hR8 hcnt
                    have hx8R : Ext (RFoot f sv') wr w8 := hx8.mono fun _ _ h => .inl h
                    have hL8 := hL6.over hR6 hx8R
                    have hx8' := hR6.since hx6 hx8R
                    have hab8 := hR6.keep hx8R hab6 (by decide) (by decide)
                    have hr8 : (r + r8) + (lft L (act.ks.take (j + 1))).length = L.length := by omega
                    have hrb : r + r8 ≤ 900 := by omega
                    clear hL6 hR6 hx6 hx8 hx8R hab6 c0 c1 c2 d0 d1 d2 d3 hcnt hr6
                    go_wp2
                    exact ⟨⟨j + 1, r + r8, sv8, by omega, by simp, by simp, hL8, hR8, hx8', hab8, hr8⟩, by simp [intOf]; omega⟩
                  · have hjn : j = act.ks.length := by omega
                    subst hjn
                    rw [List.take_length] at hR6 hr6
                    have hback := Hsm.out.back act.ks
                    have hfl := List.length_filter_le (fun x => !decide (x ∈ act.ks)) row
                    have hq : (((row.filter (fun x => decide (x ∈ act.ks))).length : Int) != (r : Int)) = false := by
                      have := hback.2
                      simp only [bne_eq_false_iff_eq]
                      omega
                    have Hb := Lib.hid hback.1
                    have hcall := back_any wr w.heap.size g mb rv row M act.a act.ks act.c act.b act.off (Hkr.out.ext0 hx6) (by omega) hL6 hx6.size (by omega)
                    clear hback
                    generalize row.filter (fun x => !decide (x ∈ act.ks)) = rowL at *
                    generalize row.filter (fun x => decide (x ∈ act.ks)) = rowG at *
                    generalize dels M rowG = M7 at *
                    generalize lft L act.ks = L7 at *
                    go_wp2_with fail
                    refine hcall.mono ?_
                    rintro en w8 ⟨rv8, rfl, hL8, hx8, _⟩
                    have hR8 := hR6.over hL6 hx8
                    have hab8 := hL6.keep hx8 hab6 (by decide) (by decide)
                    have hx8' := hL6.since hx6 hx8
                    clear hL6 hR6 hx6 hx8 hab6 c0 c1 c2 hcall
                    go_wp2
                    go_meet
                    exact ⟨rv8, rowL, M7, sv', L7, hL8, hR8, hx8', Hb, by omega, hab8⟩
              · have hb2 : (act.kind == 2) = false := by simp [hk2]
                clear hk2
                go_wp2
                go_meet
                exact ⟨rv, row, M, sv, L, hL4, hR4, hx4, Hsm, by omega, hab⟩
        case rest =>
          obtain ⟨rv, row, M, sv, L, hL5, hR5, hx5, Hsm5, hlen5, hab5⟩ := hcut
          clear hL4 hR4 hx4 Hsm hlen hab
          have hll := Hsm5.out.len
          obtain ⟨c0, c1, c2⟩ := cells3 hab5
          go_wp2_with fail
          clear c0 c1 c2
          go_loopw [10] (fun i wx => ∃ (j : Nat), j ≤ act.ks.length ∧ i = .int .i64 j ∧ Ext none_ wc wx) (fun i _ => act.ks.length - (intOf i).toNat)
          case atStart => exact ⟨0, Nat.zero_le _, rfl, Ext.refl _ _⟩
          case round =>
            obtain ⟨j, hj, rfl, hx6⟩ := hrel
            have hL6 := hL5.ext0 hx6
            have hR6 := hR5.ext0 hx6
            have hx6' := hx5.grow hx6
            obtain ⟨c0, c1, c2⟩ := cells3 (hx6.blk0 hab5)
            by_cases hjl : j < act.ks.length
            · obtain ⟨x, hxj⟩ : ∃ x, act.ks[j]? = some x := ⟨_, List.getElem?_eq_getElem hjl⟩
              obtain ⟨d0, d1, d2, d3⟩ := (Hkr.out.ext0 hx6').cell j x hxj
              have Hka := Lib.hid (Hkr.out.addr (by omega))
              have Hxj := Lib.hid hxj
              rw [Hka.out] at c2
              clear hxj
              go_wp2_with fail
              refine (epoch_any wr w.heap.size g mb rv row M x hL6).mono ?_
              rintro en w7 ⟨rfl, hx7⟩
              have hx7' := hx6.grow hx7
              clear c0 c1 c2 d0 d1 d2 d3
              obtain ⟨c0, c1, c2⟩ := cells3 (hx7'.blk0 hab5)
              obtain ⟨d0, d1, d2, d3⟩ := (Hkr.out.ext0 (hx6'.grow hx7)).cell j x Hxj.out
              rw [Hka.out] at c2
              go_wp2_with fail
              refine (find_any w7 w.heap.size f sv L x (hR6.ext0 hx7) (by omega)).mono ?_
              rintro en w8 ⟨r, rfl, hx8, hc⟩
              have hx8' := hx7'.grow hx8
              have hR8 := (hR6.ext0 hx7).ext0 hx8
              clear c0 c1 c2 d0 d1 d2 d3
              rcases hc with ⟨rfl, hno⟩ | ⟨i, v, rfl, hi⟩
              · have hm : mget M x = none := by
                  cases hm : mget M x with
                  | none => rfl
                  | some u => exact absurd rfl (hno _ ((Hsm5.out.get x u).1 hm))
                rw [hm]
                simp only [Option.getD_none, Option.isSome_none]
                clear hm hno
                go_wp2
                exact ⟨⟨j + 1, by omega, by simp, hx8'⟩, by simp [intOf]; omega⟩
              · have hm : mget M x = some v := (Hsm5.out.get x v).2 (List.mem_of_getElem? hi)
                rw [hm]
                simp only [Option.getD_some, Option.isSome_some]
                obtain ⟨sa, sc, sb, rfl, hG, _, _⟩ := hR8.own.read cel_len
                have hil := (List.getElem?_eq_some_iff.1 hi).1
                obtain ⟨_, _, _, _, d4⟩ := hG.item hi
                simp only [Nat.zero_add] at d4
                have ha := hG.addr (by omega)
                subst ha
                have f0 := cells1 hR8.blk
                clear hm hi hG
                go_wp2
                exact ⟨⟨j + 1, by omega, by simp, hx8'⟩, by simp [intOf]; omega⟩
            · have hjn : j = act.ks.length := by omega
              subst hjn
              have hml := Hsm5.out.mlen
              have Hml := Lib.hid hml
              clear hml
              have cE := epochs_any wr w.heap.size g mb rv row M hL6 (by rw [Hml.out]; omega)
              go_wp2_with fail
              clear c0 c1 c2
              refine cE.mono ?_
              rintro en w7 ⟨a1, us, c1, b1, rfl, hsd1, hI1, hx7⟩
              have hR7 := hR6.ext0 hx7
              have cR := repochs_any w7 w.heap.size f sv L hR7 (by omega)
              go_wp2_with fail
              refine cR.mono ?_
              rintro en w8 ⟨a2, vs, c2, b2, rfl, hsd2, hI2, hx8, hvl⟩
              have huv := (hsd1.congr fun x => Hsm5.out.vals x).unique hsd2
              subst huv
              have hL8 := (hL6.ext0 hx7).ext0 hx8
              have hR8 := hR7.ext0 hx8
              have hx8' := (hx6'.grow hx7).grow hx8
              have hI1' := hI1.ext0 hx8
              clear hL6 hR6 hx6 hx6' hx7 hR7 hx8 hI1 cE cR hsd1 hsd2 hL5 hR5 hx5 hab5
              obtain ⟨sa, sc, sb, rfl, _, _, _⟩ := hR8.own.read cel_len
              have f0 := cells1 hR8.blk
              have hlq : ((row.length : Int) != (L.length : Int)) = false := by simp [hll]
              go_wp2_with fail
              go_quiet (first | (go_at_call 10; exact Calls.quiet_of_same (len_q _ _ _ _ _ _ _ (hL8.ext0 (Ext.drewN _ _)))))
              go_wp2_with fail
              have hLb : L.length ≤ 900 := by omega
              clear f0 hlq hll
              have hI1q := hI1'.ext0 (Ext.drewN w8 nq)
              have hI2q := hI2.ext0 (Ext.drewN w8 nq)
              have hL9 := hL8.ext0 (Ext.drewN w8 nq)
              have hR9 := hR8.ext0 (Ext.drewN w8 nq)
              have hx9 := hx8'.grow (Ext.drewN w8 nq)
              clear hI1' hI2 hL8 hR8 hx8'
              generalize w8.drewN nq = w9 at *
              go_loopw [16] (fun i wx => ∃ (j : Nat), j ≤ us.length ∧ i = .int .i64 j ∧ Ext none_ w9 wx) (fun i _ => us.length - (intOf i).toNat)
              case atStart => exact ⟨0, Nat.zero_le _, rfl, Ext.refl _ _⟩
              case round =>
                obtain ⟨j, hj, rfl, hx10⟩ := hrel
                by_cases hjl : j < us.length
                · obtain ⟨y, hy⟩ : ∃ y, us[j]? = some y := ⟨_, List.getElem?_eq_getElem hjl⟩
                  have e1 := (hI1q.ext0 hx10).cell j y hy
                  have e2 := (hI2q.ext0 hx10).cell j y hy
                  simp only [Nat.zero_add] at e1 e2
                  have ha1 := hI1q.addr (by omega)
                  have ha2 := hI2q.addr (by omega)
                  subst ha1 ha2
                  clear hy
                  go_wp2_with fail
                  have hx11 := hx10.grow (Ext.drew wr)
                  have e1' := cell_ext0 (Ext.drew wr) e1
                  have e2' := cell_ext0 (Ext.drew wr) e2
                  clear e1 e2
                  refine wp_region_hoist (Still wr.drew) 8 [0, 1, 2, 3, 4, 5, 6, 7] [8] mixed (by kernel_rfl) rfl ?_
                  simp only [List.filterMap_cons, List.filterMap_nil, List.getElem?_cons_zero, List.getElem?_cons_succ]
                  generalize wr.drew = w11 at *
                  have hF := fun i => Still.fam (w := w11) i
                  have hnn := Still.ne w11
                  repeat (refine wpV_step (fun K hK => ?_); go_simp; refine hK _ ?_; clear hK K)
                  refine wpV_nil (wpCh_last ?_)
                  clear hF hnn e1' e2'
                  go_wp2_with fail
                  exact ⟨⟨j + 1, by omega, by simp, hx11⟩, by simp [intOf]; omega⟩
                · have hjn : j = us.length := by omega
                  subst hjn
                  go_wp2
                  exact ⟨⟨k + 1, rv, row, M, _, L, by omega, by simp, hL9.ext0 hx10, hR9.ext0 hx10, hx9.grow hx10, Hsm5, by omega⟩, by simp [intOf]; omega⟩
    · go_wp2
      go_ret
      exact ⟨rfl, hx⟩

end Go.Proofs.Ytfjlclloddbkmaa
