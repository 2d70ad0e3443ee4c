/- The walks of slices.Min and of Least. -/
import Derived.Test.YtjphmbflggeciaaIter
import Derived.Deep.QuietTactic
namespace Go.Proofs.Ytjphmbflggeciaa
open Go.RowKit Go.Cw

/-- A slice's address reads as these numbers. -/
structure IR (w : World) (a : Option Addr) (zs : List Int) (b off : Nat) : Prop where
  addr : 0 < zs.length → a = some ⟨b, off, none⟩
  cell : ∀ (j : Nat) (z : Int), zs[j]? = some z → w.cell? ⟨b, off + j, none⟩ = some (.int .i64 z)
theorem IR.ext0 {w w' : World} {a : Option Addr} {zs : List Int} {b off : Nat} (h : IR w a zs b off) (hx : Ext none_ w w') : IR w' a zs b off := by
  refine ⟨h.addr, fun j z hj => ?_⟩
  have hc := h.cell j z hj
  have hlt : b < w.heap.size := World.block_lt_of_cell? w ⟨b, off + j, none⟩ hc
  exact (World.cell?_of_block (a := ⟨b, _, none⟩) (hx.block b hlt id)).trans hc

/-- the least of a row, from its first on -/
def mn (zs : List Int) (k : Nat) : Int := ((zs.take k).drop 1).foldl min (zs.headD 0)
theorem mn_one (zs : List Int) : mn zs 1 = zs.headD 0 := by
  unfold mn; cases zs <;> simp
theorem mn_succ {zs : List Int} {k : Nat} {z : Int} (h : zs[k]? = some z) (hk : 1 ≤ k) : mn zs (k + 1) = min (mn zs k) z := by
  obtain ⟨hl, rfl⟩ := List.getElem?_eq_some_iff.1 h
  unfold mn
  rw [List.take_succ_eq_append_getElem hl, List.drop_append_of_le_length (by rw [List.length_take]; omega), List.foldl_append]
  rfl

set_option maxHeartbeats 1000000 in
theorem min_any (w : World) (a : Option Addr) (zs : List Int) (c b off : Nat) (h : IR w a zs b off) (h0 : 0 < zs.length) (hn : zs.length ≤ 1000000) :
    Calls Try.prog 21 #[.slice a zs.length c] w fun e w' => e = .returned (.int .i64 (mn zs zs.length)) ∧ w' = w := by
  obtain rfl := h.addr h0
  have hc0 := h.cell 0 zs[0] (List.getElem?_eq_getElem h0)
  simp only [Nat.add_zero] at hc0
  have hlt : decide ((zs.length : Int) < 1) = false := by simp; omega
  have hd : zs.headD 0 = zs[0] := by cases zs with | nil => simp at h0 | cons x r => rfl
  have Hd := Lib.hid hd
  clear hd
  go_enter Try.func21, Try.ntmps21
  go_wp2_with fail
  go_loopw [3, 4] (fun m i wr => ∃ k : Nat, 1 ≤ k ∧ k ≤ zs.length ∧ m = .int .i64 (mn zs k) ∧ i = .int .i64 k ∧ wr = w) (fun _ i _ => zs.length - (RowKit.intOf i).toNat)
  case atStart => exact ⟨1, by omega, by omega, by rw [mn_one, Hd.out], rfl, rfl⟩
  case round =>
    obtain ⟨k, hk1, hk, rfl, rfl, rfl⟩ := hrel
    by_cases hlt : k < zs.length
    · obtain ⟨z, hzk⟩ : ∃ z, zs[k]? = some z := ⟨_, List.getElem?_eq_getElem hlt⟩
      have hc := h.cell k z hzk
      have Hm := Lib.hid (mn_succ hzk hk1)
      go_wp2
      refine ⟨⟨k + 1, by omega, by omega, ?_, by simp, trivial⟩, by simp [RowKit.intOf]; omega⟩
      rw [Hm.out]
      congr 1
      split <;> omega
    · have hkn : k = zs.length := by omega
      subst hkn
      go_wp2
      go_ret
      exact ⟨rfl, rfl⟩

/-- m is the least of these and of gl -/
structure IsLeast (m gl : Int) (vs : List Int) : Prop where
  le : m ≤ gl
  all : ∀ x ∈ vs, m ≤ x
  mem : m = gl ∨ m ∈ vs
theorem IsLeast.unique {m m' gl : Int} {vs : List Int} (h : IsLeast m gl vs) (h' : IsLeast m' gl vs) : m = m' := by
  have h1 := h.le; have h2 := h'.le
  rcases h.mem with rfl | h3 <;> rcases h'.mem with rfl | h4
  · rfl
  · have := h.all _ h4; omega
  · have := h'.all _ h3; omega
  · have := h.all _ h4; have := h'.all _ h3; omega
theorem IsLeast.perm {m gl : Int} {vs ws : List Int} (h : IsLeast m gl vs) (hp : vs.Perm ws) : IsLeast m gl ws :=
  ⟨h.le, fun x hx => h.all x (hp.mem_iff.2 hx), h.mem.imp id hp.mem_iff.1⟩
theorem foldl_min (l : List Int) : ∀ (x : Int), l.foldl min x ≤ x ∧ (∀ y ∈ l, l.foldl min x ≤ y) ∧ (l.foldl min x = x ∨ l.foldl min x ∈ l) := by
  induction l with
  | nil => intro x; simp
  | cons a r ih =>
    intro x
    obtain ⟨h1, h2, h3⟩ := ih (min x a)
    simp only [List.foldl_cons]
    refine ⟨by omega, fun y hy => ?_, ?_⟩
    · rcases List.mem_cons.1 hy with rfl | hy
      · omega
      · exact h2 y hy
    · rcases h3 with h3 | h3
      · rw [h3]
        by_cases hxa : x ≤ a
        · left; omega
        · right; rw [show min x a = a by omega]; simp
      · right; simp [h3]
theorem mn_least (vs : List Int) (gl : Int) : IsLeast (mn (vs ++ [gl]) (vs ++ [gl]).length) gl vs := by
  unfold mn
  rw [List.take_length]
  cases vs with
  | nil => exact ⟨by simp, by simp, .inl (by simp)⟩
  | cons x r =>
    obtain ⟨h1, h2, h3⟩ := foldl_min (r ++ [gl]) x
    simp only [List.cons_append, List.drop_succ_cons, List.drop_zero, List.headD_cons]
    refine ⟨h2 gl (by simp), fun y hy => ?_, ?_⟩
    · rcases List.mem_cons.1 hy with rfl | hy
      · exact h1
      · exact h2 y (by simp [hy])
    · rcases h3 with h3 | h3
      · right; rw [h3]; simp
      · rcases List.mem_append.1 h3 with h3 | h3
        · right; exact List.mem_cons_of_mem _ h3
        · left; simpa using h3

/-- A table at block g, its map at block mb. -/
structure TableIs (w : World) (base g mb : Nat) (ss gl : Int) (M : List (Z × Int)) : Prop where
  blk : w.heap[g]? = some (.cells #[.int .i64 ss, .int .i64 gl, .map (some mb)] 51 (0, 0))
  map : MapIs Z.val (Value.int .i64) w mb M
  gb : base ≤ g
  mb : base ≤ mb
theorem cells3 {w : World} {b : Nat} {c0 c1 c2 : Value} {e : TypeId} {f : Nat × Nat} (hb : w.heap[b]? = some (.cells #[c0, c1, c2] e f)) :
    w.cell? ⟨b, 0, none⟩ = some c0 ∧ w.cell? ⟨b, 1, none⟩ = some c1 ∧ w.cell? ⟨b, 2, none⟩ = some c2 := by
  refine ⟨?_, ?_, ?_⟩ <;> rw [cell_of hb] <;> rfl
theorem TableIs.ext0 {w w' : World} {base g mb : Nat} {ss gl : Int} {M : List (Z × Int)} (h : TableIs w base g mb ss gl M) (hx : Ext none_ w w') : TableIs w' base g mb ss gl M :=
  ⟨hx.blk0 h.blk, h.map.ext hx id, h.gb, h.mb⟩

theorem mixed : Try.prog.follows .mixedOrders = true := by kernel_rfl
theorem zero3 (w : World) : (zeroValue 3).run Try.prog w = .ok (.int .i64 0) w := by kernel_rfl
theorem info3 : (Try.prog.info? 3).map (fun i => (i.zero, i.size, i.bytes)) = some (some (.int .i64 0), 1, 8) := by kernel_rfl

theorem values_any (w : World) (mb : Option Nat) : Calls Try.prog 23 #[.map mb] w fun e w' => e = .returned (.func (.func 27) #[] #[.pointer (some ⟨w.heap.size, 0, none⟩)]) ∧ w' = w.alloc (.cells #[.map mb] 49) := by
  go_enter Try.func23, Try.ntmps23
  go_wp2
  go_ret
  exact ⟨rfl, rfl⟩

theorem collect_any (w : World) (Bm b : Nat) (M : List (Z × Int)) (hBm : Bm < w.heap.size) (hm : w.cell? ⟨Bm, 0, none⟩ = some (.map (some b))) (hown : MapIs Z.val (Value.int .i64) w b M) (hn : M.length ≤ 100000) :
    Calls Try.prog 22 #[.func (.func 27) #[] #[.pointer (some ⟨Bm, 0, none⟩)]] w fun e w' => ∃ (v : Value) (vs : List Int), e = .returned v ∧ vs.Perm (M.map (·.2)) ∧ w'.ownsRow w.heap.size 3 1 v vs.length (vs.map (Value.int .i64)) ∧ Ext none_ w w' := by
  have hseq : SeqGives Fence.wide (5 - 1 - 1) Try.prog 27 #[.pointer (some ⟨Bm, 0, none⟩)] encZ (fun xs => xs.Perm (M.map (·.2))) M.length w := fun l J W hW hJ hY h0 =>
    values1 Fence.wide _ trivial rfl (by omega) l Bm b M J hY W hJ ((hW.cell (p := ⟨Bm, 0, none⟩) hBm).trans hm) (hown.of_block (hW.block b hown.lt)) h0
  have := AnyZI.collect_in collect_lays Fence.wide 5 trivial trivial rfl (by omega) 27 #[.pointer (some ⟨Bm, 0, none⟩)] trivial (enters_of Try.func27 (by kernel_rfl) rfl) _ M.length (by unfold maxLen; omega) (by omega) w hseq
  refine Calls.mono ((callsIn_wide (n := 5)).1 this) ?_
  rintro e w' ⟨v, vs, rfl, hp, ho, _, hb⟩
  exact ⟨v, vs, rfl, hp, ho, ⟨hb.os, hb.tape, hb.output, hb.size, fun k hk _ => hb.block k hk⟩⟩

theorem app_int {ops : Array Oper} {rest : List Oper} {o : Oper} {a : Act} {Q : Exit → Act → World → Prop} {w : World} (hgd : o.guard = none) (s y : Operand) (ho : o.op = .call { callee := .builtin .append, args := #[s, y], argTypes := #[54, 54] })
    (base : Nat) (v : Value) (vs : List Int) (x : Int) (hown : w.ownsRow base 3 1 v vs.length (vs.map (Value.int .i64))) (hs : a.eval s = v) (bs : Nat) (hx : a.eval y = .slice (some ⟨bs, 0, none⟩) 1 1) (hc : w.cell? ⟨bs, 0, none⟩ = some (.int .i64 x))
    (hn : vs.length ≤ 1000000) (hb : base ≤ w.heap.size)
    (h : ∀ v' w', w'.ownsRow base 3 1 v' (vs ++ [x]).length ((vs ++ [x]).map (Value.int .i64)) → Ext (fun b => v.ownBlock = some b) w w' → wpList Try.prog ops Q rest (a.put o.dst v') w') :
    wpList Try.prog ops Q (o :: rest) a w := by
  obtain ⟨i0, hi, hz0, hz1, hz2⟩ := info_parts info3
  refine wpList_append_own w hgd s y 54 ho base 3 i0 _ 1 8 Try.underlying54 hi hz0 hz1 hz2 rfl (by decide) v _ _ hs hown ⟨bs, 0, none⟩ 1 1 [.int .i64 x] hx rfl ?_ ?_ ?_ ?_ hb ?_
  · intro j u hj
    match j, hj with
    | 0, hj => simp at hj; subst hj; simpa [Addr.add] using hc
  · intro u hu; simp at hu; subst hu; rfl
  · unfold maxLen; omega
  · omega
  · intro v' w' h1 h2 _
    refine h v' w' ?_ ?_
    · rw [List.length_append, List.map_append]
      exact h1
    · exact (Ext.grown h2).mono fun _ _ h => h.symm

/-- a row of numbers that the call owns, read -/
theorem own_read {w : World} {base : Nat} {v : Value} {zs : List Int} (h : w.ownsRow base 3 1 v zs.length (zs.map (Value.int .i64))) (h0 : 0 < zs.length) :
    ∃ g cap, v = .slice (some ⟨g, 0, none⟩) zs.length cap ∧ IR w (some ⟨g, 0, none⟩) zs g 0 := by
  rcases h.2 with ⟨_, h0'⟩ | ⟨g, cap, cur, rfl, hb, hg, hc1, hc2, hc3, hc4⟩
  · omega
  · refine ⟨g, cap, rfl, fun _ => rfl, fun j z hj => ?_⟩
    rw [cell_of hg, Nat.zero_add]
    have hj' : (zs.map (Value.int .i64))[j]? = some (.int .i64 z) := by simp [hj]
    rw [← hc4, List.getElem?_take] at hj'
    split at hj'
    · simpa using hj'
    · cases hj'

theorem cell_ext0 {w w' : World} (hx : Ext none_ w w') {a : Addr} {v : Value} (hc : w.cell? a = some v) : w'.cell? a = some v := by
  have hlt : a.block < w.heap.size := World.block_lt_of_cell? w a hc
  exact (World.cell?_of_block (hx.block a.block hlt id)).trans hc
theorem cells1' {w : World} {b : Nat} {c0 : Value} {e : TypeId} {f : Nat × Nat} (hb : w.heap[b]? = some (.cells #[c0] e f)) : w.cell? ⟨b, 0, none⟩ = some c0 := by
  rw [cell_of hb]; rfl

/-- what Least's reads find at each moment -/
structure At3 (g mb : Nat) (ss gl : Int) (u : World) : Prop where
  c1 : u.cell? ⟨g, 1, none⟩ = some (.int .i64 gl)
  c2 : u.cell? ⟨g, 2, none⟩ = some (.map (some mb))
theorem TableIs.at3 {w : World} {base g mb : Nat} {ss gl : Int} {M : List (Z × Int)} (h : TableIs w base g mb ss gl M) : At3 g mb ss gl w :=
  ⟨(cells3 h.blk).2.1, (cells3 h.blk).2.2⟩

set_option maxHeartbeats 2000000 in
theorem least_any (w : World) (base g mb : Nat) (ss gl : Int) (M : List (Z × Int)) (hT : TableIs w base g mb ss gl M) (hn : M.length ≤ 10000) :
    Calls Try.prog 11 #[.pointer (some ⟨g, 0, none⟩)] w fun e w' => ∃ m, e = .returned (.int .i64 m) ∧ IsLeast m gl (M.map (·.2)) ∧ Ext none_ w w' := by
  have hT1 := hT.ext0 (Ext.drew w)
  have hxw1 := Ext.drew w
  go_enter Try.func11, Try.ntmps11
  go_wp2_with fail
  refine wp_region_hoistT (At3 g mb ss gl) 13 [0, 1, 2, 3, 6, 7, 8, 9] 6 mixed (by kernel_rfl) hT1.at3 ?_
  simp only [List.filterMap_cons, List.filterMap_nil, List.getElem?_cons_zero, List.getElem?_cons_succ]
  have hnn := Fam.ne hT1.at3
  generalize w.drew = w1 at *
  have hc1 := fun i : Fam (At3 g mb ss gl) => i.h.c1
  have hc2 := fun i : Fam (At3 g mb ss gl) => i.h.c2
  repeat (refine wpV_step (fun K hK => ?_); go_simp; refine hK _ ?_; clear hK K)
  refine wpV_nil ?_
  clear hc1 hc2 hnn
  refine wpAnyC_step [4, 10] (by kernel_rfl) (by simp) ?_
  intro j hj
  simp only [List.mem_cons, List.not_mem_nil, or_false] at hj
  rcases hj with rfl | rfl
  · refine ⟨_, rfl, ?_⟩
    go_wp2_with fail
    refine (values_any w1 (some mb)).mono ?_
    rintro e w2 ⟨rfl, rfl⟩
    have hxw2 := hxw1.grow (Ext.alloc w1 (.cells #[.map (some mb)] 49))
    have hmw2 := cells1' (blk_new w1 (.cells #[.map (some mb)] 49))
    have hBw2 : w1.heap.size < (w1.alloc (.cells #[.map (some mb)] 49)).heap.size := by simp
    generalize w1.alloc (.cells #[.map (some mb)] 49) = w2 at *
    generalize hBm : w1.heap.size = Bm at *
    clear hBm
    have hTw2 := Lib.hid (hT.ext0 hxw2)
    go_wp2_with fail
    first | refine ⟨.inr hTw2.out.at3, ?_⟩ | refine ⟨hTw2.out.at3, ?_⟩
    refine wpAnyC_step [5, 10] (by kernel_rfl) (by simp) ?_
    intro j hj
    simp only [List.mem_cons, List.not_mem_nil, or_false] at hj
    rcases hj with rfl | rfl
    · refine ⟨_, rfl, ?_⟩
      go_wp2_with fail
      refine (collect_any w2 Bm mb M hBw2 hmw2 hTw2.out.map (by omega)).mono ?_
      rintro e w3 ⟨v, vs, rfl, hp, ho, hxc⟩
      have hvl : vs.length ≤ 10000 := by have := hp.length_eq; simp at this; omega
      have hvb : ∀ i, v.ownBlock = some i → w.heap.size ≤ i := fun i hi => by have := (ho.lt i hi).1; have := hxw2.size; omega
      have ho := ownsRow_base_a ho hxw2.size
      have hxw3 := hxw2.grow hxc
      clear hxc
      have hTw3 := Lib.hid (hT.ext0 hxw3)
      go_wp2_with fail
      first | refine ⟨.inr hTw3.out.at3, ?_⟩ | refine ⟨hTw3.out.at3, ?_⟩
      refine wpAnyC_step [10] (by kernel_rfl) (by simp) ?_
      intro j hj
      simp only [List.mem_cons, List.not_mem_nil, or_false] at hj
      subst hj
      refine ⟨_, rfl, ?_⟩
      go_wp2_with fail
      have hxw4 := hxw3.grow (Ext.alloc w3 (.cells #[.int .i64 gl] 3))
      have hcb := cells1' (blk_new w3 (.cells #[.int .i64 gl] 3))
      have ho := World.ownsRow.alloc ho (.cells #[.int .i64 gl] 3)
      generalize w3.alloc (.cells #[.int .i64 gl] 3) = w4 at *
      generalize hbs : w3.heap.size = bs at *
      clear hbs
      have hTw4 := Lib.hid (hT.ext0 hxw4)
      first | refine ⟨.inr hTw4.out.at3, ?_⟩ | refine ⟨hTw4.out.at3, ?_⟩
      refine wpAnyC_step [11] (by kernel_rfl) (by simp) ?_
      intro j hj
      simp only [List.mem_cons, List.not_mem_nil, or_false] at hj
      subst hj
      refine ⟨_, rfl, ?_⟩
      refine app_int rfl _ _ rfl w.heap.size v vs gl ho rfl bs rfl hcb (by omega) hxw4.size ?_
      intro v' w9 ho9 hx9
      have hml := (mn_least vs gl).perm hp
      have hzl : (vs ++ [gl]).length ≤ 100000 ∧ 0 < (vs ++ [gl]).length := by simp; omega
      generalize vs ++ [gl] = zs at *
      have hxw : Ext none_ w w9 := hxw4.trans hx9 fun i hi hf => by
        have := hvb i hf; omega
      have hT9 := hT.ext0 hxw
      refine ⟨.inr hT9.at3, wpAnyC_step [12] (by kernel_rfl) (by simp) ?_⟩
      intro j hj
      simp only [List.mem_cons, List.not_mem_nil, or_false] at hj
      subst hj
      refine ⟨_, rfl, ?_⟩
      obtain ⟨gg, cap, rfl, hir⟩ := own_read ho9 hzl.2
      go_wp2_with fail
      refine (min_any w9 _ zs cap gg 0 hir hzl.2 (by omega)).mono ?_
      rintro e w10 ⟨rfl, rfl⟩
      have HT9 := Lib.hid hT9
      clear hT9
      go_wp2_with fail
      first | refine ⟨.inr HT9.out.at3, ?_⟩ | refine ⟨HT9.out.at3, ?_⟩
      refine wpAnyC_step [13] (by kernel_rfl) (by simp) ?_
      intro j hj
      simp only [List.mem_cons, List.not_mem_nil, or_false] at hj
      subst hj
      refine ⟨_, rfl, ?_⟩
      generalize mn zs zs.length = m at *
      go_wp2_with fail
      refine ⟨.inl trivial, wpAnyC_end (by kernel_rfl) ?_⟩
      go_wp2
      go_ret
      exact ⟨m, rfl, hml, hxw⟩
    · refine ⟨_, rfl, ?_⟩
      go_wp2_with fail
      have hxw3 := hxw2.grow (Ext.alloc w2 (.cells #[.int .i64 gl] 3))
      have hcb := cells1' (blk_new w2 (.cells #[.int .i64 gl] 3))
      have hmw3 := cell_ext0 (Ext.alloc w2 (.cells #[.int .i64 gl] 3)) hmw2
      have hBw3 : Bm < (w2.alloc (.cells #[.int .i64 gl] 3)).heap.size := by simp; omega
      generalize w2.alloc (.cells #[.int .i64 gl] 3) = w3 at *
      generalize hbs : w2.heap.size = bs at *
      clear hbs
      have hTw3 := Lib.hid (hT.ext0 hxw3)
      first | refine ⟨.inr hTw3.out.at3, ?_⟩ | refine ⟨hTw3.out.at3, ?_⟩
      refine wpAnyC_step [5] (by kernel_rfl) (by simp) ?_
      intro j hj
      simp only [List.mem_cons, List.not_mem_nil, or_false] at hj
      subst hj
      refine ⟨_, rfl, ?_⟩
      go_wp2_with fail
      refine (collect_any w3 Bm mb M hBw3 hmw3 hTw3.out.map (by omega)).mono ?_
      rintro e w4 ⟨v, vs, rfl, hp, ho, hxc⟩
      have hvl : vs.length ≤ 10000 := by have := hp.length_eq; simp at this; omega
      have hvb : ∀ i, v.ownBlock = some i → w.heap.size ≤ i := fun i hi => by have := (ho.lt i hi).1; have := hxw3.size; omega
      have ho := ownsRow_base_a ho hxw3.size
      have hxw4 := hxw3.grow hxc
      have hcb := cell_ext0 hxc hcb
      clear hxc
      have hTw4 := Lib.hid (hT.ext0 hxw4)
      go_wp2_with fail
      first | refine ⟨.inr hTw4.out.at3, ?_⟩ | refine ⟨hTw4.out.at3, ?_⟩
      refine wpAnyC_step [11] (by kernel_rfl) (by simp) ?_
      intro j hj
      simp only [List.mem_cons, List.not_mem_nil, or_false] at hj
      subst hj
      refine ⟨_, rfl, ?_⟩
      refine app_int rfl _ _ rfl w.heap.size v vs gl ho rfl bs rfl hcb (by omega) hxw4.size ?_
      intro v' w9 ho9 hx9
      have hml := (mn_least vs gl).perm hp
      have hzl : (vs ++ [gl]).length ≤ 100000 ∧ 0 < (vs ++ [gl]).length := by simp; omega
      generalize vs ++ [gl] = zs at *
      have hxw : Ext none_ w w9 := hxw4.trans hx9 fun i hi hf => by
        have := hvb i hf; omega
      have hT9 := hT.ext0 hxw
      refine ⟨.inr hT9.at3, wpAnyC_step [12] (by kernel_rfl) (by simp) ?_⟩
      intro j hj
      simp only [List.mem_cons, List.not_mem_nil, or_false] at hj
      subst hj
      refine ⟨_, rfl, ?_⟩
      obtain ⟨gg, cap, rfl, hir⟩ := own_read ho9 hzl.2
      go_wp2_with fail
      refine (min_any w9 _ zs cap gg 0 hir hzl.2 (by omega)).mono ?_
      rintro e w10 ⟨rfl, rfl⟩
      have HT9 := Lib.hid hT9
      clear hT9
      go_wp2_with fail
      first | refine ⟨.inr HT9.out.at3, ?_⟩ | refine ⟨HT9.out.at3, ?_⟩
      refine wpAnyC_step [13] (by kernel_rfl) (by simp) ?_
      intro j hj
      simp only [List.mem_cons, List.not_mem_nil, or_false] at hj
      subst hj
      refine ⟨_, rfl, ?_⟩
      generalize mn zs zs.length = m at *
      go_wp2_with fail
      refine ⟨.inl trivial, wpAnyC_end (by kernel_rfl) ?_⟩
      go_wp2
      go_ret
      exact ⟨m, rfl, hml, hxw⟩
  · refine ⟨_, rfl, ?_⟩
    go_wp2_with fail
    have hxw2 := hxw1.grow (Ext.alloc w1 (.cells #[.int .i64 gl] 3))
    have hcb := cells1' (blk_new w1 (.cells #[.int .i64 gl] 3))
    generalize w1.alloc (.cells #[.int .i64 gl] 3) = w2 at *
    generalize hbs : w1.heap.size = bs at *
    clear hbs
    have hTw2 := Lib.hid (hT.ext0 hxw2)
    first | refine ⟨.inr hTw2.out.at3, ?_⟩ | refine ⟨hTw2.out.at3, ?_⟩
    refine wpAnyC_step [4] (by kernel_rfl) (by simp) ?_
    intro j hj
    simp only [List.mem_cons, List.not_mem_nil, or_false] at hj
    subst hj
    refine ⟨_, rfl, ?_⟩
    go_wp2_with fail
    refine (values_any w2 (some mb)).mono ?_
    rintro e w3 ⟨rfl, rfl⟩
    have hxw3 := hxw2.grow (Ext.alloc w2 (.cells #[.map (some mb)] 49))
    have hmw3 := cells1' (blk_new w2 (.cells #[.map (some mb)] 49))
    have hBw3 : w2.heap.size < (w2.alloc (.cells #[.map (some mb)] 49)).heap.size := by simp
    have hcb := cell_ext0 (Ext.alloc w2 (.cells #[.map (some mb)] 49)) hcb
    generalize w2.alloc (.cells #[.map (some mb)] 49) = w3 at *
    generalize hBm : w2.heap.size = Bm at *
    clear hBm
    have hTw3 := Lib.hid (hT.ext0 hxw3)
    go_wp2_with fail
    first | refine ⟨.inr hTw3.out.at3, ?_⟩ | refine ⟨hTw3.out.at3, ?_⟩
    refine wpAnyC_step [5] (by kernel_rfl) (by simp) ?_
    intro j hj
    simp only [List.mem_cons, List.not_mem_nil, or_false] at hj
    subst hj
    refine ⟨_, rfl, ?_⟩
    go_wp2_with fail
    refine (collect_any w3 Bm mb M hBw3 hmw3 hTw3.out.map (by omega)).mono ?_
    rintro e w4 ⟨v, vs, rfl, hp, ho, hxc⟩
    have hvl : vs.length ≤ 10000 := by have := hp.length_eq; simp at this; omega
    have hvb : ∀ i, v.ownBlock = some i → w.heap.size ≤ i := fun i hi => by have := (ho.lt i hi).1; have := hxw3.size; omega
    have ho := ownsRow_base_a ho hxw3.size
    have hxw4 := hxw3.grow hxc
    have hcb := cell_ext0 hxc hcb
    clear hxc
    have hTw4 := Lib.hid (hT.ext0 hxw4)
    go_wp2_with fail
    first | refine ⟨.inr hTw4.out.at3, ?_⟩ | refine ⟨hTw4.out.at3, ?_⟩
    refine wpAnyC_step [11] (by kernel_rfl) (by simp) ?_
    intro j hj
    simp only [List.mem_cons, List.not_mem_nil, or_false] at hj
    subst hj
    refine ⟨_, rfl, ?_⟩
    refine app_int rfl _ _ rfl w.heap.size v vs gl ho rfl bs rfl hcb (by omega) hxw4.size ?_
    intro v' w9 ho9 hx9
    have hml := (mn_least vs gl).perm hp
    have hzl : (vs ++ [gl]).length ≤ 100000 ∧ 0 < (vs ++ [gl]).length := by simp; omega
    generalize vs ++ [gl] = zs at *
    have hxw : Ext none_ w w9 := hxw4.trans hx9 fun i hi hf => by
      have := hvb i hf; omega
    have hT9 := hT.ext0 hxw
    refine ⟨.inr hT9.at3, wpAnyC_step [12] (by kernel_rfl) (by simp) ?_⟩
    intro j hj
    simp only [List.mem_cons, List.not_mem_nil, or_false] at hj
    subst hj
    refine ⟨_, rfl, ?_⟩
    obtain ⟨gg, cap, rfl, hir⟩ := own_read ho9 hzl.2
    go_wp2_with fail
    refine (min_any w9 _ zs cap gg 0 hir hzl.2 (by omega)).mono ?_
    rintro e w10 ⟨rfl, rfl⟩
    have HT9 := Lib.hid hT9
    clear hT9
    go_wp2_with fail
    first | refine ⟨.inr HT9.out.at3, ?_⟩ | refine ⟨HT9.out.at3, ?_⟩
    refine wpAnyC_step [13] (by kernel_rfl) (by simp) ?_
    intro j hj
    simp only [List.mem_cons, List.not_mem_nil, or_false] at hj
    subst hj
    refine ⟨_, rfl, ?_⟩
    generalize mn zs zs.length = m at *
    go_wp2_with fail
    refine ⟨.inl trivial, wpAnyC_end (by kernel_rfl) ?_⟩
    go_wp2
    go_ret
    exact ⟨m, rfl, hml, hxw⟩

end Go.Proofs.Ytjphmbflggeciaa
