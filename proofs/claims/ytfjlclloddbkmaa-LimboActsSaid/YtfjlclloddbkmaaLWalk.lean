/- Laws on a region whose rest may take more than one order, and on a map walked over, its entries in whatever order; they speak of no program. -/
import Derived.Test.YtfjlclloddbkmaaBase
import Derived.Shelf.SlIterI.Collect
namespace Go.Cw
open Go Go.RowKit
section
variable {P : Program} {ops : Array Oper} {md : Region.Mode} {F : World → Prop} {Q : Exit → Act → World → Prop} {L : Nat}

/-- The check over a region: the quiet ones first, in this order. -/
def hoistTB (md : Region.Mode) (ops : Array Oper) (L : Nat) : List Nat → Array Bool → Bool
  | i :: qs, listed => (Region.ready md ops listed).contains i && Region.free md ops listed i &&
      (i == L || ops[L]?.isNone || reachB md ops i ops.size L) && hoistTB md ops L qs (listed.setIfInBounds i true)
  | [], _ => true

def listedOf (qs : List Nat) (listed : Array Bool) : Array Bool := qs.foldl (fun s i => s.setIfInBounds i true) listed

theorem wpAnyC_hoistT (hs : Region.noSelect ops = true) (m : Nat) : ∀ (qs : List Nat) (fuel : Nat) (listed : Array Bool) (a : Act) (w : World), fuel = qs.length + m → Closed md ops listed →
    hoistTB md ops L qs listed = true → F w → wpV P ops F (fun a' => wpAnyC P md ops F Q L m (listedOf qs listed) a' w) (qs.filterMap (ops[·]?)) a →
    wpAnyC P md ops F Q L fuel listed a w
  | i :: qs, fuel, listed, a, w, hl, hcl, hB, hF, h => by
    obtain ⟨fuel, rfl⟩ : ∃ f, fuel = f + 1 := ⟨fuel - 1, by simp at hl; omega⟩
    simp only [hoistTB, Bool.and_eq_true] at hB
    obtain ⟨⟨⟨hr, hf⟩, hLb⟩, hB'⟩ := hB
    have hr' : i ∈ Region.ready md ops listed := by simpa using hr
    obtain ⟨_, o, ho, _⟩ := mem_ready.1 hr'
    rw [List.filterMap_cons_some ho] at h
    obtain ⟨v, hy, hK⟩ := yieldsV_of h
    refine wpAnyC_first ho (Region.noSelect_spec hs) ?_ fuel listed a w hcl (Region.free_spec ho hf) hr' hy hF
      (wpAnyC_hoistT hs m qs fuel _ _ _ (by simp at hl ⊢; omega) (hcl.set hr') hB' hF hK)
    simp only [Bool.or_eq_true, beq_iff_eq] at hLb
    rcases hLb with (hLb | hLb) | hLb
    · exact .inl hLb
    · exact .inr (.inl (by simpa using hLb))
    · exact .inr (.inr hLb)
  | [], fuel, listed, a, w, hl, _, hB, hF, h => by
    obtain rfl : fuel = m := by simpa using hl
    exact h

/-- One operation, whichever of those that may come next. -/
theorem wpAnyC_step {fuel : Nat} {listed : Array Bool} {a : Act} {w : World} (js : List Nat) (hr : Region.ready md ops listed = js) (hne : js ≠ [])
    (h : ∀ j ∈ js, ∃ o, ops[j]? = some o ∧ wpList P ops (Exit.then (fun a' w' => (j = L ∨ F w') ∧ wpAnyC P md ops F Q L fuel (listed.setIfInBounds j true) a' w') (NoPanic Q)) [o] a w) :
    wpAnyC P md ops F Q L (fuel + 1) listed a w := by
  refine ⟨fun h0 => absurd (hr ▸ h0) hne, fun j hj => ?_⟩
  rw [hr] at hj
  obtain ⟨o, ho, h'⟩ := h j hj
  exact wpOp_of_list ho letsOut_noPanic (fun _ _ _ h => h) h'

theorem wpAnyC_end {fuel : Nat} {listed : Array Bool} {a : Act} {w : World} (hr : Region.ready md ops listed = []) (h : Q .normal a w) : wpAnyC P md ops F Q L fuel listed a w := by
  cases fuel with
  | zero => exact ⟨hr, h⟩
  | succ fuel => exact ⟨fun _ => h, by rw [hr]; simp⟩

/-- **A REGION THAT DRAWS ITS ORDER**: the quiet operations first, then whatever order the rest may take. -/
theorem wp_region_hoistT {id : Nat} {Q : Exit → Act → World → Prop} {a : Act} {w : World} {l : List Oper} (F : World → Prop) (L : Nat) (qs : List Nat) (m : Nat) (hm : P.follows .mixedOrders = true)
    (hB : (Region.noSelect l.toArray && (qs.length + m == l.length) && hoistTB .any l.toArray L qs (Array.replicate l.length false)) = true) (hF : F w.drew)
    (h : wpV P l.toArray F (fun a' => wpAnyC P .any l.toArray F Q L m (listedOf qs (Array.replicate l.length false)) a' w.drew) (qs.filterMap (l[·]?)) a) : (Code.region id l.toArray true).wp P Q a w := by
  simp only [Bool.and_eq_true, beq_iff_eq] at hB
  refine wp_region_any hm (wpAny_of_C _ _ _ _ (wpAnyC_hoistT (L := L) hB.1.1 m qs _ _ _ _ ?_ ?_ ?_ hF ?_))
  · simp [hB.1.2]
  · intro k ok hk hl
    rcases Nat.lt_or_ge k l.length with h' | h'
    · simp [h'] at hl
    · simp [h'] at hl
  · simpa using hB.2
  · simpa using h

end
end Go.Cw
namespace Go.Cw
open Go Go.RowKit
section
variable {P : Program} {ops : Array Oper} {md : Region.Mode} {F : World → Prop} {Q : Exit → Act → World → Prop} {L : Nat}

def closedB (md : Region.Mode) (ops : Array Oper) (listed : Array Bool) : Bool :=
  (List.range ops.size).all fun k => match ops[k]? with
    | some ok => !listed.getD k false || ok.after.all fun e => !Region.binds md e || listed.getD e.on false
    | none => true
theorem closed_of {listed : Array Bool} (h : closedB md ops listed = true) : Closed md ops listed := by
  intro k ok hk hl e he hb
  have hks : k < ops.size := (Array.getElem?_eq_some_iff.1 hk).1
  have h1 := List.all_eq_true.1 h k (List.mem_range.2 hks)
  rw [hk] at h1
  simp only [hl, Bool.not_true, Bool.false_or] at h1
  obtain ⟨i, hi, e1⟩ := Array.mem_iff_getElem.1 he
  have h2 := Array.all_eq_true.1 h1 i hi
  rw [e1, hb] at h2
  simpa using h2

/-- In the midst of a region: these quiet operations first. -/
theorem wpAnyC_again {fuel : Nat} {listed : Array Bool} {a : Act} {w : World} (qs : List Nat) (m : Nat) (hB : (Region.noSelect ops && (fuel == qs.length + m) && closedB md ops listed && hoistTB md ops L qs listed) = true) (hF : F w)
    (h : wpV P ops F (fun a' => wpAnyC P md ops F Q L m (listedOf qs listed) a' w) (qs.filterMap (ops[·]?)) a) : wpAnyC P md ops F Q L fuel listed a w := by
  simp only [Bool.and_eq_true, beq_iff_eq] at hB
  exact wpAnyC_hoistT hB.1.1.1 m qs fuel listed a w hB.1.1.2 (closed_of hB.1.2) hB.2 hF h
end
end Go.Cw
namespace Go.Cw
open Go Go.RowKit
open Go.ChangeMaps (setBlock)

/-! ### a map walked over, its entries in whatever order -/
theorem perm_of_nodup {α : Type} {l m : List α} (hl : l.Nodup) (hm : m.Nodup) (h : ∀ x, x ∈ l ↔ x ∈ m) : l.Perm m := by
  classical
  induction l generalizing m with
  | nil =>
    have : m = [] := by
      rcases m with _ | ⟨y, t⟩
      · rfl
      · exact absurd ((h y).2 (by simp)) (by simp)
    rw [this]
  | cons x t ih =>
    have hx : x ∈ m := (h x).1 (by simp)
    have hxt := (List.nodup_cons.1 hl).1
    refine (List.Perm.cons x (ih (List.nodup_cons.1 hl).2 (hm.erase x) fun y => ?_)).trans (List.perm_cons_erase hx).symm
    rw [hm.mem_erase_iff, ← h y]
    constructor
    · intro hy; exact ⟨fun e => hxt (e ▸ hy), by simp [hy]⟩
    · rintro ⟨hne, hy⟩
      rcases List.mem_cons.1 hy with e | hy
      · exact absurd e hne
      · exact hy

section
variable {κ ε : Type} {kv : κ → Value} {ev : ε → Value} {P : Program} {k t e : TypeId}

/-- Block r walks over the map in block b, which holds M: pre has come, cnt are to come. -/
def WalkIs (kv : κ → Value) (ev : ε → Value) (w : World) (b r : Nat) (M pre : List (κ × ε)) (cnt : Nat) : Prop :=
  ∃ es clock since seen c0, w.heap[b]? = some (.map es clock) ∧ es.toList.map (fun e => (e.key, e.val)) = M.map (fun p => (kv p.1, ev p.2)) ∧ MapKept.Stamped es clock ∧ (M.map (·.1)).Nodup ∧
    w.heap[r]? = some (.mapIter (some b) since seen c0) ∧ (∀ x ∈ es.toList, x.born < since) ∧ since ≤ c0 ∧ since ≤ clock ∧ (leftOf es seen).size = cnt ∧
    pre.Nodup ∧ (∀ p ∈ pre, p ∈ M) ∧ ∀ (j : Nat) x p, es.toList[j]? = some x → M[j]? = some p → (seen.contains x.born = true ↔ p ∈ pre)

theorem WalkIs.map {w : World} {b r cnt : Nat} {M pre : List (κ × ε)} (h : WalkIs kv ev w b r M pre cnt) : MapIs kv ev w b M := by
  obtain ⟨es, c, _, _, _, h1, h2, h3, h4, _⟩ := h
  exact ⟨es, c, h1, h2, h3, h4⟩
theorem WalkIs.iter_walk {w : World} {b r cnt : Nat} {M pre : List (κ × ε)} (h : WalkIs kv ev w b r M pre cnt) : ∃ o : Obj, w.heap[r]? = some o ∧ o.isWalk = true := by
  obtain ⟨es, c, _, _, _, _, _, _, _, hr, _⟩ := h
  exact ⟨_, hr, rfl⟩
theorem WalkIs.left_eq {w : World} {b r cnt : Nat} {M pre : List (κ × ε)} (h : WalkIs kv ev w b r M pre cnt) : w.rangeLeft b r = cnt := by
  obtain ⟨es, c, _, _, _, hb, _, _, _, hr, _, _, _, hc, _⟩ := h
  simp only [World.rangeLeft, hb, hr]
  exact hc
theorem WalkIs.of_walks {w w' : World} {b r cnt : Nat} {M pre : List (κ × ε)} (h : WalkIs kv ev w b r M pre cnt) (hk : KeepsWalks w w') : WalkIs kv ev w' b r M pre cnt := by
  obtain ⟨es, c, s, sn, c0, hb, h2, h3, h4, hr, rest⟩ := h
  exact ⟨es, c, s, sn, c0, hk.same b _ hb rfl, h2, h3, h4, hk.same r _ hr rfl, rest⟩

theorem MapIs.range (ht : P.underlying t = some (.map k e)) {w : World} {b : Nat} {M : List (κ × ε)} (h : MapIs kv ev w b M) :
    ∃ w', (Instr.range t (.map (some b))).run P w = .ok (.pointer (some ⟨w.heap.size, 0, none⟩)) w' ∧ WalkIs kv ev w' b w.heap.size M [] M.length ∧ Ext none_ w w' ∧ w.grownBy w' none := by
  obtain ⟨es, clock, hb, hes, hst, hn⟩ := h
  refine ⟨_, run_range_map w t k e b es clock ht hb, ⟨es, clock, clock, #[], clock, blk_old hb _, hes, hst, hn, blk_new w _, hst.1, Nat.le_refl _, Nat.le_refl _, ?_, by simp, by simp, ?_⟩, Ext.alloc w _, World.grownBy_alloc w _ none⟩
  · have := congrArg List.length hes
    simp only [List.length_map, Array.length_toList] at this
    unfold leftOf
    rw [Array.filter_eq_self.2 (fun x _ => by simp)]
    exact this
  · intro j x p _ _; simp

theorem WalkIs.next {w : World} {b r cnt : Nat} {M pre : List (κ × ε)} (h : WalkIs kv ev w b r M pre cnt) (ty : TypeId) :
    (pre.Perm M ∧ (Instr.next (.pointer (some ⟨r, 0, none⟩)) false ty).run P w = .ok (.tuple #[.bool false]) w) ∨
    ∃ x v w' cnt', (x, v) ∈ M ∧ (x, v) ∉ pre ∧ pre.length < M.length ∧ (Instr.next (.pointer (some ⟨r, 0, none⟩)) false ty).run P w = .ok (.tuple #[.bool true, kv x, ev v]) w' ∧ WalkIs kv ev w' b r M (pre ++ [(x, v)]) cnt' ∧ cnt' < cnt ∧
      Ext (· = r) w w' ∧ w.grownBy w' (some r) ∧ (Instr.entry (.pointer (some ⟨r, 0, none⟩))).run P w' = .ok (.tuple #[kv x, ev v]) w' := by
  obtain ⟨es, clock, since, seen, c0, hb, hes, hst, hn, hr, hold, hsc, hsk, rfl, hpn, hsub, hseen⟩ := h
  have hMn : M.Nodup := by
    rw [List.Nodup, List.pairwise_map] at hn
    exact hn.imp fun hne e => hne (by rw [e])
  have hlen : es.toList.length = M.length := by simpa using congrArg List.length hes
  have hne : b ≠ r := by rintro rfl; rw [hb] at hr; cases hr
  have bn := ((MapKept.stamped_iff es clock).1 hst).2.1
  rcases run_next_at (P := P) w ty r b since c0 seen es clock hr hb hold hsc with ⟨h0, hrun⟩ | ⟨x, hx, w1, hal, hrun⟩
  · refine .inl ⟨perm_of_nodup hpn hMn fun p => ⟨hsub p, fun hp => ?_⟩, hrun⟩
    obtain ⟨j, hj⟩ := List.getElem?_of_mem hp
    have hjl := (List.getElem?_eq_some_iff.1 hj).1
    have hx : es.toList[j]? = some (es.toList[j]'(by omega)) := List.getElem?_eq_getElem _
    exact (hseen j _ p hx hj).1 (all_seen es seen h0 _ (List.getElem_mem _))
  · obtain ⟨hem, hns⟩ := mem_left hx
    obtain ⟨j, hj⟩ := List.getElem?_of_mem hem
    have hjl := (List.getElem?_eq_some_iff.1 hj).1
    obtain ⟨p, hp⟩ : ∃ p, M[j]? = some p := ⟨_, List.getElem?_eq_getElem (by omega)⟩
    have hpair : (x.key, x.val) = (kv p.1, ev p.2) := by
      have := congrArg (·[j]?) hes
      simp only [List.getElem?_map, hj, hp, Option.map_some] at this
      exact Option.some.inj this
    have hk1 : x.key = kv p.1 := (Prod.mk.inj hpair).1
    have hv1 : x.val = ev p.2 := (Prod.mk.inj hpair).2
    have hpm : p ∈ M := List.mem_of_getElem? hp
    have hpp : p ∉ pre := fun hm => by
      have := (hseen j x p hj hp).2 hm
      rw [hns] at this; cases this
    have hr1 : w1.heap[r]? = some (.mapIter (some b) since seen c0) := by rcases hal with rfl | rfl <;> exact hr
    have hb1 : w1.heap[b]? = some (.map es clock) := by rcases hal with rfl | rfl <;> exact hb
    have hset := MapKept.heap_set (o' := .mapIter (some b) since (seen.push x.born) clock) hr1
    have hb' : (setBlock w1 r (.mapIter (some b) since (seen.push x.born) clock)).heap[b]? = some (.map es clock) := (hset.2 b hne).trans hb1
    have hpn' : (pre ++ [p]).Nodup := by
      rw [List.nodup_append]
      exact ⟨hpn, by simp, fun a ha c hc => by simp at hc; subst hc; exact fun e => hpp (e ▸ ha)⟩
    have hsub' : ∀ q ∈ pre ++ [p], q ∈ M := fun q hq => by
      rcases List.mem_append.1 hq with hq | hq
      · exact hsub q hq
      · simp at hq; exact hq ▸ hpm
    refine .inr ⟨p.1, p.2, _, _, hpm, hpp, ?_, by rw [hrun, hk1, hv1], ⟨es, clock, since, seen.push x.born, clock, hb', hes, hst, hn, hset.1, hold, hsk, hsk, rfl, hpn', hsub', ?_⟩, left_shrinks es seen x hx, ?_, ?_, ?_⟩
    · classical
      have hle : (pre ++ [p]).length ≤ M.length := by
        have key : ∀ (l m : List (κ × ε)), l.Nodup → (∀ q ∈ l, q ∈ m) → l.length ≤ m.length := by
          intro l
          induction l with
          | nil => intro m _ _; simp
          | cons a t ih =>
            intro m hl hm
            have ham : a ∈ m := hm a (by simp)
            have hat := (List.nodup_cons.1 hl).1
            have := ih (m.erase a) (List.nodup_cons.1 hl).2 fun q hq => (List.mem_erase_of_ne (by rintro rfl; exact hat hq)).2 (hm q (by simp [hq]))
            rw [List.length_erase_of_mem ham] at this
            have : 0 < m.length := List.length_pos_of_mem ham
            simp only [List.length_cons]; omega
        exact key _ _ hpn' hsub'
      rw [List.length_append] at hle
      simp only [List.length_singleton] at hle
      omega
    · intro i y q hi hq
      rw [contains_push]
      by_cases hij : i = j
      · subst hij
        rw [hj] at hi; rw [hp] at hq
        cases hi; cases hq
        simp
      · have hyb : (y.born == x.born) = false := by
          simp only [beq_eq_false_iff_ne]
          intro e
          have hil := (List.getElem?_eq_some_iff.1 hi).1
          have h1 : (es.toList.map (·.born))[i]? = some y.born := by simp [hi]
          have h2 : (es.toList.map (·.born))[j]? = some x.born := by simp [hj]
          exact hij ((List.getElem?_inj (by simpa using hil) bn).1 (by rw [h1, h2, e]))
        have hqp : q ≠ p := fun e => by
          subst e
          exact hij ((List.getElem?_inj (List.getElem?_eq_some_iff.1 hq).1 hMn).1 (by rw [hq, hp]))
        rw [hyb, Bool.or_false, hseen i y q hi hq]
        simp [hqp]
    · rcases hal with rfl | rfl <;> exact ⟨rfl, rfl, rfl, by simp [setBlock], fun i _ hi => hset.2 i hi⟩
    · rcases hal with rfl | rfl <;> exact ⟨rfl, rfl, rfl, by simp [setBlock], fun i _ hi => hset.2 i (fun e1 => hi (by rw [e1]))⟩
    · rw [← hk1, ← hv1]
      exact run_entry_at _ r b since seen es clock x hset.1 hb' hem bn

section
variable {F : Fence} {n : Nat} {w : World} {ops : Array Oper} {rest : List Oper} {o : Oper} {a : Act} {Q : Exit → Act → World → Prop}

theorem wpListIn_range_is (hg : o.guard = none) (m : Operand) (hop : o.op = Op.range t m) (ht : P.underlying t = some (.map k e)) {b : Nat} {M : List (κ × ε)} (h : MapIs kv ev w b M) (hm : a.eval m = .map (some b))
    (hK : ∀ w', WalkIs kv ev w' b w.heap.size M [] M.length → Ext none_ w w' → w.grownBy w' none → wpListIn F n P ops Q rest (a.put o.dst (.pointer (some ⟨w.heap.size, 0, none⟩))) w') : wpListIn F n P ops Q (o :: rest) a w := by
  refine wpListIn_plain hg fun K' hK' => ?_
  obtain ⟨w', hrun, r1, r2, r3⟩ := MapIs.range ht h
  unfold Oper.wpIn
  refine ⟨?_, ?_⟩
  · simp [Oper.about, hop]
  · rw [Oper.semAt_plain F _ _ (by rw [hop]; intro c hc'; cases hc')]
    simp [execOp, hop, hm, hrun, Result.andThen]
    exact hK' _ _ (hK w' r1 r2 r3)

theorem wpListIn_next_is (hg : o.guard = none) (it : Operand) (hop : o.op = Op.next it false) {b r cnt : Nat} {M pre : List (κ × ε)} (hit : a.eval it = .pointer (some ⟨r, 0, none⟩)) (h : WalkIs kv ev w b r M pre cnt)
    (hDone : pre.Perm M → wpListIn F n P ops Q rest (a.put o.dst (.tuple #[.bool false])) w)
    (hMore : ∀ (x : κ) (v : ε) (w' : World) (cnt' : Nat), (x, v) ∈ M → (x, v) ∉ pre → pre.length < M.length → WalkIs kv ev w' b r M (pre ++ [(x, v)]) cnt' → cnt' < cnt → Ext (· = r) w w' → w.grownBy w' (some r) →
      (Instr.entry (.pointer (some ⟨r, 0, none⟩))).run P w' = .ok (.tuple #[kv x, ev v]) w' → wpListIn F n P ops Q rest (a.put o.dst (.tuple #[.bool true, kv x, ev v])) w') :
    wpListIn F n P ops Q (o :: rest) a w := by
  refine wpListIn_plain hg fun K' hK' => ?_
  unfold Oper.wpIn
  refine ⟨by simp [Oper.about, hop], ?_⟩
  rw [Oper.semAt_plain F _ _ (by rw [hop]; intro c hc'; cases hc')]
  rcases h.next (P := P) o.type with ⟨hp, hrun⟩ | ⟨x, v, w', cnt', h1, h2, h3, hrun, h4, h5, h6, h7, h8⟩
  · simp [execOp, hop, hit, hrun, Result.andThen]
    exact hK' _ _ (hDone hp)
  · simp [execOp, hop, hit, hrun, Result.andThen]
    exact hK' _ _ (hMore x v w' cnt' h1 h2 h3 h4 h5 h6 h7 h8)
end
end
end Go.Cw
