/- Laws on regions that draw their order, on worlds and on maps whose keys read as numbers of a list; they speak of no program; no condition but what each states. -/
import Derived.WalkKit
import Derived.WalkSpells
import Derived.WalkLawsBesides
import Derived.Deep.QuietTactic
import Derived.BigQuiet
import Derived.Maps.Keyed
import Derived.Maps.AppendAt
import Derived.Lib.Hide
import Derived.Tactics2
namespace Go.Cw
open Go

/-- Exits by panic are let in nowhere. -/
def NoPanic (Q : Exit → Act → World → Prop) : Exit → Act → World → Prop
  | .panic _, _, _ => False
  | e, a, w => Q e a w

/-- The chain of operations that write: behind each but the last the class holds. -/
def wpCh (P : Program) (ops : Array Oper) (C : World → Prop) (Q : Exit → Act → World → Prop) : List Oper → Act → World → Prop
  | [], a, w => Q .normal a w
  | [o], a, w => wpList P ops (Exit.then (fun a' w' => Q .normal a' w') (NoPanic Q)) [o] a w
  | o :: o' :: rest, a, w => wpList P ops (Exit.then (fun a' w' => C w' ∧ wpCh P ops C Q (o' :: rest) a' w') (NoPanic Q)) [o] a w

/-- A class of worlds, as a family. -/
structure Fam (F : World → Prop) where
  w : World
  h : F w

/-- One value, in every world of the family, and the world stays. -/
def quietV (P : Program) (F : World → Prop) (o : Oper) (a : Act) (K : Act → Prop) : Prop :=
  ∃ v, (∀ i : Fam F, (execOp a.eval o).run P i.w = .ok (.value v) i.w) ∧ K (a.put o.dst v)

def wpV (P : Program) (ops : Array Oper) (F : World → Prop) (K : Act → Prop) : List Oper → Act → Prop
  | [], a => K a
  | o :: rest, a => if Region.wanted o (yielded ops a.tmps) then quietV P F o a (wpV P ops F K rest) else wpV P ops F K rest (a.put o.dst undef)

attribute [go_sem] quietV

section
variable {P : Program} {ops : Array Oper} {md : Region.Mode} {F : World → Prop} {Q : Exit → Act → World → Prop} {L : Nat}

theorem wpV_nil {K : Act → Prop} {a : Act} (h : K a) : wpV P ops F K [] a := h
theorem wpV_step {K0 : Act → Prop} {a : Act} {o : Oper} {rest : List Oper}
    (h : ∀ K : Act → Prop, (∀ a, wpV P ops F K0 rest a → K a) → if Region.wanted o (yielded ops a.tmps) then quietV P F o a K else K (a.put o.dst undef)) : wpV P ops F K0 (o :: rest) a :=
  h _ (fun _ h => h)

def YieldsV (P : Program) (ops : Array Oper) (F : World → Prop) (o : Oper) (v : Value) (a : Act) : Prop :=
  (Region.wanted o (yielded ops a.tmps) = true ∧ ∀ w, F w → (execOp a.eval o).run P w = .ok (.value v) w) ∨
  (Region.wanted o (yielded ops a.tmps) = false ∧ v = undef)

theorem YieldsV.of_same {o : Oper} {v : Value} {a a' : Act} (hy : YieldsV P ops F o v a) (he : execOp a'.eval o = execOp a.eval o)
    (hw : Region.wanted o (yielded ops a'.tmps) = Region.wanted o (yielded ops a.tmps)) : YieldsV P ops F o v a' := by
  unfold YieldsV at *
  rw [he, hw]
  exact hy

theorem yieldsV_of {o : Oper} {a : Act} {K : Act → Prop} {rest : List Oper} (h : wpV P ops F K (o :: rest) a) : ∃ v, YieldsV P ops F o v a ∧ wpV P ops F K rest (a.put o.dst v) := by
  unfold wpV at h
  by_cases hw : Region.wanted o (yielded ops a.tmps) = true
  · rw [if_pos hw] at h
    obtain ⟨v, h1, h2⟩ := h
    exact ⟨v, .inl ⟨hw, fun w hF => h1 ⟨w, hF⟩⟩, h2⟩
  · rw [if_neg hw] at h
    exact ⟨undef, .inr ⟨by simpa using hw, rfl⟩, h⟩

def wpAnyC (P : Program) (md : Region.Mode) (ops : Array Oper) (C : World → Prop) (Q : Exit → Act → World → Prop) (L : Nat) : Nat → Array Bool → Act → World → Prop
  | 0, listed, a, w => Region.ready md ops listed = [] ∧ Q .normal a w
  | fuel + 1, listed, a, w =>
    (Region.ready md ops listed = [] → Q .normal a w) ∧
    ∀ i ∈ Region.ready md ops listed, wpOp P ops (NoPanic Q) i (fun a' w' => (i = L ∨ C w') ∧ wpAnyC P md ops C Q L fuel (listed.setIfInBounds i true) a' w') a w

theorem upon_noPanic {o : Oper} {a : Act} {K : Act → World → Prop} {r : Result Next} (h : o.upon P a K (NoPanic Q) r) : o.upon P a K Q r := by
  cases r with
  | ok n w' =>
    cases n <;> simp only [Oper.upon] at h ⊢ <;> try exact h
    exact Calls.mono h fun e w'' he => by
      cases e with
      | returned u => exact he
      | panicked c => exact he.elim
      | outgrown => exact he
  | halt x w' => cases x <;> simp only [Oper.upon] at h ⊢ <;> exact h.elim

theorem wpOp_noPanic {i : Nat} {a : Act} {w : World} {K : Act → World → Prop} (h : wpOp P ops (NoPanic Q) i K a w) : wpOp P ops Q i K a w := by
  unfold wpOp at *
  split
  · rename_i ho; simpa only [ho] using h
  · rename_i o ho
    simp only [ho] at h
    split
    · rename_i hw
      simp only [hw, if_true] at h
      exact h.imp upon_noPanic id
    · rename_i hw; simpa [hw] using h

theorem wpAny_of_C : ∀ (fuel : Nat) (listed : Array Bool) (a : Act) (w : World), wpAnyC P md ops F Q L fuel listed a w → wpAny P md ops Q fuel listed a w
  | 0, _, _, _, h => h
  | fuel + 1, _, _, _, h => ⟨h.1, fun i hi => wpOp_mono (fun _ _ h' => wpAny_of_C fuel _ _ _ h'.2) (wpOp_noPanic (h.2 i hi))⟩

/-- A quiet operation's own step. -/
theorem wpOp_of_yields {i : Nat} {oi : Oper} {v : Value} {a : Act} {w : World} (hi : ops[i]? = some oi) (hy : YieldsV P ops F oi v a) (hC : F w) {K : Act → World → Prop} (h : K (a.put oi.dst v) w) : wpOp P ops (NoPanic Q) i K a w := by
  unfold wpOp
  simp only [hi]
  rcases hy with ⟨hw, hv⟩ | ⟨hw, rfl⟩
  · simp only [hw, if_true, Oper.wp, hv w hC, Oper.upon]; exact .inl h
  · simp only [hw, Bool.false_eq_true, if_false]; exact h

theorem wpOp_putC {j : Nat} {oi oj : Oper} {v : Value} (hj : ops[j]? = some oj) (hap : oi.apart ops oj = true)
    (hsi : ∀ cs b, oi.op ≠ .select cs b) (hsj : ∀ cs b, oj.op ≠ .select cs b) {K : Act → World → Prop} {a : Act} {w : World}
    (hy : YieldsV P ops F oi v a) (h : wpOp P ops (NoPanic Q) j K (a.put oi.dst v) w) :
    wpOp P ops (NoPanic Q) j (fun a' w' => YieldsV P ops F oi v a' ∧ K (a'.put oi.dst v) w') a w := by
  obtain ⟨h1, h2, h3⟩ := Oper.apart_spec hap
  have keep : ∀ (a : Act), YieldsV P ops F oi v a → ∀ u, YieldsV P ops F oi v (a.put oj.dst u) := fun a hy u =>
    hy.of_same (execOp_put oi hsi a oj.dst u h3) (wanted_put oi a oj.dst u h3)
  have keepD : ∀ d, YieldsV P ops F oi v { a with defers := d :: a.defers } := fun d => hy.of_same rfl rfl
  unfold wpOp at *
  simp only [hj] at *
  rw [wanted_put oj a oi.dst v h1] at h
  split
  · rename_i hw
    simp only [hw, if_true] at h
    rcases h with h | ⟨hasks, hlets⟩
    case inr => exact .inr ⟨by unfold Oper.asks at *; rw [execOp_put oj hsj a oi.dst v h1] at hasks; exact hasks, hlets⟩
    refine .inl ?_
    unfold Oper.wp at *
    rw [execOp_put oj hsj a oi.dst v h1] at h
    generalize (execOp a.eval oj).run P w = r at *
    cases r with
    | ok n w' =>
      cases n <;> simp only [Oper.upon] at h ⊢
      case value u => exact ⟨keep a hy u, by rw [← Act.put_comm a v u h2]; exact h⟩
      case skip => exact ⟨keep a hy _, by rw [← Act.put_comm a v undef h2]; exact h⟩
      case defer d =>
        refine ⟨keep _ (keepD d) _, ?_⟩
        rw [← Act.put_comm _ v undef h2, ← Act.put_defers]
        exact h
      case enter f args =>
        refine Calls.mono h fun e w'' he => ?_
        cases e with
        | returned u => exact ⟨keep a hy u, by rw [← Act.put_comm a v u h2]; exact he⟩
        | panicked c => exact he.elim
        | outgrown => exact he
      case row row args => exact Rows.mono h fun u w'' he => ⟨keep a hy u, by rw [← Act.put_comm a v u h2]; exact he⟩
    | halt x w' => cases x <;> simp only [Oper.upon] at h ⊢ <;> exact h.elim
  · rename_i hw
    simp only [hw] at h
    exact ⟨keep a hy _, by rw [← Act.put_comm a v undef h2]; exact h⟩

/-- Does operation k wait for operation i, itself or through others? -/
def reachB (md : Region.Mode) (ops : Array Oper) (i : Nat) : Nat → Nat → Bool
  | 0, _ => false
  | f + 1, k => match ops[k]? with
    | some ok => ok.after.any fun e => Region.binds md e && (e.on == i || reachB md ops i f e.on)
    | none => false

/-- What is listed has what it waits for listed. -/
def Closed (md : Region.Mode) (ops : Array Oper) (listed : Array Bool) : Prop :=
  ∀ k ok, ops[k]? = some ok → listed.getD k false = true → ∀ e ∈ ok.after, Region.binds md e = true → listed.getD e.on false = true

theorem reach_listed {i : Nat} {listed : Array Bool} (hc : Closed md ops listed) : ∀ (f k : Nat) (ok : Oper), ops[k]? = some ok → (∀ e ∈ ok.after, Region.binds md e = true → listed.getD e.on false = true) →
    reachB md ops i f k = true → listed.getD i false = true
  | 0, _, _, _, _, h => by simp [reachB] at h
  | f + 1, k, ok, hk, hall, h => by
    simp only [reachB, hk] at h
    obtain ⟨e, he, hb⟩ := Array.any_eq_true'.1 h
    simp only [Bool.and_eq_true, Bool.or_eq_true, beq_iff_eq] at hb
    have h1 := hall e he hb.1
    rcases hb.2 with h2 | h2
    · rw [← h2]; exact h1
    · cases ho : ops[e.on]? with
      | none => cases f <;> simp [reachB, ho] at h2
      | some oe => exact reach_listed hc f e.on oe ho (hc e.on oe ho h1) h2

theorem Closed.set {listed : Array Bool} {j : Nat} (hc : Closed md ops listed) (hj : j ∈ Region.ready md ops listed) : Closed md ops (listed.setIfInBounds j true) := by
  intro k ok hk hl e he hb
  refine getD_set_true ?_
  by_cases hjk : j = k
  · subst hjk
    obtain ⟨_, o, ho, hall⟩ := mem_ready.1 hj
    rw [hk] at ho
    cases ho
    exact hall e he hb
  · rw [getD_set_ne false hjk] at hl
    exact hc k ok hk hl e he hb

/-- A quiet operation that may come up now may be taken first. -/
theorem wpAnyC_first {i : Nat} {oi : Oper} {v : Value} (hi : ops[i]? = some oi) (hsel : ∀ (j : Nat) (o : Oper) cs b, ops[j]? = some o → o.op ≠ .select cs b)
    (hL : i = L ∨ ops[L]? = none ∨ reachB md ops i ops.size L = true) :
    ∀ (fuel : Nat) (listed : Array Bool) (a : Act) (w : World), Closed md ops listed →
      (∀ j oj, ops[j]? = some oj → j ≠ i → listed.getD j true = false → (∀ e ∈ oj.after, Region.binds md e = true → e.on ≠ i) → oi.apart ops oj = true) →
      i ∈ Region.ready md ops listed → YieldsV P ops F oi v a → F w →
      wpAnyC P md ops F Q L fuel (listed.setIfInBounds i true) (a.put oi.dst v) w → wpAnyC P md ops F Q L (fuel + 1) listed a w := by
  intro fuel
  induction fuel with
  | zero =>
    intro listed a w _ _ hr hy hC H
    refine ⟨fun h => (by rw [h] at hr; cases hr), fun j hj => ?_⟩
    by_cases hji : j = i
    · subst hji; exact wpOp_of_yields hi hy hC ⟨.inr hC, H⟩
    · have := ready_mono hj hji
      rw [H.1] at this
      cases this
  | succ fuel ih =>
    intro listed a w hcl hfree hr hy hC H
    refine ⟨fun h => (by rw [h] at hr; cases hr), fun j hj => ?_⟩
    by_cases hji : j = i
    · subst hji; exact wpOp_of_yields hi hy hC ⟨.inr hC, H⟩
    · have h1 := H.2 j (ready_mono hj hji)
      obtain ⟨hjun, oj, hoj, hall⟩ := mem_ready.1 hj
      have hnot : ∀ e ∈ oj.after, Region.binds md e = true → e.on ≠ i := fun e he hb heq => by
        have h1 := hall e he hb
        have h0 := (mem_ready.1 hr).1
        rw [heq] at h1
        rcases Nat.lt_or_ge i listed.size with h' | h'
        · simp [h'] at h0 h1; rw [h0] at h1; cases h1
        · simp [Array.getElem?_eq_none h'] at h1
      have hjL : j ≠ L := fun e => by
        subst e
        rcases hL with hL | hL | hL
        · exact hji hL.symm
        · rw [hoj] at hL; cases hL
        · have h1 := reach_listed hcl _ _ _ hoj hall hL
          have h0 := (mem_ready.1 hr).1
          rcases Nat.lt_or_ge i listed.size with h' | h'
          · simp [h'] at h0 h1; rw [h0] at h1; cases h1
          · simp [Array.getElem?_eq_none h'] at h1
      have hfree' : ∀ k ok, ops[k]? = some ok → k ≠ i → (listed.setIfInBounds j true).getD k true = false →
          (∀ e ∈ ok.after, Region.binds md e = true → e.on ≠ i) → oi.apart ops ok = true := fun k ok hk hki hun hno => by
        refine hfree k ok hk hki ?_ hno
        by_cases hjk : j = k
        · subst hjk; exact hjun
        · rw [getD_set_ne true hjk] at hun; exact hun
      have h2 := wpOp_putC hoj (hfree j oj hoj hji hjun hnot) (fun cs b => hsel i oi cs b hi) (fun cs b => hsel j oj cs b hoj) hy h1
      refine wpOp_mono (fun a' w' h3 => ?_) h2
      have hw' : F w' := h3.2.1.resolve_left hjL
      refine ⟨.inr hw', ih (listed.setIfInBounds j true) a' w' (hcl.set hj) hfree' (ready_mono hr (Ne.symm hji)) h3.1 hw' ?_⟩
      rw [Array.setIfInBounds_comm _ _ hji]
      exact h3.2.2

/-- The check over the chain. -/
def chainB (md : Region.Mode) (ops : Array Oper) (L : Nat) : List Nat → Array Bool → Bool
  | [], listed => (Region.ready md ops listed).isEmpty
  | c :: cs, listed => Region.ready md ops listed == [c] && (!cs.isEmpty || c == L) && chainB md ops L cs (listed.setIfInBounds c true)

/-- The check over a region: the quiet ones first, in this order, then the chain. -/
def hoistB (md : Region.Mode) (ops : Array Oper) (L : Nat) (cs : List Nat) : List Nat → Array Bool → Bool
  | i :: qs, listed => (Region.ready md ops listed).contains i && Region.free md ops listed i &&
      (i == L || ops[L]?.isNone || reachB md ops i ops.size L) && hoistB md ops L cs qs (listed.setIfInBounds i true)
  | [], listed => chainB md ops L cs listed

theorem wpOp_of_list {i : Nat} {o : Oper} {K : Act → World → Prop} {Q' : Exit → Act → World → Prop} {a : Act} {w : World} (hi : ops[i]? = some o) (hout : LetsOut Q' → LetsOut Q) (hpan : ∀ c a w, ¬ Q' (.panic c) a w)
    (h : wpList P ops (Exit.then K Q') [o] a w) : wpOp P ops (NoPanic Q) i K a w := by
  unfold wpList at h
  unfold wpOp
  simp only [hi]
  split
  · rename_i hw
    rw [if_pos hw] at h
    rcases h with h | ⟨hasks, a0, w0, hq⟩
    · refine .inl ?_
      unfold Oper.wp at *
      generalize (execOp a.eval o).run P w = r at *
      cases r with
      | ok n w' =>
        cases n <;> simp only [Oper.upon] at h ⊢ <;> try exact h
        exact Calls.mono h fun e w'' he => by
          cases e with
          | returned u => exact he
          | panicked c => exact absurd he (hpan c _ _)
          | outgrown =>
            obtain ⟨a0, w0, hq⟩ := he
            obtain ⟨a1, w1, hq1⟩ := hout ⟨a0, w0, hq⟩
            exact ⟨a1, w1, hq1⟩
      | halt x w' =>
        cases x <;> simp only [Oper.upon] at h ⊢
        exact absurd h (hpan _ _ _)
    · refine .inr ⟨hasks, ?_⟩
      obtain ⟨a1, w1, hq1⟩ := hout ⟨a0, w0, hq⟩
      exact ⟨a1, w1, hq1⟩
  · rename_i hw
    rw [if_neg hw] at h
    exact h

theorem letsOut_noPanic (h : LetsOut (NoPanic Q)) : LetsOut Q := h

theorem wpAnyC_chain : ∀ (cs : List Nat) (fuel : Nat) (listed : Array Bool) (a : Act) (w : World), cs.length ≤ fuel →
    chainB md ops L cs listed = true → wpCh P ops F Q (cs.filterMap (ops[·]?)) a w → wpAnyC P md ops F Q L fuel listed a w
  | [], fuel, listed, a, w, hl, hB, h => by
    simp only [chainB, List.isEmpty_iff] at hB
    cases fuel with
    | zero => exact ⟨hB, h⟩
    | succ fuel => exact ⟨fun _ => h, by rw [hB]; simp⟩
  | c :: cs, fuel, listed, a, w, hl, hB, h => by
    obtain ⟨fuel, rfl⟩ : ∃ f, fuel = f + 1 := ⟨fuel - 1, by simp at hl; omega⟩
    simp only [chainB, Bool.and_eq_true, beq_iff_eq] at hB
    obtain ⟨⟨hr, hcL⟩, hB'⟩ := hB
    obtain ⟨_, o, ho, _⟩ := mem_ready.1 (show c ∈ Region.ready md ops listed by rw [hr]; simp)
    refine ⟨fun h0 => (by rw [h0] at hr; cases hr), fun j hj => ?_⟩
    rw [hr] at hj
    obtain rfl : j = c := by simpa using hj
    rw [List.filterMap_cons_some ho] at h
    cases cs with
    | nil =>
      simp only [List.isEmpty_nil, Bool.not_true, Bool.false_or, beq_iff_eq] at hcL
      simp only [List.filterMap_nil, wpCh] at h
      exact wpOp_mono (fun a' w' h' => ⟨.inl hcL, wpAnyC_chain [] fuel _ a' w' (by simp) hB' h'⟩) (wpOp_of_list ho letsOut_noPanic (fun _ _ _ h => h) h)
    | cons c' cs =>
      have hc' : ∃ o', ops[c']? = some o' := by
        simp only [chainB, Bool.and_eq_true, beq_iff_eq] at hB'
        obtain ⟨_, o', ho', _⟩ := mem_ready.1 (show c' ∈ Region.ready md ops (listed.setIfInBounds j true) by rw [hB'.1.1]; simp)
        exact ⟨o', ho'⟩
      obtain ⟨o', ho'⟩ := hc'
      rw [List.filterMap_cons_some ho'] at h
      simp only [wpCh] at h
      refine wpOp_mono (fun a' w' h' => ⟨.inr h'.1, ?_⟩) (wpOp_of_list ho letsOut_noPanic (fun _ _ _ h => h) h)
      refine wpAnyC_chain (c' :: cs) fuel _ a' w' (by simp at hl ⊢; omega) hB' ?_
      rw [List.filterMap_cons_some ho']
      exact h'.2

theorem wpAnyC_hoist (hs : Region.noSelect ops = true) (cs : List Nat) : ∀ (qs : List Nat) (fuel : Nat) (listed : Array Bool) (a : Act) (w : World), qs.length + cs.length ≤ fuel → Closed md ops listed →
    hoistB md ops L cs qs listed = true → F w → wpV P ops F (fun a' => wpCh P ops F Q (cs.filterMap (ops[·]?)) a' w) (qs.filterMap (ops[·]?)) a →
    wpAnyC P md ops F Q L fuel listed a w
  | i :: qs, fuel, listed, a, w, hl, hcl, hB, hF, h => by
    obtain ⟨fuel, rfl⟩ : ∃ f, fuel = f + 1 := ⟨fuel - 1, by simp at hl; omega⟩
    simp only [hoistB, Bool.and_eq_true] at hB
    obtain ⟨⟨⟨hr, hf⟩, hLb⟩, hB'⟩ := hB
    have hr' : i ∈ Region.ready md ops listed := by simpa using hr
    obtain ⟨_, o, ho, _⟩ := mem_ready.1 hr'
    rw [List.filterMap_cons_some ho] at h
    obtain ⟨v, hy, hK⟩ := yieldsV_of h
    refine wpAnyC_first ho (Region.noSelect_spec hs) ?_ fuel listed a w hcl (Region.free_spec ho hf) hr' hy hF
      (wpAnyC_hoist hs cs qs fuel _ _ _ (by simp at hl ⊢; omega) (hcl.set hr') hB' hF hK)
    simp only [Bool.or_eq_true, beq_iff_eq] at hLb
    rcases hLb with (hLb | hLb) | hLb
    · exact .inl hLb
    · exact .inr (.inl (by simpa using hLb))
    · exact .inr (.inr hLb)
  | [], fuel, listed, a, w, hl, _, hB, hF, h => wpAnyC_chain cs fuel listed a w (by simpa using hl) hB h

/-- **A REGION THAT DRAWS ITS ORDER**: the quiet operations first, then the chain, in the order of the text. -/
theorem wp_region_hoist {id : Nat} {Q : Exit → Act → World → Prop} {a : Act} {w : World} {l : List Oper} (F : World → Prop) (L : Nat) (qs cs : List Nat) (hm : P.follows .mixedOrders = true)
    (hB : (Region.noSelect l.toArray && (qs.length + cs.length == l.length) && hoistB .any l.toArray L cs qs (Array.replicate l.length false)) = true) (hF : F w.drew)
    (h : wpV P l.toArray F (fun a' => wpCh P l.toArray F Q (cs.filterMap (l[·]?)) a' w.drew) (qs.filterMap (l[·]?)) a) : (Code.region id l.toArray true).wp P Q a w := by
  simp only [Bool.and_eq_true, beq_iff_eq] at hB
  refine wp_region_any hm (wpAny_of_C _ _ _ _ (wpAnyC_hoist (L := L) hB.1.1 cs qs _ _ _ _ ?_ ?_ ?_ hF ?_))
  · simp [hB.1.2]
  · intro k ok hk hl
    rcases Nat.lt_or_ge k l.length with h' | h'
    · simp [h'] at hl
    · simp [h'] at hl
  · simpa using hB.2
  · simpa using h

end
end Go.Cw
namespace Go.Cw
open Go Go.RowKit

/-! ### worlds -/

/-- w' is w but for blocks of F, and has perhaps more. -/
structure Ext (F : Nat → Prop) (w w' : World) : Prop where
  os : w'.os = w.os
  tape : w'.tape = w.tape
  output : w'.output = w.output
  size : w.heap.size ≤ w'.heap.size
  block : ∀ k, k < w.heap.size → ¬ F k → w'.heap[k]? = w.heap[k]?

def none_ : Nat → Prop := fun _ => False

theorem Ext.refl (F : Nat → Prop) (w : World) : Ext F w w := ⟨rfl, rfl, rfl, Nat.le_refl _, fun _ _ _ => rfl⟩

theorem Ext.trans {F G : Nat → Prop} {a b c : World} (h : Ext F a b) (k : Ext G b c) (hG : ∀ i, i < a.heap.size → G i → F i) : Ext F a c :=
  ⟨k.os.trans h.os, k.tape.trans h.tape, k.output.trans h.output, Nat.le_trans h.size k.size,
    fun i hi hF => (k.block i (Nat.lt_of_lt_of_le hi h.size) (fun hg => hF (hG i hi hg))).trans (h.block i hi hF)⟩

theorem Ext.mono {F G : Nat → Prop} {a b : World} (h : Ext F a b) (hG : ∀ i, i < a.heap.size → F i → G i) : Ext G a b :=
  ⟨h.os, h.tape, h.output, h.size, fun i hi hg => h.block i hi (fun hf => hg (hG i hi hf))⟩

/-- Onto what only adds. -/
theorem Ext.grow {F : Nat → Prop} {a b c : World} (h : Ext F a b) (k : Ext none_ b c) : Ext F a c := h.trans k fun _ _ h => h.elim

theorem Ext.blk {F : Nat → Prop} {w w' : World} (h : Ext F w w') {b : Nat} {o : Obj} (hb : w.heap[b]? = some o) (hF : ¬ F b) : w'.heap[b]? = some o :=
  (h.block b (Array.getElem?_eq_some_iff.1 hb).1 hF).trans hb

theorem Ext.blk0 {w w' : World} (h : Ext none_ w w') {b : Nat} {o : Obj} (hb : w.heap[b]? = some o) : w'.heap[b]? = some o := h.blk hb id

theorem blk_lt {w : World} {b : Nat} {o : Obj} (hb : w.heap[b]? = some o) : b < w.heap.size := (Array.getElem?_eq_some_iff.1 hb).1

theorem Ext.alloc (w : World) (o : Obj) : Ext none_ w (w.alloc o) := ⟨rfl, rfl, rfl, by simp, fun k hk _ => Below.heap_alloc w o k hk⟩
theorem Ext.drew (w : World) : Ext none_ w w.drew := ⟨rfl, rfl, rfl, Nat.le_refl _, fun _ _ _ => rfl⟩
theorem Ext.drewN (w : World) (n : Nat) : Ext none_ w (w.drewN n) := ⟨rfl, rfl, rfl, Nat.le_refl _, fun _ _ _ => rfl⟩
theorem Ext.setCell (w : World) (a : Addr) (v : Value) : Ext (· = a.block) w (w.setCell a v) :=
  ⟨rfl, rfl, rfl, by simp [World.setCell], fun k _ hk => Below.heap_setCell w a v k hk⟩
theorem Ext.grown {w w' : World} {row : Option Nat} (h : w.grownBy w' row) : Ext (fun k => some k = row) w w' := ⟨h.os, h.tape, h.output, h.size, fun k hk hr => h.block k hk hr⟩
theorem Ext.below {B : Nat} {w w' : World} (h : Below B w w') : Ext (fun k => B ≤ k) w w' := ⟨h.os, h.tape, h.output, h.size, fun k _ hr => h.block k (by omega)⟩
theorem Ext.toBelow {w w' : World} (h : Ext none_ w w') : Below w.heap.size w w' := ⟨h.os, h.tape, h.output, h.size, fun k hk => h.block k hk id⟩

theorem blk_new (w : World) (o : Obj) : (w.alloc o).heap[w.heap.size]? = some o := heap_alloc_new w o
theorem blk_old {w : World} {b : Nat} {o : Obj} (hb : w.heap[b]? = some o) (o' : Obj) : (w.alloc o').heap[b]? = some o := (Ext.alloc w o').blk0 hb
theorem blk_set {w : World} {b : Nat} {c : Array Value} {e : TypeId} {f : Nat × Nat} (hb : w.heap[b]? = some (.cells c e f)) (i : Nat) (v : Value) :
    (w.setCell ⟨b, i, none⟩ v).heap[b]? = some (.cells (c.setIfInBounds i v) e f) := by
  simp [World.setCell, Array.getElem?_modify, hb]
theorem blk_set_ne {w : World} {b b' : Nat} {o : Obj} (hb : w.heap[b]? = some o) (hne : b ≠ b') (i : Nat) (v : Value) : (w.setCell ⟨b', i, none⟩ v).heap[b]? = some o :=
  (Below.heap_setCell w _ v b hne).trans hb

/-! ### what a block gives the walk -/
theorem cell_of {w : World} {b : Nat} {c : Array Value} {e : TypeId} {f : Nat × Nat} (hb : w.heap[b]? = some (.cells c e f)) (i : Nat) : w.cell? ⟨b, i, none⟩ = c[i]? := by
  simp [World.cell?, hb]
theorem frozen_of {w : World} {b : Nat} {c : Array Value} {e : TypeId} (hb : w.heap[b]? = some (.cells c e (0, 0))) (i : Nat) : w.frozen? ⟨b, i, none⟩ = false := by
  simp [World.frozen?, hb]

/-- a row of cells, as four facts -/
theorem cells4 {w : World} {b : Nat} {c0 c1 c2 c3 : Value} {e : TypeId} {f : Nat × Nat} (hb : w.heap[b]? = some (.cells #[c0, c1, c2, c3] e f)) :
    w.cell? ⟨b, 0, none⟩ = some c0 ∧ w.cell? ⟨b, 1, none⟩ = some c1 ∧ w.cell? ⟨b, 2, none⟩ = some c2 ∧ w.cell? ⟨b, 3, none⟩ = some c3 := by
  refine ⟨?_, ?_, ?_, ?_⟩ <;> rw [cell_of hb] <;> rfl
theorem cells2 {w : World} {b : Nat} {c0 c1 : Value} {e : TypeId} {f : Nat × Nat} (hb : w.heap[b]? = some (.cells #[c0, c1] e f)) :
    w.cell? ⟨b, 0, none⟩ = some c0 ∧ w.cell? ⟨b, 1, none⟩ = some c1 := by
  refine ⟨?_, ?_⟩ <;> rw [cell_of hb] <;> rfl

end Go.Cw
namespace Go.Cw
open Go Go.RowKit
open Go.Maps (Keyed)

/-! ### maps, as lists of what they hold, in the order in which the keys came -/
section
variable {κ ε : Type} [DecidableEq κ]

def mget : List (κ × ε) → κ → Option ε
  | [], _ => none
  | (x, v) :: r, k => if x = k then some v else mget r k
def mput : List (κ × ε) → κ → ε → List (κ × ε)
  | [], k, v => [(k, v)]
  | (x, u) :: r, k, v => if x = k then (k, v) :: r else (x, u) :: mput r k v
def mdel : List (κ × ε) → κ → List (κ × ε)
  | [], _ => []
  | (x, u) :: r, k => if x = k then r else (x, u) :: mdel r k

theorem mget_none {M : List (κ × ε)} {k : κ} (h : ∀ p ∈ M, p.1 ≠ k) : mget M k = none := by
  induction M with
  | nil => rfl
  | cons p r ih =>
    obtain ⟨x, v⟩ := p
    rw [mget, if_neg (h (x, v) (by simp)), ih fun q hq => h q (by simp [hq])]
theorem mget_eq_none {M : List (κ × ε)} {k : κ} : mget M k = none ↔ k ∉ M.map (·.1) := by
  induction M with
  | nil => simp [mget]
  | cons p r ih =>
    obtain ⟨x, v⟩ := p
    simp only [mget, List.map_cons, List.mem_cons, not_or]
    split
    · rename_i h; subst h; simp
    · rename_i h; rw [ih]; exact ⟨fun h' => ⟨fun e => h e.symm, h'⟩, fun h' => h'.2⟩
theorem mget_some {M : List (κ × ε)} {k : κ} {v : ε} (hn : (M.map (·.1)).Nodup) {j : Nat} (h : M[j]? = some (k, v)) : mget M k = some v := by
  induction M generalizing j with
  | nil => simp at h
  | cons p r ih =>
    obtain ⟨x, u⟩ := p
    simp only [List.map_cons, List.nodup_cons] at hn
    cases j with
    | zero => simp at h; obtain ⟨rfl, rfl⟩ := h; simp [mget]
    | succ j =>
      simp only [List.getElem?_cons_succ] at h
      have : x ≠ k := fun e => hn.1 (e ▸ List.mem_map.2 ⟨(k, v), List.mem_of_getElem? h, rfl⟩)
      rw [mget, if_neg this]
      exact ih hn.2 h
theorem mem_of_mget {M : List (κ × ε)} {k : κ} {v : ε} (h : mget M k = some v) : (k, v) ∈ M := by
  induction M with
  | nil => simp [mget] at h
  | cons p r ih =>
    obtain ⟨x, u⟩ := p
    simp only [mget] at h
    split at h
    · rename_i e; subst e; simp at h; subst h; simp
    · exact List.mem_cons_of_mem _ (ih h)
theorem mget_mem {M : List (κ × ε)} {k : κ} {v : ε} (hn : (M.map (·.1)).Nodup) (h : (k, v) ∈ M) : mget M k = some v := by
  obtain ⟨j, hj⟩ := List.getElem?_of_mem h
  exact mget_some hn hj

theorem mput_new {M : List (κ × ε)} {k : κ} {v : ε} (h : ∀ p ∈ M, p.1 ≠ k) : mput M k v = M ++ [(k, v)] := by
  induction M with
  | nil => rfl
  | cons p r ih =>
    obtain ⟨x, u⟩ := p
    rw [mput, if_neg (h (x, u) (by simp)), ih fun q hq => h q (by simp [hq])]; rfl
theorem mput_old {M : List (κ × ε)} {k : κ} {u v : ε} (hn : (M.map (·.1)).Nodup) {j : Nat} (h : M[j]? = some (k, u)) : mput M k v = M.set j (k, v) := by
  induction M generalizing j with
  | nil => simp at h
  | cons p r ih =>
    obtain ⟨x, y⟩ := p
    simp only [List.map_cons, List.nodup_cons] at hn
    cases j with
    | zero => simp at h; obtain ⟨rfl, rfl⟩ := h; simp [mput]
    | succ j =>
      simp only [List.getElem?_cons_succ] at h
      have : x ≠ k := fun e => hn.1 (e ▸ List.mem_map.2 ⟨(k, u), List.mem_of_getElem? h, rfl⟩)
      rw [mput, if_neg this, ih hn.2 h]; rfl
theorem mdel_new {M : List (κ × ε)} {k : κ} (h : ∀ p ∈ M, p.1 ≠ k) : mdel M k = M := by
  induction M with
  | nil => rfl
  | cons p r ih =>
    obtain ⟨x, u⟩ := p
    rw [mdel, if_neg (h (x, u) (by simp)), ih fun q hq => h q (by simp [hq])]
theorem mdel_old {M : List (κ × ε)} {k : κ} {u : ε} (hn : (M.map (·.1)).Nodup) {j : Nat} (h : M[j]? = some (k, u)) : mdel M k = M.eraseIdx j := by
  induction M generalizing j with
  | nil => simp at h
  | cons p r ih =>
    obtain ⟨x, y⟩ := p
    simp only [List.map_cons, List.nodup_cons] at hn
    cases j with
    | zero => simp at h; obtain ⟨rfl, rfl⟩ := h; simp [mdel]
    | succ j =>
      simp only [List.getElem?_cons_succ] at h
      have : x ≠ k := fun e => hn.1 (e ▸ List.mem_map.2 ⟨(k, u), List.mem_of_getElem? h, rfl⟩)
      rw [mdel, if_neg this, ih hn.2 h]; rfl

theorem mput_keys (M : List (κ × ε)) (k : κ) (v : ε) : (mput M k v).map (·.1) = if k ∈ M.map (·.1) then M.map (·.1) else M.map (·.1) ++ [k] := by
  induction M with
  | nil => simp [mput]
  | cons p r ih =>
    obtain ⟨x, u⟩ := p
    simp only [mput]
    split
    · rename_i h; subst h; simp
    · rename_i h
      have h' : ¬ k = x := fun e => h e.symm
      simp only [List.map_cons, ih, List.mem_cons, h', false_or]
      split <;> simp
theorem mput_nodup {M : List (κ × ε)} (hn : (M.map (·.1)).Nodup) (k : κ) (v : ε) : ((mput M k v).map (·.1)).Nodup := by
  rw [mput_keys]
  split
  · exact hn
  · rename_i h
    rw [List.nodup_append]
    exact ⟨hn, by simp, fun a ha b hb => by simp at hb; subst hb; exact fun e => h (e ▸ ha)⟩
theorem mget_put (M : List (κ × ε)) (k : κ) (v : ε) (x : κ) : mget (mput M k v) x = if x = k then some v else mget M x := by
  induction M with
  | nil =>
    simp only [mput, mget]
    by_cases h : k = x
    · subst h; simp
    · rw [if_neg h, if_neg fun e => h e.symm]
  | cons p r ih =>
    obtain ⟨y, u⟩ := p
    simp only [mput]
    by_cases h : y = k
    · subst h
      simp only [if_true, mget]
      by_cases h2 : y = x
      · subst h2; simp
      · rw [if_neg h2, if_neg h2, if_neg fun e => h2 e.symm]
    · simp only [if_neg h, mget, ih]
      by_cases h2 : y = x
      · subst h2; simp [h]
      · simp [h2]
theorem mdel_eq {M : List (κ × ε)} (hn : (M.map (·.1)).Nodup) (k : κ) : mdel M k = M.filter (fun p => p.1 ≠ k) := by
  induction M with
  | nil => rfl
  | cons p r ih =>
    obtain ⟨y, u⟩ := p
    simp only [List.map_cons, List.nodup_cons] at hn
    simp only [mdel]
    by_cases h : y = k
    · subst h
      rw [if_pos rfl, List.filter_cons_of_neg (by simp)]
      rw [List.filter_eq_self.2]
      intro q hq
      have : q.1 ≠ y := fun e => hn.1 (e ▸ List.mem_map.2 ⟨q, hq, rfl⟩)
      simpa using this
    · rw [if_neg h, List.filter_cons_of_pos (by simpa using h), ih hn.2]
theorem mdel_nodup {M : List (κ × ε)} (hn : (M.map (·.1)).Nodup) (k : κ) : ((mdel M k).map (·.1)).Nodup := by
  rw [mdel_eq hn]
  exact hn.sublist (List.Sublist.map _ List.filter_sublist)
theorem mget_del {M : List (κ × ε)} (hn : (M.map (·.1)).Nodup) (k x : κ) : mget (mdel M k) x = if x = k then none else mget M x := by
  induction M with
  | nil => simp [mdel, mget]
  | cons p r ih =>
    obtain ⟨y, u⟩ := p
    simp only [List.map_cons, List.nodup_cons] at hn
    simp only [mdel]
    by_cases h : y = k
    · subst h
      simp only [if_true, mget]
      by_cases h2 : y = x
      · subst h2; rw [if_pos rfl]; exact mget_eq_none.2 hn.1
      · rw [if_neg fun e => h2 e.symm, if_neg h2]
    · simp only [if_neg h, mget, ih hn.2]
      by_cases h2 : y = x
      · subst h2; simp [h]
      · simp [h2]

end

/-- The key's type. -/
structure KT {κ : Type} (P : Program) (k : TypeId) (kv : κ → Value) : Prop where
  keyed : Keyed P k
  some : ∀ x, ∃ l, keyOf P k (kv x) = some l
  inj : ∀ x y, kv x = kv y → x = y

section
variable {κ ε : Type} {kv : κ → Value} {ev : ε → Value}

/-- Block b is a map that holds M. -/
def MapIs (kv : κ → Value) (ev : ε → Value) (w : World) (b : Nat) (M : List (κ × ε)) : Prop :=
  ∃ es clock, w.heap[b]? = some (.map es clock) ∧ es.toList.map (fun e => (e.key, e.val)) = M.map (fun p => (kv p.1, ev p.2)) ∧ MapKept.Stamped es clock ∧ (M.map (·.1)).Nodup

theorem MapIs.of_block {w w' : World} {b : Nat} {M : List (κ × ε)} (h : MapIs kv ev w b M) (hb : w'.heap[b]? = w.heap[b]?) : MapIs kv ev w' b M := by
  obtain ⟨es, c, h1, h2⟩ := h
  exact ⟨es, c, hb.trans h1, h2⟩
theorem MapIs.lt {w : World} {b : Nat} {M : List (κ × ε)} (h : MapIs kv ev w b M) : b < w.heap.size := by
  obtain ⟨es, c, h1, h2⟩ := h
  exact blk_lt h1
theorem MapIs.ext {F : Nat → Prop} {w w' : World} {b : Nat} {M : List (κ × ε)} (h : MapIs kv ev w b M) (hx : Ext F w w') (hF : ¬ F b) : MapIs kv ev w' b M := h.of_block (hx.block b h.lt hF)
theorem MapIs.nodup {w : World} {b : Nat} {M : List (κ × ε)} (h : MapIs kv ev w b M) : (M.map (·.1)).Nodup := by obtain ⟨_, _, _, _, _, h⟩ := h; exact h
theorem MapIs.ne_cells {w : World} {b g : Nat} {M : List (κ × ε)} (h : MapIs kv ev w b M) {c : Array Value} {e : TypeId} {f : Nat × Nat} (hg : w.heap[g]? = some (.cells c e f)) : b ≠ g := by
  rintro rfl
  obtain ⟨es, c, h1, h2⟩ := h
  rw [hg] at h1
  cases h1
theorem MapIs.made (w : World) : MapIs kv ev (w.alloc (.map #[] 0)) w.heap.size ([] : List (κ × ε)) :=
  ⟨#[], 0, blk_new w _, by simp, MapKept.stamped_empty 0, by simp⟩

variable {P : Program} {k t e : TypeId}

/-- what findKey finds -/
theorem MapIs.find (K : KT P k kv) (w : World) {es : Array MapEntry} {M : List (κ × ε)} (hes : es.toList.map (fun e => (e.key, e.val)) = M.map (fun p => (kv p.1, ev p.2))) (x : κ) :
    ((Instr.findKey k (kv x) es.toList).run P w = .ok none w ∧ (∀ p ∈ M, p.1 ≠ x) ∧ ∀ e ∈ es.toList, e.key ≠ kv x) ∨
    ∃ j v e, (Instr.findKey k (kv x) es.toList).run P w = .ok (some (j, ev v)) w ∧ M[j]? = some (x, v) ∧ es.toList[j]? = some e ∧ e.key = kv x := by
  obtain ⟨l, hl⟩ := K.some x
  have hks : ∀ e ∈ es.toList, ∃ l, keyOf P k e.key = some l := fun e he => by
    have : (e.key, e.val) ∈ M.map (fun p => (kv p.1, ev p.2)) := hes ▸ List.mem_map.2 ⟨e, he, rfl⟩
    obtain ⟨p, _, hp⟩ := List.mem_map.1 this
    simp only [Prod.mk.injEq] at hp
    rw [← hp.1]
    exact K.some p.1
  rcases K.keyed.find w hl es.toList hks with ⟨h1, h2⟩ | ⟨j, e0, h1, h2, h3⟩
  · refine .inl ⟨h1, fun p hp hpx => ?_, h2⟩
    have : (kv p.1, ev p.2) ∈ es.toList.map (fun e => (e.key, e.val)) := hes ▸ List.mem_map.2 ⟨p, hp, rfl⟩
    obtain ⟨e, he, heq⟩ := List.mem_map.1 this
    simp only [Prod.mk.injEq] at heq
    exact h2 e he (by rw [heq.1, hpx])
  · have h4 : (es.toList.map (fun e => (e.key, e.val)))[j]? = some (e0.key, e0.val) := by rw [List.getElem?_map, h2]; rfl
    rw [hes, List.getElem?_map] at h4
    obtain ⟨p, hp, hpe⟩ := Option.map_eq_some_iff.1 h4
    simp only [Prod.mk.injEq] at hpe
    have hx : p.1 = x := K.inj _ _ (hpe.1.trans h3)
    refine .inr ⟨j, p.2, e0, by rw [h1, hpe.2], ?_, h2, h3⟩
    rw [hp, ← hx]

theorem Ext.setBlock {w : World} {b : Nat} {es es' : Array MapEntry} {c c' : Nat} (hb : w.heap[b]? = some (.map es c)) : Ext (· = b) w (ChangeMaps.setBlock w b (.map es' c')) :=
  ⟨rfl, rfl, rfl, by simp [ChangeMaps.setBlock], fun i _ hi => ChangeMaps.heap_setBlock_other hb _ hi⟩

variable [DecidableEq κ]

theorem MapIs.look (c : Bool) (K : KT P k kv) (ht : P.underlying t = some (.map k e)) {z : Value} {w : World} (hz : (zeroValue e).run P w = .ok z w) {b : Nat} {M : List (κ × ε)} (h : MapIs kv ev w b M) (x : κ) :
    (Instr.lookup t (.map (some b)) (kv x) c).run P w = .ok (if c then .tuple #[((mget M x).map ev).getD z, .bool (mget M x).isSome] else ((mget M x).map ev).getD z) w := by
  obtain ⟨es, clock, hb, hes, _, hn⟩ := h
  obtain ⟨l, hl⟩ := K.some x
  rcases MapIs.find (ev := ev) K w hes x with ⟨h1, h2, _⟩ | ⟨j, v, e0, h1, h2, _, _⟩
  · rw [mget_none h2]
    simp [Instr.lookup, run_underlying ht, MapKept.run_getObj_map hb, K.keyed.check w _ hl, h1, hz, Result.andThen]
  · rw [mget_some hn h2]
    simp [Instr.lookup, run_underlying ht, MapKept.run_getObj_map hb, K.keyed.check w _ hl, h1, Result.andThen]

theorem MapIs.update (K : KT P k kv) (ht : P.underlying t = some (.map k e)) {w : World} {b : Nat} {M : List (κ × ε)} (h : MapIs kv ev w b M) (x : κ) (v : ε) :
    ∃ w', (Instr.mapUpdate t (.map (some b)) (kv x) (ev v)).run P w = .ok () w' ∧ MapIs kv ev w' b (mput M x v) ∧ Ext (· = b) w w' := by
  obtain ⟨es, clock, hb, hes, hst, hn⟩ := h
  obtain ⟨l, hl⟩ := K.some x
  rcases MapIs.find (ev := ev) K w hes x with ⟨h1, h2, h3⟩ | ⟨j, u, e0, h1, h2, h3, h4⟩
  · refine ⟨ChangeMaps.setBlock w b (.map (es.push ⟨kv x, ev v, clock⟩) (clock + 1)), ?_, ⟨_, _, ChangeMaps.heap_setBlock_same hb _, ?_, MapKept.stamped_push hst h3, mput_nodup hn x v⟩, Ext.setBlock hb⟩
    · simp [Instr.mapUpdate, run_underlying ht, MapKept.run_getObj_map hb, K.keyed.check w false hl, h1, MapKept.run_setObj_map _ hb, Result.andThen, ChangeMaps.setBlock]
    · rw [mput_new h2]; simp [hes]
  · have hj : es[j]? = some e0 := by simpa using h3
    refine ⟨ChangeMaps.setBlock w b (.map (es.modify j fun e => { e with key := kv x, val := ev v }) clock), ?_, ⟨_, _, ChangeMaps.heap_setBlock_same hb _, ?_, MapKept.stamped_modify hst _ _ (fun _ _ => rfl) (fun e' _ he' => ?_), mput_nodup hn x v⟩, Ext.setBlock hb⟩
    · simp [Instr.mapUpdate, run_underlying ht, MapKept.run_getObj_map hb, K.keyed.check w false hl, h1, MapKept.run_setObj_map _ hb, Result.andThen, ChangeMaps.setBlock, hj, h4, K.keyed.stays w hl]
    · rw [mput_old hn h2, Array.toList_modify, ChangeMaps.modify_eq_set _ _ j e0 h3, List.map_set, hes, List.map_set]
    · rw [hj] at he'
      cases he'
      exact h4.symm

theorem MapIs.delete {ty : TypeId} (K : KT P k kv) (ht : P.underlying t = some (.map k e)) {w : World} {b : Nat} {M : List (κ × ε)} (h : MapIs kv ev w b M) (x : κ) :
    ∃ w', (Builtin.delete_ #[t, k] ty #[.map (some b), kv x]).run P w = .ok (.tuple #[]) w' ∧ MapIs kv ev w' b (mdel M x) ∧ Ext (· = b) w w' := by
  obtain ⟨es, clock, hb, hes, hst, hn⟩ := h
  obtain ⟨l, hl⟩ := K.some x
  rcases MapIs.find (ev := ev) K w hes x with ⟨h1, h2, h3⟩ | ⟨j, u, e0, h1, h2, h3, h4⟩
  · refine ⟨ChangeMaps.setBlock w b (.map es clock), ?_, ⟨_, _, ChangeMaps.heap_setBlock_same hb _, by rw [mdel_new h2]; exact hes, hst, mdel_nodup hn x⟩, Ext.setBlock hb⟩
    simp [Builtin.delete_, run_underlying ht, MapKept.run_getObj_map hb, K.keyed.check w _ hl, h1, MapKept.run_setObj_map _ hb, Result.andThen, ChangeMaps.setBlock]
  · have hjs : j < es.size := by have := (List.getElem?_eq_some_iff.1 h3).1; simpa using this
    have hsub : (es.eraseIdxIfInBounds j).toList = es.toList.eraseIdx j := by
      unfold Array.eraseIdxIfInBounds
      rw [dif_pos hjs]
      simp
    refine ⟨ChangeMaps.setBlock w b (.map (es.eraseIdxIfInBounds j) clock), ?_, ⟨_, _, ChangeMaps.heap_setBlock_same hb _, ?_, MapKept.stamped_erase hst j, mdel_nodup hn x⟩, Ext.setBlock hb⟩
    · simp [Builtin.delete_, run_underlying ht, MapKept.run_getObj_map hb, K.keyed.check w _ hl, h1, MapKept.run_setObj_map _ hb, Result.andThen, ChangeMaps.setBlock]
    · rw [hsub, mdel_old hn h2, ChangeMaps.map_eraseIdx, hes, ChangeMaps.map_eraseIdx]

omit [DecidableEq κ] in
theorem MapIs.len {ty : TypeId} (ht : P.underlying t = some (.map k e)) {w : World} {b : Nat} {M : List (κ × ε)} (h : MapIs kv ev w b M) :
    (Builtin.len_ #[t] ty #[.map (some b)]).run P w = .ok (.int .i64 M.length) w := by
  obtain ⟨es, clock, hb, hes, hst, hn⟩ := h
  have hl : es.size = M.length := by
    have := congrArg List.length hes
    simpa using this
  simp [Builtin.len_, run_underlying ht, MapKept.run_getObj_map hb, Result.andThen, goInt, hl]

end
end Go.Cw
namespace Go.Cw
open Go Go.RowKit
section
variable {κ ε : Type} [DecidableEq κ] {kv : κ → Value} {ev : ε → Value} {P : Program} {k t e : TypeId}

/-- 'm[x] = v' at the operation. -/
theorem wpList_mapUp {ops : Array Oper} {rest : List Oper} {o : Oper} {a : Act} {Q : Exit → Act → World → Prop} {w : World} (hgd : o.guard = none) (m y z : Operand) (hop : o.op = Op.mapUpdate t m y z)
    (K : KT P k kv) (ht : P.underlying t = some (.map k e)) {b : Nat} {M : List (κ × ε)} (h : MapIs kv ev w b M) (x : κ) (v : ε) (h1 : a.eval m = .map (some b)) (h2 : a.eval y = kv x) (h3 : a.eval z = ev v)
    (hK : ∀ w', MapIs kv ev w' b (mput M x v) → Ext (· = b) w w' → wpList P ops Q rest (a.put o.dst undef) w') : wpList P ops Q (o :: rest) a w := by
  refine wpList_plain hgd fun K' hK' => ?_
  obtain ⟨w', hrun, r1, r2⟩ := h.update K ht x v
  unfold Oper.wp
  simp [execOp, hop, h1, h2, h3, hrun, Result.andThen]
  exact hK' _ _ (hK w' r1 r2)

/-- 'delete(m, x)' at the operation. -/
theorem wpList_mapDel {ops : Array Oper} {rest : List Oper} {o : Oper} {a : Act} {Q : Exit → Act → World → Prop} {w : World} (hgd : o.guard = none) (m y : Operand) (hop : o.op = .call { callee := .builtin .delete, args := #[m, y], argTypes := #[t, k] })
    (K : KT P k kv) (ht : P.underlying t = some (.map k e)) {b : Nat} {M : List (κ × ε)} (h : MapIs kv ev w b M) (x : κ) (h1 : a.eval m = .map (some b)) (h2 : a.eval y = kv x)
    (hK : ∀ w', MapIs kv ev w' b (mdel M x) → Ext (· = b) w w' → wpList P ops Q rest (a.put o.dst (.tuple #[])) w') : wpList P ops Q (o :: rest) a w := by
  refine wpList_plain hgd fun K' hK' => ?_
  obtain ⟨w', hrun, r1, r2⟩ := h.delete (ty := o.type) K ht x
  unfold Oper.wp
  simp [execOp, resolve, invoke, builtin, hop, h1, h2, hrun, Result.andThen]
  exact hK' _ _ (hK w' r1 r2)

/-- 'v, ok := m[x]', 'm[x]' at the operation. -/
theorem wpList_mapLook {ops : Array Oper} {rest : List Oper} {o : Oper} {a : Act} {Q : Exit → Act → World → Prop} {w : World} (hgd : o.guard = none) (m y : Operand) (c : Bool) (hop : o.op = Op.lookup t m y c)
    (K : KT P k kv) (ht : P.underlying t = some (.map k e)) {z : Value} (hz : (zeroValue e).run P w = .ok z w) {b : Nat} {M : List (κ × ε)} (h : MapIs kv ev w b M) (x : κ) (h1 : a.eval m = .map (some b)) (h2 : a.eval y = kv x)
    (hK : wpList P ops Q rest (a.put o.dst (if c then .tuple #[((mget M x).map ev).getD z, .bool (mget M x).isSome] else ((mget M x).map ev).getD z)) w) : wpList P ops Q (o :: rest) a w := by
  refine wpList_plain hgd fun K' hK' => ?_
  have hrun := h.look c K ht hz x
  unfold Oper.wp
  simp only [execOp, hop, h1, h2, Sem.run_bind, hrun, Result.andThen_ok, Sem.run_pure, Oper.upon]
  exact hK' _ _ hK

end
end Go.Cw
namespace Go.Cw
open Go Go.RowKit
/-- Two blocks, as they are. -/
def Hold2 (b1 : Nat) (o1 : Obj) (b2 : Nat) (o2 : Obj) (u : World) : Prop := u.heap[b1]? = some o1 ∧ u.heap[b2]? = some o2
def Hold1 (b1 : Nat) (o1 : Obj) (u : World) : Prop := u.heap[b1]? = some o1
/-- The world, as it is. -/
def Still (w : World) (u : World) : Prop := u = w
theorem Still.fam {w : World} (i : Fam (Still w)) : i.w = w := i.h
theorem Still.ne (w : World) : Nonempty (Fam (Still w)) := ⟨⟨w, rfl⟩⟩
theorem Fam.ne {F : World → Prop} {w : World} (h : F w) : Nonempty (Fam F) := ⟨⟨w, h⟩⟩
theorem wpCh_step {P : Program} {ops : Array Oper} {F : World → Prop} {Q : Exit → Act → World → Prop} {o o' : Oper} {rest : List Oper} {a : Act} {w : World}
    (h : wpList P ops (Exit.then (fun a' w' => F w' ∧ wpCh P ops F Q (o' :: rest) a' w') (NoPanic Q)) [o] a w) : wpCh P ops F Q (o :: o' :: rest) a w := h
theorem wpCh_last {P : Program} {ops : Array Oper} {F : World → Prop} {Q : Exit → Act → World → Prop} {o : Oper} {a : Act} {w : World}
    (h : wpList P ops (Exit.then (fun a' w' => Q .normal a' w') (NoPanic Q)) [o] a w) : wpCh P ops F Q [o] a w := h
theorem wpCh_nil {P : Program} {ops : Array Oper} {F : World → Prop} {Q : Exit → Act → World → Prop} {a : Act} {w : World} (h : Q .normal a w) : wpCh P ops F Q [] a w := h
end Go.Cw
namespace Go.Cw
open Go Go.RowKit
section
variable {κ ε : Type} [DecidableEq κ] {kv : κ → Value} {ev : ε → Value} {P : Program} {k t e : TypeId}

theorem findIdx_born {es : Array MapEntry} (hn : (es.toList.map (·.born)).Nodup) {j : Nat} {e0 : MapEntry} (h : es.toList[j]? = some e0) {s : Int} (hs : s = (e0.born : Int)) : es.findIdx? (fun e => (e.born : Int) == s) = some j := by
  subst hs
  have e : es.findIdx? (fun e => (e.born : Int) == (e0.born : Int)) = es.toList.findIdx? (fun e => (e.born : Int) == (e0.born : Int)) := by cases es; simp
  rw [e, List.findIdx?_eq_some_iff_getElem]
  obtain ⟨hl, rfl⟩ := List.getElem?_eq_some_iff.1 h
  refine ⟨hl, by simp, fun i hi => ?_⟩
  have h1 := List.pairwise_iff_getElem.1 hn i j (by simp at hl ⊢; omega) (by simpa using hl) hi
  simp only [List.getElem_map, ne_eq] at h1
  simp only [beq_iff_eq]
  intro he
  exact h1 (by exact_mod_cast he)

/-- the second half of 'm[x] op= v' -/
theorem entryStore_ok {u : World} {b : Nat} {es : Array MapEntry} {c : Nat} {M : List (κ × ε)} (hu : u.heap[b]? = some (.map es c)) (hes : es.toList.map (fun e => (e.key, e.val)) = M.map (fun p => (kv p.1, ev p.2)))
    (hst : MapKept.Stamped es c) (hn : (M.map (·.1)).Nodup) {j : Nat} {e0 : MapEntry} (h : es.toList[j]? = some e0) {x : κ} {y : ε} (hM : M[j]? = some (x, y)) {s : Int} (hs : s = (e0.born : Int)) (v : ε) :
    ∃ u', (Instr.entryStore t (.map (some b)) (.int .i64 s) (ev v)).run P u = .ok () u' ∧ MapIs kv ev u' b (mput M x v) ∧ Ext (· = b) u u' := by
  have hf := findIdx_born hst.2.1 h hs
  refine ⟨ChangeMaps.setBlock u b (.map (es.modify j fun e => { e with val := ev v }) c), ?_, ⟨_, _, ChangeMaps.heap_setBlock_same hu _, ?_, MapKept.stamped_modify hst _ _ (fun _ _ => rfl) (fun _ _ _ => rfl), mput_nodup hn x v⟩, Ext.setBlock hu⟩
  · simp [Instr.entryStore, MapKept.run_getObj_map hu, asInt, asIntOf, MapKept.run_setObj_map _ hu, Result.andThen, ChangeMaps.setBlock, hf]
  · rw [Array.toList_modify, ChangeMaps.modify_eq_set _ _ _ _ h, List.map_set, hes, mput_old hn hM, List.map_set]
    have h5 : (es.toList.map (fun e => (e.key, e.val)))[j]? = some (e0.key, e0.val) := by rw [List.getElem?_map, h]; rfl
    rw [hes, List.getElem?_map, hM] at h5
    simp only [Option.map_some, Option.some.injEq, Prod.mk.injEq] at h5
    rw [h5.1]

/-- The two halves of 'm[x] op= v'. -/
theorem MapIs.entry (K : KT P k kv) (ht : P.underlying t = some (.map k e)) {w : World} {z : ε} (hz : (zeroValue e).run P w = .ok (ev z) w) {b : Nat} {M : List (κ × ε)} (h : MapIs kv ev w b M) (x : κ) :
    ∃ w' s, (Instr.mapEntry t (.map (some b)) (kv x)).run P w = .ok (.tuple #[ev ((mget M x).getD z), .int .i64 s]) w' ∧ Ext (· = b) w w' ∧
      MapIs kv ev w' b (match mget M x with | some _ => M | none => mput M x z) ∧
      ∀ (u : World) (v : ε), u.heap[b]? = w'.heap[b]? → ∃ u', (Instr.entryStore t (.map (some b)) (.int .i64 s) (ev v)).run P u = .ok () u' ∧ MapIs kv ev u' b (mput M x v) ∧ Ext (· = b) u u' := by
  obtain ⟨es, clock, hb, hes, hst, hn⟩ := h
  obtain ⟨l, hl⟩ := K.some x
  rcases MapIs.find (ev := ev) K w hes x with ⟨h1, h2, h3⟩ | ⟨j, u0, e0, h1, h2, h3, h4⟩
  · rw [mget_none h2]
    have hst' := MapKept.stamped_push (val := ev z) hst h3
    have hes' : (es.push ⟨kv x, ev z, clock⟩).toList.map (fun e => (e.key, e.val)) = (mput M x z).map (fun p => (kv p.1, ev p.2)) := by rw [mput_new h2]; simp [hes]
    have hb' : (ChangeMaps.setBlock w b (.map (es.push ⟨kv x, ev z, clock⟩) (clock + 1))).heap[b]? = some (.map (es.push ⟨kv x, ev z, clock⟩) (clock + 1)) := ChangeMaps.heap_setBlock_same hb _
    have hlen : es.size = M.length := by simpa using congrArg List.length hes
    refine ⟨ChangeMaps.setBlock w b (.map (es.push ⟨kv x, ev z, clock⟩) (clock + 1)), clock, ?_, Ext.setBlock hb, ⟨_, _, hb', hes', hst', mput_nodup hn x z⟩, fun u v hu => ?_⟩
    · simp [Instr.mapEntry, run_underlying ht, MapKept.run_getObj_map hb, K.keyed.check w false hl, h1, MapKept.run_setObj_map _ hb, Result.andThen, ChangeMaps.setBlock, hz, goInt]
    · rw [hb'] at hu
      have hlast : (es.push ⟨kv x, ev z, clock⟩).toList[es.size]? = some ⟨kv x, ev z, clock⟩ := by simp
      have hMl : (mput M x z)[es.size]? = some (x, z) := by rw [mput_new h2, hlen]; simp
      obtain ⟨u', r1, r2, r3⟩ := entryStore_ok (P := P) (t := t) hu hes' hst' (mput_nodup hn x z) hlast hMl rfl v
      refine ⟨u', r1, ?_, r3⟩
      have e : mput (mput M x z) x v = mput M x v := by
        rw [mput_old (mput_nodup hn x z) hMl, mput_new h2, mput_new h2, hlen]; simp
      rw [e] at r2; exact r2
  · rw [mget_some hn h2]
    have hj : es[j]? = some e0 := by simpa using h3
    have hm : es.modify j (fun e => { e with key := kv x }) = es := by
      apply Array.ext_getElem?
      intro i
      rw [Array.getElem?_modify]
      by_cases hij : j = i
      · subst hij; simp [hj, ← h4]
      · simp [hij]
    have hb' : (ChangeMaps.setBlock w b (.map es clock)).heap[b]? = some (.map es clock) := ChangeMaps.heap_setBlock_same hb _
    have hv : e0.val = ev u0 := by
      have h5 : (es.toList.map (fun e => (e.key, e.val)))[j]? = some (e0.key, e0.val) := by rw [List.getElem?_map, h3]; rfl
      rw [hes, List.getElem?_map, h2] at h5
      simp only [Option.map_some, Option.some.injEq, Prod.mk.injEq] at h5
      exact h5.2.symm
    refine ⟨ChangeMaps.setBlock w b (.map es clock), e0.born, ?_, Ext.setBlock hb, ⟨_, _, hb', hes, hst, hn⟩, fun u v hu => ?_⟩
    · simp [Instr.mapEntry, run_underlying ht, MapKept.run_getObj_map hb, K.keyed.check w false hl, h1, MapKept.run_setObj_map _ hb, Result.andThen, ChangeMaps.setBlock, goInt, hj, h4, K.keyed.stays w hl, hm]
    · rw [hb'] at hu
      exact entryStore_ok hu hes hst hn h3 h2 rfl v

end
end Go.Cw
namespace Go.Cw
open Go Go.RowKit
section
variable {κ ε : Type} [DecidableEq κ] {kv : κ → Value} {ev : ε → Value} {P : Program} {k t e : TypeId}

/-- what the second half of 'm[x] op= v' will do, at each world in which the map's block is as the first half left it -/
def EntryAt (P : Program) (t : TypeId) (kv : κ → Value) (ev : ε → Value) (w : World) (b : Nat) (M : List (κ × ε)) (x : κ) (s : Int) : Prop :=
  ∀ (u : World) (v : ε), u.heap[b]? = w.heap[b]? → ∃ u', (Instr.entryStore t (.map (some b)) (.int .i64 s) (ev v)).run P u = .ok () u' ∧ MapIs kv ev u' b (mput M x v) ∧ Ext (· = b) u u'

theorem wpList_mapEntry {ops : Array Oper} {rest : List Oper} {o : Oper} {a : Act} {Q : Exit → Act → World → Prop} {w : World} (hgd : o.guard = none) (m y : Operand) (hop : o.op = Op.mapEntry t m y)
    (K : KT P k kv) (ht : P.underlying t = some (.map k e)) {z : ε} (hz : (zeroValue e).run P w = .ok (ev z) w) {b : Nat} {M : List (κ × ε)} (h : MapIs kv ev w b M) (x : κ) (h1 : a.eval m = .map (some b)) (h2 : a.eval y = kv x)
    (hK : ∀ w' s, Ext (· = b) w w' → MapIs kv ev w' b (match mget M x with | some _ => M | none => mput M x z) → EntryAt P t kv ev w' b M x s → wpList P ops Q rest (a.put o.dst (.tuple #[ev ((mget M x).getD z), .int .i64 s])) w') : wpList P ops Q (o :: rest) a w := by
  refine wpList_plain hgd fun K' hK' => ?_
  obtain ⟨w', s, hrun, r1, r2, r3⟩ := h.entry K ht hz x
  unfold Oper.wp
  simp only [execOp, hop, h1, h2, Sem.run_bind, hrun, Result.andThen_ok, Sem.run_pure, Oper.upon]
  exact hK' _ _ (hK w' s r1 r2 r3)

theorem wpList_entryStore {ops : Array Oper} {rest : List Oper} {o : Oper} {a : Act} {Q : Exit → Act → World → Prop} {w w0 : World} (hgd : o.guard = none) (m y z : Operand) (hop : o.op = Op.entryStore t m y z)
    {b : Nat} {M : List (κ × ε)} {x : κ} {s : Int} (he : EntryAt P t kv ev w0 b M x s) (hb : w.heap[b]? = w0.heap[b]?) (v : ε) (h1 : a.eval m = .map (some b)) (h2 : a.eval y = .int .i64 s) (h3 : a.eval z = ev v)
    (hK : ∀ w', MapIs kv ev w' b (mput M x v) → Ext (· = b) w w' → wpList P ops Q rest (a.put o.dst undef) w') : wpList P ops Q (o :: rest) a w := by
  refine wpList_plain hgd fun K' hK' => ?_
  obtain ⟨w', hrun, r1, r2⟩ := he w v hb
  unfold Oper.wp
  simp [execOp, hop, h1, h2, h3, hrun, Result.andThen]
  exact hK' _ _ (hK w' r1 r2)

theorem mput_same {M : List (κ × ε)} {x : κ} {v : ε} (h : mget M x = some v) : mput M x v = M := by
  induction M with
  | nil => simp [mget] at h
  | cons p r ih =>
    obtain ⟨y, u⟩ := p
    simp only [mget] at h
    simp only [mput]
    split
    · rename_i e; rw [if_pos e] at h; simp at h; subst h; subst e; rfl
    · rename_i e; rw [if_neg e] at h; rw [ih h]
end
end Go.Cw
