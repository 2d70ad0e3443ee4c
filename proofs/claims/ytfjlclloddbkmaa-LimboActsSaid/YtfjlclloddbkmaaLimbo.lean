/- What it is to be a limbo, and the walks of NewLimbo, Epoch and Len. -/
import Derived.Test.YtfjlclloddbkmaaOut
namespace Go.Proofs.Ytfjlclloddbkmaa
open Go.RowKit Go.Cw

/-- A limbo at block g, its map at block mb, its row's slice rv. -/
structure LimboIs (w : World) (base g mb : Nat) (rv : Value) (row : List K) (M : List (K × Int)) : Prop where
  blk : w.heap[g]? = some (.cells #[rv, .map (some mb)] 54 (0, 0))
  own : KOwn w base rv row
  map : MapIs K.val (Value.int .i64) w mb M
  gb : base ≤ g
  mb : base ≤ mb

/-- what a limbo's calls may turn -/
def Foot (g mb : Nat) (rv : Value) (b : Nat) : Prop := b = g ∨ b = mb ∨ rv.ownBlock = some b

theorem LimboIs.ext {F : Nat → Prop} {w w' : World} {base g mb : Nat} {rv : Value} {row : List K} {M : List (K × Int)} (h : LimboIs w base g mb rv row M) (hx : Ext F w w') (hF : ∀ b, Foot g mb rv b → ¬ F b) :
    LimboIs w' base g mb rv row M :=
  ⟨hx.blk h.blk (hF g (.inl rfl)), h.own.ext hx (fun b hb => hF b (.inr (.inr hb))), h.map.ext hx (hF mb (.inr (.inl rfl))), h.gb, h.mb⟩
theorem LimboIs.ext0 {w w' : World} {base g mb : Nat} {rv : Value} {row : List K} {M : List (K × Int)} (h : LimboIs w base g mb rv row M) (hx : Ext none_ w w') : LimboIs w' base g mb rv row M := h.ext hx fun _ _ => id

theorem zero3 (w : World) : (zeroValue 3).run Try.prog w = .ok (.int .i64 0) w := by kernel_rfl
theorem mixed : Try.prog.follows .mixedOrders = true := by kernel_rfl

theorem look_ok {w : World} {mb : Nat} {M : List (K × Int)} (h : MapIs K.val (Value.int .i64) w mb M) (x : K) (n : Nat) :
    (Instr.lookup 27 (.map (some mb)) (.agg #[.int .i64 x.k, .int .i64 x.a, .int .i64 x.b, .string x.s]) true).run Try.prog (w.drewN n) = .ok (.tuple #[.int .i64 ((mget M x).getD 0), .bool (mget M x).isSome]) (w.drewN n) := by
  have := MapIs.look true kt30 Try.underlying27 (zero3 (w.drewN n)) (h.of_block (w' := w.drewN n) rfl) x
  simp only [K.val, if_true] at this
  rw [this]
  cases mget M x <;> rfl
theorem look_no {w : World} {mb : Nat} {M : List (K × Int)} (h : MapIs K.val (Value.int .i64) w mb M) (x : K) (n : Nat) :
    (Instr.lookup 27 (.map (some mb)) (.agg #[.int .i64 x.k, .int .i64 x.a, .int .i64 x.b, .string x.s]) false).run Try.prog (w.drewN n) = .ok (.int .i64 ((mget M x).getD 0)) (w.drewN n) := by
  have := MapIs.look false kt30 Try.underlying27 (zero3 (w.drewN n)) (h.of_block (w' := w.drewN n) rfl) x
  simp only [K.val, Bool.false_eq_true, if_false] at this
  rw [this]
  cases mget M x <;> rfl

set_option maxHeartbeats 400000 in
theorem epoch_any (w : World) (base g mb : Nat) (rv : Value) (row : List K) (M : List (K × Int)) (x : K) (hL : LimboIs w base g mb rv row M) :
    Calls Try.prog 9 #[.pointer (some ⟨g, 0, none⟩), x.val] w fun e w' => e = .returned (.tuple #[.int .i64 ((mget M x).getD 0), .bool (mget M x).isSome]) ∧ Ext none_ w w' := by
  obtain ⟨g0, g1⟩ := cells2 (hL.ext0 (Ext.alloc w (.cells #[.int .i64 x.k, .int .i64 x.a, .int .i64 x.b, .string x.s] 30))).blk
  obtain ⟨k0, k1, k2, k3⟩ := cells4 (blk_new w (.cells #[.int .i64 x.k, .int .i64 x.a, .int .i64 x.b, .string x.s] 30))
  have hl := look_ok (hL.ext0 (Ext.alloc w (.cells #[.int .i64 x.k, .int .i64 x.a, .int .i64 x.b, .string x.s] 30))).map x
  have hx := Ext.alloc w (.cells #[.int .i64 x.k, .int .i64 x.a, .int .i64 x.b, .string x.s] 30)
  unfold K.val
  go_enter Try.func9, Try.ntmps9
  go_wp2
  generalize w.alloc (.cells #[.int .i64 x.k, .int .i64 x.a, .int .i64 x.b, .string x.s] 30) = w1 at *
  go_quiet (fail)
  go_wp2
  go_ret2
  exact ⟨rfl, hx.grow (Ext.drewN _ _)⟩

theorem len_any (w : World) (base g mb : Nat) (rv : Value) (row : List K) (M : List (K × Int)) (hL : LimboIs w base g mb rv row M) :
    Calls Try.prog 10 #[.pointer (some ⟨g, 0, none⟩)] w fun e w' => e = .returned (.int .i64 row.length) ∧ w = w' := by
  obtain ⟨a, c, b, rfl, _⟩ := hL.own.read
  obtain ⟨g0, g1⟩ := cells2 hL.blk
  go_enter Try.func10, Try.ntmps10
  go_wp2
  go_ret
  exact ⟨rfl, rfl⟩

theorem new_any (w : World) (base : Nat) (hb : base ≤ w.heap.size) :
    Calls Try.prog 7 #[] w fun e w' => ∃ g mb, e = .returned (.pointer (some ⟨g, 0, none⟩)) ∧ LimboIs w' base g mb (.slice none 0 0) [] [] ∧ Ext none_ w w' ∧ w.heap.size ≤ g ∧ w.heap.size ≤ mb := by
  have hmm := @run_makeMap Try.prog
  go_enter Try.func7, Try.ntmps7
  go_wp2
  go_ret
  refine ⟨w.heap.size + 1, w.heap.size, by simp, ⟨by simpa using blk_new (w.alloc (.map #[] 0)) _, KOwn.nil _ _, (MapIs.made w).ext (Ext.alloc _ _) id, by omega, hb⟩, (Ext.alloc _ _).grow (Ext.alloc _ _), by omega, by omega⟩

end Go.Proofs.Ytfjlclloddbkmaa
