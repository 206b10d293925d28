/- The walk of 'did' of the clock's statements: the program's clock and the reference's answer the same, and stand as the plain step says. -/
import Derived.Test.YtffdhpoljfmjoaaClkAwake
namespace Go.Proofs.Ytffdhpoljfmjoaa
open Go.RowKit

/-- the two clocks, both in this state -/
structure Both (w : World) (c L r P U : Nat) (s : Clk.St) : Prop where
  a : ClkAt w c L s
  b : RclkAt w r P U s

theorem Both.n1 {w : World} {c L r P U : Nat} {s : Clk.St} (h : Both w c L r P U s) : r ∉ [c, L] ∧ P ∉ [c, L] ∧ U ∉ [c, L] ∧ c ∉ [r, P, U] ∧ L ∉ [r, P, U] := by
  have h1 := h.a.top
  have h2 := h.a.row
  have h3 := h.b.top
  have h4 := h.b.pins
  have h5 := h.b.used
  have q : ∀ {x y : Nat} {a b : Array Value} {t u : TypeId}, w.heap[x]? = some (.cells a t (0, 0)) → w.heap[y]? = some (.cells b u (0, 0)) → t ≠ u → x ≠ y := by
    intro x y a b t u hx hy hne e
    subst e
    rw [hx] at hy
    injection hy with hy
    injection hy with _ hy
    exact hne hy
  have := q h1 h3 (by decide)
  have := q h1 h4 (by decide)
  have := q h1 h5 (by decide)
  have := q h2 h3 (by decide)
  have := q h2 h4 (by decide)
  have := q h2 h5 (by decide)
  simp only [List.mem_cons, List.not_mem_nil, or_false]
  omega

theorem Both.below {w w' : World} {c L r P U : Nat} {s : Clk.St} (h : Both w c L r P U s) (hb : Below w.heap.size w w') : Both w' c L r P U s := ⟨h.a.below hb, h.b.below hb⟩

attribute [local go_sem ↓] Go.wp_at_zero Go.wp_at_succ

/-- what a call leaves -/
def Did (w : World) (c L r P U : Nat) (s : Clk.St) (e : Ending) (w' : World) : Prop := e = .returned (.bool true) ∧ Both w' c L r P U s ∧ Chg [c, L, r, P, U] w w'

theorem chg5 {w a b d : World} {c L r P U : Nat} (h0 : Below w.heap.size w a) (h1 : Chg [c, L] a b) (h2 : Chg [r, P, U] b d) : Chg [c, L, r, P, U] w d := by
  refine ((Chg.of_below h0).trans (h1.mono ?_)).trans (h2.mono ?_)
  · intro k hk; simp at hk ⊢; rcases hk with h | h <;> simp [h]
  · intro k hk; simp at hk ⊢; rcases hk with h | h | h <;> simp [h]

set_option maxHeartbeats 4000000 in
theorem clkDid_any (c L r P U : Nat) (s : Clk.St) (k n : Int) (w : World) (h : Both w c L r P U s) (hf : Clk.Few s 1000000) :
    Calls Try.prog 12 #[.pointer (some ⟨c, 0, none⟩), .pointer (some ⟨r, 0, none⟩), .agg #[.int .i64 k, .int .i64 n]] w (Did w c L r P U (Clk.step s k n)) := by
  by_cases h1 : k = 1
  · subst h1
    have E : Hid (Clk.step s 1 n = Clk.useS s n) := rfl
    go_enter Try.func12, Try.ntmps12
    go_wp2_with fail
    have W0 : Below w.heap.size w (w.alloc (.cells #[.int .i64 1, .int .i64 n] 33)).drew := ((Below.refl _ _).alloc (Nat.le_refl _) _).drew
    have A0 := h.a.below W0
    have B0 := h.b.below W0
    have k0 : (w.alloc (.cells #[.int .i64 1, .int .i64 n] 33)).drew.heap[w.heap.size]? = some (.cells #[.int .i64 1, .int .i64 n] 33 (0, 0)) := heap_alloc_new _ _
    have HN := Lib.hid h.n1
    have lt1 := lt_of_block h.a.top
    have lt2 := lt_of_block h.a.row
    have lt3 := lt_of_block h.b.top
    have lt4 := lt_of_block h.b.pins
    have lt5 := lt_of_block h.b.used
    have HK : Hid (w.heap.size ∉ [c, L] ∧ w.heap.size ∉ [r, P, U] ∧ w.heap.size < (w.alloc (.cells #[.int .i64 1, .int .i64 n] 33)).drew.heap.size) := by
      refine ⟨?_, ?_, ?_⟩
      · simp; omega
      · simp; omega
      · exact lt_of_block k0
    have HW0 := Lib.hid W0
    have HK0 := Lib.hid k0
    clear lt1 lt2 lt3 lt4 lt5 W0 k0
    go_region_held3 (fun w' => w'.cell? ⟨w.heap.size, 1, none⟩ = some (.int .i64 n))
      (first | (exact row_cell HK2.out rfl) | (exact row_cell HK1.out rfl) | go_keep)
      (first
        | (go_at_call 20; refine (clkUse_any A0 n).mono ?_; rintro e w1 ⟨rfl, A1, C1⟩; have R1 := B0.kept C1 HN.out.1 HN.out.2.1 HN.out.2.2.1; have HK1 := Lib.hid ((C1.block w.heap.size HK.out.2.2 HK.out.1).trans HK0.out); have HC1 := Lib.hid C1; clear C1)
        | (go_at_call 23; refine (rclkUse_any R1 n).mono ?_; rintro e w2 ⟨rfl, R2, C2⟩; have A2 := A1.kept C2 HN.out.2.2.2.1 HN.out.2.2.2.2; have HK2 := Lib.hid ((C2.block w.heap.size (lt_of_block HK1.out) HK.out.2.1).trans HK1.out); have HC2 := Lib.hid C2; clear C2))
    go_wp2
    go_ret
    exact ⟨rfl, ⟨by rw [E.out]; exact A2, by rw [E.out]; exact R2⟩, chg5 HW0.out HC1.out HC2.out⟩
  by_cases h2 : k = 2
  · subst h2
    clear h1
    have E : Hid (Clk.step s 2 n = Clk.pinS s n) := rfl
    go_enter Try.func12, Try.ntmps12
    go_wp2_with fail
    have W0 : Below w.heap.size w (w.alloc (.cells #[.int .i64 2, .int .i64 n] 33)).drew := ((Below.refl _ _).alloc (Nat.le_refl _) _).drew
    have A0 := h.a.below W0
    have B0 := h.b.below W0
    have k0 : (w.alloc (.cells #[.int .i64 2, .int .i64 n] 33)).drew.heap[w.heap.size]? = some (.cells #[.int .i64 2, .int .i64 n] 33 (0, 0)) := heap_alloc_new _ _
    have HN := Lib.hid h.n1
    have lt1 := lt_of_block h.a.top
    have lt2 := lt_of_block h.a.row
    have lt3 := lt_of_block h.b.top
    have lt4 := lt_of_block h.b.pins
    have lt5 := lt_of_block h.b.used
    have HK : Hid (w.heap.size ∉ [c, L] ∧ w.heap.size ∉ [r, P, U] ∧ w.heap.size < (w.alloc (.cells #[.int .i64 2, .int .i64 n] 33)).drew.heap.size) := by
      refine ⟨?_, ?_, ?_⟩
      · simp; omega
      · simp; omega
      · exact lt_of_block k0
    have HW0 := Lib.hid W0
    have HK0 := Lib.hid k0
    clear lt1 lt2 lt3 lt4 lt5 W0 k0
    go_region_held3 (fun w' => w'.cell? ⟨w.heap.size, 1, none⟩ = some (.int .i64 n))
      (first | (exact row_cell HK2.out rfl) | (exact row_cell HK1.out rfl) | go_keep)
      (first
        | (go_at_call 21; refine (clkPin_any A0 hf n).mono ?_; rintro e w1 ⟨rfl, A1, C1⟩; have R1 := B0.kept C1 HN.out.1 HN.out.2.1 HN.out.2.2.1; have HK1 := Lib.hid ((C1.block w.heap.size HK.out.2.2 HK.out.1).trans HK0.out); have HC1 := Lib.hid C1; clear C1)
        | (go_at_call 24; refine (rclkPin_any R1 hf n).mono ?_; rintro e w2 ⟨rfl, R2, C2⟩; have A2 := A1.kept C2 HN.out.2.2.2.1 HN.out.2.2.2.2; have HK2 := Lib.hid ((C2.block w.heap.size (lt_of_block HK1.out) HK.out.2.1).trans HK1.out); have HC2 := Lib.hid C2; clear C2))
    go_wp2
    go_ret
    exact ⟨rfl, ⟨by rw [E.out]; exact A2, by rw [E.out]; exact R2⟩, chg5 HW0.out HC1.out HC2.out⟩
  by_cases h3 : k = 3
  · subst h3
    clear h1 h2
    have E : Hid (Clk.step s 3 n = Clk.unpinS s n) := rfl
    go_enter Try.func12, Try.ntmps12
    go_wp2_with fail
    have W0 : Below w.heap.size w (w.alloc (.cells #[.int .i64 3, .int .i64 n] 33)).drew := ((Below.refl _ _).alloc (Nat.le_refl _) _).drew
    have A0 := h.a.below W0
    have B0 := h.b.below W0
    have k0 : (w.alloc (.cells #[.int .i64 3, .int .i64 n] 33)).drew.heap[w.heap.size]? = some (.cells #[.int .i64 3, .int .i64 n] 33 (0, 0)) := heap_alloc_new _ _
    have HN := Lib.hid h.n1
    have lt1 := lt_of_block h.a.top
    have lt2 := lt_of_block h.a.row
    have lt3 := lt_of_block h.b.top
    have lt4 := lt_of_block h.b.pins
    have lt5 := lt_of_block h.b.used
    have HK : Hid (w.heap.size ∉ [c, L] ∧ w.heap.size ∉ [r, P, U] ∧ w.heap.size < (w.alloc (.cells #[.int .i64 3, .int .i64 n] 33)).drew.heap.size) := by
      refine ⟨?_, ?_, ?_⟩
      · simp; omega
      · simp; omega
      · exact lt_of_block k0
    have HW0 := Lib.hid W0
    have HK0 := Lib.hid k0
    clear lt1 lt2 lt3 lt4 lt5 W0 k0
    go_region_held3 (fun w' => w'.cell? ⟨w.heap.size, 1, none⟩ = some (.int .i64 n))
      (first | (exact row_cell HK2.out rfl) | (exact row_cell HK1.out rfl) | go_keep)
      (first
        | (go_at_call 22; refine (clkUnpin_any A0 hf n).mono ?_; rintro e w1 ⟨rfl, A1, C1⟩; have R1 := B0.kept C1 HN.out.1 HN.out.2.1 HN.out.2.2.1; have HK1 := Lib.hid ((C1.block w.heap.size HK.out.2.2 HK.out.1).trans HK0.out); have HC1 := Lib.hid C1; clear C1)
        | (go_at_call 25; refine (rclkUnpin_any R1 hf n).mono ?_; rintro e w2 ⟨rfl, R2, C2⟩; have A2 := A1.kept C2 HN.out.2.2.2.1 HN.out.2.2.2.2; have HK2 := Lib.hid ((C2.block w.heap.size (lt_of_block HK1.out) HK.out.2.1).trans HK1.out); have HC2 := Lib.hid C2; clear C2))
    go_wp2
    go_ret
    exact ⟨rfl, ⟨by rw [E.out]; exact A2, by rw [E.out]; exact R2⟩, chg5 HW0.out HC1.out HC2.out⟩
  have d1 : (k == 1) = false := beq_eq_false_iff_ne.2 h1
  have d2 : (k == 2) = false := beq_eq_false_iff_ne.2 h2
  have d3 : (k == 3) = false := beq_eq_false_iff_ne.2 h3
  by_cases h4 : k = 4
  · subst h4
    have E : Hid (Clk.step s 4 n = Clk.vicS s) := rfl
    have W0 : Below w.heap.size w (w.alloc (.cells #[.int .i64 4, .int .i64 n] 33)) := (Below.refl _ _).alloc (Nat.le_refl _) _
    have A0 := h.a.below W0
    have B0 := h.b.below W0
    have HN := Lib.hid h.n1
    have HW0 := Lib.hid W0
    clear h1 h2 h3 W0
    go_enter Try.func12, Try.ntmps12
    go_wp2_with (first
        | (go_at_call 19; refine (clkVictim_any A0).mono ?_; rintro e w1 ⟨rfl, A1, C1⟩; have R1 := B0.kept C1 HN.out.1 HN.out.2.1 HN.out.2.2.1; have HC1 := Lib.hid C1; clear C1)
        | (go_at_call 26; refine (rclkVictim_any R1).mono ?_; rintro e w2 ⟨rfl, R2, C2⟩; have A2 := A1.kept C2 HN.out.2.2.2.1 HN.out.2.2.2.2; have HC2 := Lib.hid C2; clear C2))
    go_ret
    exact ⟨rfl, ⟨by rw [E.out]; exact A2, by rw [E.out]; exact R2⟩, chg5 HW0.out HC1.out HC2.out⟩
  · have d4 : (k == 4) = false := beq_eq_false_iff_ne.2 h4
    have E : Hid (Clk.step s k n = s) := by unfold Hid Clk.step; rw [if_neg h1, if_neg h2, if_neg h3, if_neg h4]
    clear h1 h2 h3 h4
    go_enter Try.func12, Try.ntmps12
    go_wp2_with fail
    go_ret
    have W0 : Below w.heap.size w (w.alloc (.cells #[.int .i64 k, .int .i64 n] 33)) := (Below.refl _ _).alloc (Nat.le_refl _) _
    exact ⟨rfl, by rw [E.out]; exact h.below W0, Chg.of_below W0⟩

end Go.Proofs.Ytffdhpoljfmjoaa
