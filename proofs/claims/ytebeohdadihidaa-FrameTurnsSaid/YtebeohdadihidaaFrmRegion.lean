/- frame.Unpack's region of three calls and two new arrays: what holds behind each operation. -/
import Derived.Test.YtebeohdadihidaaFrmRefUnpack
import Derived.Test.YtebeohdadihidaaRegion
namespace Go.Proofs.Ytebeohdadihidaa
open Go.RowKit

/-- an array of four bytes, new: its slot s, made by operation i, filled by operation f with c -/
def NewArr (s i f : Nat) (c : Array Value) (w0 : World) (L : Nat → Bool) (a : Act) (w : World) : Prop :=
  L i = true → ∃ p cs, a.eval (.tmp s) = .pointer (some ⟨p, 0, none⟩) ∧ w.heap[p]? = some (.cells cs 40 (0, 0)) ∧ cs.size = 4 ∧ w0.heap.size ≤ p ∧ (L f = true → cs = c)

structure UnSt (facts : List (Nat × Nat × Value)) (c8 c9 : Array Value) (a0 : Act) (w0 : World) (L : Nat → Bool) (a : Act) (w : World) : Prop where
  defers : a.defers = a0.defers
  size : a.tmps.size = a0.tmps.size
  far : ∀ k : Nat, (k < 8 ∨ (10 ≤ k ∧ k < 42) ∨ 51 ≤ k) → a.eval (.tmp k) = a0.eval (.tmp k)
  vals : ∀ f ∈ facts, L f.1 = true → a.eval (.tmp f.2.1) = f.2.2
  bel : Below w0.heap.size w0 w
  s8 : NewArr 8 9 11 c8 w0 L a w
  s9 : NewArr 9 10 12 c9 w0 L a w
  ne : L 9 = true → L 10 = true → a.eval (.tmp 8) ≠ a.eval (.tmp 9)
  o11 : L 11 = true → L 9 = true
  o12 : L 12 = true → L 10 = true

section
variable {facts : List (Nat × Nat × Value)} {c8 c9 : Array Value} {a0 : Act} {w0 : World} {L : Nat → Bool} {a : Act} {w : World}

theorem L_ne {i j : Nat} (h : j ≠ i) : (j == i || L j) = L j := by rw [beq_eq_false_iff_ne.2 h, Bool.false_or]
theorem L_eq {i : Nat} : (i == i || L i) = true := by simp

theorem NewArr.keep {s i f d j : Nat} {c : Array Value} {v : Value} {w' : World} (h : NewArr s i f c w0 L a w) (hs : d ≠ s) (hi : i ≠ j) (hf : f ≠ j) (hb : Below w.heap.size w w') : NewArr s i f c w0 (fun k => k == j || L k) (a.put (some d) v) w' := by
  intro hl
  simp only [L_ne hi] at hl
  obtain ⟨p, cs, h1, h2, h3, h4, h5⟩ := h hl
  refine ⟨p, cs, act_put_far (a0 := a) hs rfl |>.trans h1, (hb.block p (lt_of_block h2)).trans h2, h3, h4, fun h => h5 ?_⟩
  simpa only [L_ne hf] using h

/-- an operation that leaves a value, and perhaps new blocks -/
theorem UnSt.val (h : UnSt facts c8 c9 a0 w0 L a w) {i d : Nat} {v : Value} {w' : World} (hd0 : 42 ≤ d) (hd1 : d ≤ 50) (hsz : 51 ≤ a0.tmps.size) (hi : i ≤ 8) (hf : ∀ f ∈ facts, (f.1 = i → f.2.1 = d ∧ f.2.2 = v) ∧ (f.1 ≠ i → f.2.1 ≠ d)) (hb : Below w.heap.size w w') :
    UnSt facts c8 c9 a0 w0 (fun k => k == i || L k) (a.put (some d) v) w' := by
  have hsd : d < a.tmps.size := by rw [h.size]; omega
  refine ⟨h.defers, by rw [← h.size]; simp [Act.put], fun k hk => ?_, fun f hm hl => ?_, h.bel.trans (hb.mono h.bel.size), h.s8.keep (by omega) (by omega) (by omega) hb, h.s9.keep (by omega) (by omega) (by omega) hb, ?_, ?_, ?_⟩
  · have hdk : d ≠ k := by rcases hk with hk | ⟨hk, hk'⟩ | hk <;> omega
    exact act_put_far hdk (h.far k hk)
  · by_cases he : f.1 = i
    · obtain ⟨e1, e2⟩ := (hf f hm).1 he
      rw [e1, e2]
      exact act_put_same hsd
    · simp only [L_ne he] at hl
      exact (act_put_far (a0 := a) (fun e => (hf f hm).2 he e.symm) rfl).trans (h.vals f hm hl)
  · simp only [L_ne (show 9 ≠ i by omega), L_ne (show 10 ≠ i by omega)]
    intro h1 h2
    rw [act_put_far (a0 := a) (k := 8) (by omega) rfl, act_put_far (a0 := a) (k := 9) (by omega) rfl]
    exact h.ne h1 h2
  · simp only [L_ne (show 11 ≠ i by omega), L_ne (show 9 ≠ i by omega)]; exact h.o11
  · simp only [L_ne (show 12 ≠ i by omega), L_ne (show 10 ≠ i by omega)]; exact h.o12

theorem UnSt.new8 (h : UnSt facts c8 c9 a0 w0 L a w) (hl9 : L 9 = false) (hsz : 51 ≤ a0.tmps.size) (hf : ∀ f ∈ facts, f.1 ≤ 8 ∧ 42 ≤ f.2.1) (cs : Array Value) (hcs : cs.size = 4) :
    UnSt facts c8 c9 a0 w0 (fun k => k == 9 || L k) (a.put (some 8) (.pointer (some ⟨w.heap.size, 0, none⟩))) (w.alloc (.cells cs 40)) := by
  have hsd : 8 < a.tmps.size := by rw [h.size]; omega
  have hb : Below w.heap.size w (w.alloc (.cells cs 40)) := (Below.refl _ _).alloc (Nat.le_refl _) _
  have hl11 : L 11 = false := by
    cases h11 : L 11 with
    | false => rfl
    | true => rw [h.o11 h11] at hl9; cases hl9
  refine ⟨h.defers, by rw [← h.size]; simp [Act.put], fun k hk => ?_, fun f hm hl => ?_, h.bel.trans (hb.mono h.bel.size), ?_, h.s9.keep (by omega) (by omega) (by omega) hb, ?_, ?_, ?_⟩
  · have hdk : 8 ≠ k := by rcases hk with hk | ⟨hk, hk'⟩ | hk <;> omega
    exact act_put_far hdk (h.far k hk)
  · obtain ⟨f1, f2⟩ := hf f hm
    simp only [L_ne (show f.1 ≠ 9 by omega)] at hl
    exact (act_put_far (a0 := a) (by omega) rfl).trans (h.vals f hm hl)
  · intro _
    refine ⟨_, cs, act_put_same hsd, heap_alloc_new _ _, hcs, h.bel.size, fun e => ?_⟩
    simp only [L_ne (show 11 ≠ 9 by omega)] at e
    rw [hl11] at e; cases e
  · simp only [L_ne (show 10 ≠ 9 by omega)]
    intro _ h2
    obtain ⟨q, cs', h3, h4, -⟩ := h.s9 h2
    rw [act_put_same hsd, act_put_far (a0 := a) (k := 9) (by omega) rfl, h3]
    intro e
    have := lt_of_block h4
    simp at e
    all_goals omega
  · intro _; exact L_eq
  · simp only [L_ne (show 12 ≠ 9 by omega), L_ne (show 10 ≠ 9 by omega)]; exact h.o12

theorem UnSt.new9 (h : UnSt facts c8 c9 a0 w0 L a w) (hl9 : L 10 = false) (hsz : 51 ≤ a0.tmps.size) (hf : ∀ f ∈ facts, f.1 ≤ 8 ∧ 42 ≤ f.2.1) (cs : Array Value) (hcs : cs.size = 4) :
    UnSt facts c8 c9 a0 w0 (fun k => k == 10 || L k) (a.put (some 9) (.pointer (some ⟨w.heap.size, 0, none⟩))) (w.alloc (.cells cs 40)) := by
  have hsd : 9 < a.tmps.size := by rw [h.size]; omega
  have hb : Below w.heap.size w (w.alloc (.cells cs 40)) := (Below.refl _ _).alloc (Nat.le_refl _) _
  have hl12 : L 12 = false := by
    cases h12 : L 12 with
    | false => rfl
    | true => rw [h.o12 h12] at hl9; cases hl9
  refine ⟨h.defers, by rw [← h.size]; simp [Act.put], fun k hk => ?_, fun f hm hl => ?_, h.bel.trans (hb.mono h.bel.size), h.s8.keep (by omega) (by omega) (by omega) hb, ?_, ?_, ?_, ?_⟩
  · have hdk : 9 ≠ k := by rcases hk with hk | ⟨hk, hk'⟩ | hk <;> omega
    exact act_put_far hdk (h.far k hk)
  · obtain ⟨f1, f2⟩ := hf f hm
    simp only [L_ne (show f.1 ≠ 10 by omega)] at hl
    exact (act_put_far (a0 := a) (by omega) rfl).trans (h.vals f hm hl)
  · intro _
    refine ⟨_, cs, act_put_same hsd, heap_alloc_new _ _, hcs, h.bel.size, fun e => ?_⟩
    simp only [L_ne (show 12 ≠ 10 by omega)] at e
    rw [hl12] at e; cases e
  · simp only [L_ne (show 9 ≠ 10 by omega)]
    intro h2 _
    obtain ⟨q, cs', h3, h4, -⟩ := h.s8 h2
    rw [act_put_same hsd, act_put_far (a0 := a) (k := 8) (by omega) rfl, h3]
    intro e
    have := lt_of_block h4
    simp at e
    all_goals omega
  · simp only [L_ne (show 11 ≠ 10 by omega), L_ne (show 9 ≠ 10 by omega)]; exact h.o11
  · intro _; exact L_eq

theorem put_none (a : Act) (v : Value) : a.put none v = a := rfl

/-- the first array is filled -/
theorem UnSt.fill8 (h : UnSt facts c8 c9 a0 w0 L a w) (hl : L 9 = true) (hf : ∀ f ∈ facts, f.1 ≤ 8) (hc : c8.size = 4) :
    ∃ p cs, a.eval (.tmp 8) = .pointer (some ⟨p, 0, none⟩) ∧ w.heap[p]? = some (.cells cs 40 (0, 0)) ∧ cs.size = 4 ∧ UnSt facts c8 c9 a0 w0 (fun k => k == 11 || L k) a (w.setRow p c8) := by
  obtain ⟨p, cs, h1, h2, h3, h4, -⟩ := h.s8 hl
  refine ⟨p, cs, h1, h2, h3, h.defers, h.size, h.far, fun f hm hl' => ?_, below_setRow h.bel h4 _, ?_, ?_, ?_, ?_, ?_⟩
  · have := hf f hm
    simp only [L_ne (show f.1 ≠ 11 by omega)] at hl'
    exact h.vals f hm hl'
  · intro _
    exact ⟨p, c8, h1, setRow_heap _ _ _ _ _ _ h2, hc, h4, fun _ => rfl⟩
  · intro h10
    simp only [L_ne (show 10 ≠ 11 by omega)] at h10
    obtain ⟨q, cs', g1, g2, g3, g4, g5⟩ := h.s9 h10
    have hne : q ≠ p := by
      intro e
      subst e
      exact h.ne hl h10 (by rw [h1, g1])
    refine ⟨q, cs', g1, (setRow_other _ _ _ _ hne).trans g2, g3, g4, fun e => g5 ?_⟩
    simpa only [L_ne (show 12 ≠ 11 by omega)] using e
  · simp only [L_ne (show 9 ≠ 11 by omega), L_ne (show 10 ≠ 11 by omega)]; exact h.ne
  · intro _; simp only [L_ne (show 9 ≠ 11 by omega)]; exact hl
  · simp only [L_ne (show 12 ≠ 11 by omega), L_ne (show 10 ≠ 11 by omega)]; exact h.o12

theorem UnSt.fill9 (h : UnSt facts c8 c9 a0 w0 L a w) (hl : L 10 = true) (hf : ∀ f ∈ facts, f.1 ≤ 8) (hc : c9.size = 4) :
    ∃ p cs, a.eval (.tmp 9) = .pointer (some ⟨p, 0, none⟩) ∧ w.heap[p]? = some (.cells cs 40 (0, 0)) ∧ cs.size = 4 ∧ UnSt facts c8 c9 a0 w0 (fun k => k == 12 || L k) a (w.setRow p c9) := by
  obtain ⟨p, cs, h1, h2, h3, h4, -⟩ := h.s9 hl
  refine ⟨p, cs, h1, h2, h3, h.defers, h.size, h.far, fun f hm hl' => ?_, below_setRow h.bel h4 _, ?_, ?_, ?_, ?_, ?_⟩
  · have := hf f hm
    simp only [L_ne (show f.1 ≠ 12 by omega)] at hl'
    exact h.vals f hm hl'
  · intro h9
    simp only [L_ne (show 9 ≠ 12 by omega)] at h9
    obtain ⟨q, cs', g1, g2, g3, g4, g5⟩ := h.s8 h9
    have hne : q ≠ p := by
      intro e
      subst e
      exact h.ne h9 hl (by rw [h1, g1])
    refine ⟨q, cs', g1, (setRow_other _ _ _ _ hne).trans g2, g3, g4, fun e => g5 ?_⟩
    simpa only [L_ne (show 11 ≠ 12 by omega)] using e
  · intro _
    exact ⟨p, c9, h1, setRow_heap _ _ _ _ _ _ h2, hc, h4, fun _ => rfl⟩
  · simp only [L_ne (show 9 ≠ 12 by omega), L_ne (show 10 ≠ 12 by omega)]; exact h.ne
  · simp only [L_ne (show 11 ≠ 12 by omega), L_ne (show 9 ≠ 12 by omega)]; exact h.o11
  · intro _; simp only [L_ne (show 10 ≠ 12 by omega)]; exact hl

/-- slots laid anew -/
def laid (a0 : Act) : List (Nat × Value) → Act
  | [] => a0
  | x :: l => (laid a0 l).put (some x.1) x.2

theorem laid_size (a0 : Act) (l : List (Nat × Value)) : (laid a0 l).tmps.size = a0.tmps.size := by
  induction l with
  | nil => rfl
  | cons d l ih => rw [← ih]; simp [laid, Act.put]

theorem laid_defers (a0 : Act) (l : List (Nat × Value)) : (laid a0 l).defers = a0.defers := by
  induction l with
  | nil => rfl
  | cons d l ih => rw [← ih]; rfl

theorem laid_eval (a0 a : Act) (l : List (Nat × Value)) (hl : ∀ x ∈ l, x.1 < a0.tmps.size) (hv : ∀ x ∈ l, a.eval (.tmp x.1) = x.2) (k : Nat) : (laid a0 l).eval (.tmp k) = if k ∈ l.map (·.1) then a.eval (.tmp k) else a0.eval (.tmp k) := by
  induction l with
  | nil => simp [laid]
  | cons d l ih =>
    by_cases e : k = d.1
    · subst e
      rw [if_pos (by simp), hv _ List.mem_cons_self]
      exact act_put_same (by rw [laid_size]; exact hl _ List.mem_cons_self)
    · have h1 : (laid a0 (d :: l)).eval (.tmp k) = (laid a0 l).eval (.tmp k) := act_put_far (fun x => e x.symm) rfl
      rw [h1, ih (fun d hd => hl d (List.mem_cons_of_mem _ hd)) (fun d hd => hv d (List.mem_cons_of_mem _ hd))]
      by_cases hm : k ∈ l.map (·.1)
      · have hm' : k ∈ (d :: l).map (·.1) := List.mem_cons_of_mem _ hm
        rw [if_pos hm, if_pos hm']
      · have hm' : ¬ k ∈ (d :: l).map (·.1) := by rw [List.map_cons, List.mem_cons]; exact fun h => h.elim e hm
        rw [if_neg hm, if_neg hm']

/-- the state, written out over the state ahead -/
theorem UnSt.shape (h : UnSt facts c8 c9 a0 w0 L a w) (hsz : 51 ≤ a0.tmps.size) (l : List (Nat × Value)) (hk : l.map (·.1) = [8, 9, 42, 43, 44, 45, 46, 47, 48, 49, 50]) (hv : ∀ x ∈ l, a.eval (.tmp x.1) = x.2) : a = laid a0 l := by
  have hlt : ∀ x ∈ l, x.1 < a0.tmps.size := by
    intro x hx
    have : x.1 ∈ l.map (·.1) := List.mem_map.2 ⟨x, hx, rfl⟩
    rw [hk] at this
    simp only [List.mem_cons, List.not_mem_nil, or_false] at this
    omega
  refine act_eq (by rw [laid_defers]; exact h.defers) (by rw [laid_size]; exact h.size) fun (k : Nat) _ => ?_
  rw [laid_eval _ a _ hlt hv, hk]
  by_cases hm : k ∈ [8, 9, 42, 43, 44, 45, 46, 47, 48, 49, 50]
  · rw [if_pos hm]
  · rw [if_neg hm]
    simp only [List.mem_cons, List.not_mem_nil, or_false, not_or] at hm
    exact h.far k (by omega)

/-- ahead of all -/
theorem UnSt.start : UnSt facts c8 c9 a0 w0 (fun _ => false) a0 w0.drew where
  defers := rfl
  size := rfl
  far := fun _ _ => rfl
  vals := fun _ _ h => by cases h
  bel := ⟨rfl, rfl, rfl, Nat.le_refl _, fun _ _ => rfl⟩
  s8 := fun h => by cases h
  s9 := fun h => by cases h
  ne := fun h => by cases h
  o11 := fun h => by cases h
  o12 := fun h => by cases h
end

end Go.Proofs.Ytebeohdadihidaa
