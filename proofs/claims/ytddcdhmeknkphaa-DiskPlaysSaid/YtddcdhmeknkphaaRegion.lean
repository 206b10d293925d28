/- A region that draws its order, by what holds of the operations that are done. No program in sight. -/
import Derived.Orders
import Derived.WalkKit
namespace Go.Proofs.Ytddcdhmeknkphaa

theorem ready_mem {md : Region.Mode} {ops : Array Oper} {listed : Array Bool} {i : Nat} (h : i ∈ Region.ready md ops listed) :
    ∃ o, ops[i]? = some o ∧ listed.getD i true = false ∧ ∀ e ∈ o.after, Region.binds md e = true → listed.getD e.on false = true := by
  unfold Region.ready at h
  rw [List.mem_filter] at h
  obtain ⟨-, h⟩ := h
  rw [Bool.and_eq_true] at h
  obtain ⟨h1, h2⟩ := h
  cases ho : ops[i]? with
  | none => rw [ho] at h2; simp at h2
  | some o =>
    rw [ho] at h2
    refine ⟨o, rfl, by simpa using h1, fun e he hb => ?_⟩
    simp only [Option.map_some, Option.getD_some, Array.all_eq_true'] at h2
    have := h2 e he
    rw [hb] at this
    simpa using this

theorem ready_all {md : Region.Mode} {ops : Array Oper} {listed : Array Bool} (hlow : ∀ (i : Nat) (o : Oper), ops[i]? = some o → ∀ e ∈ o.after, e.on < i) (hs : listed.size = ops.size)
    (h : Region.ready md ops listed = []) : ∀ n, ∀ i, i < n → i < ops.size → listed.getD i false = true := by
  intro n
  induction n with
  | zero => intro i hi; omega
  | succ n ih =>
    intro i hi hsz
    have hlo : ops[i]? = some ops[i] := Array.getElem?_eq_getElem hsz
    cases hl : listed.getD i true with
    | true => simpa [Array.getD, hs, hsz] using hl
    | false =>
      exfalso
      have : i ∈ Region.ready md ops listed := by
        unfold Region.ready
        rw [List.mem_filter]
        refine ⟨List.mem_range.2 hsz, ?_⟩
        rw [hl, hlo]
        simp only [Bool.not_false, Bool.true_and, Option.map_some, Option.getD_some, Array.all_eq_true']
        intro e he
        have hlt := hlow i _ hlo e he
        rw [ih e.on (by omega) (by omega)]
        simp
      rw [h] at this
      cases this

theorem wpAny_inv {P : Program} {md : Region.Mode} {ops : Array Oper} {Q : Exit → Act → World → Prop} (hlow : ∀ (i : Nat) (o : Oper), ops[i]? = some o → ∀ e ∈ o.after, e.on < i) (hg : ∀ (i : Nat) (o : Oper), ops[i]? = some o → o.guard = none)
    (I : (Nat → Bool) → Act → World → Prop)
    (hstep : ∀ (L : Nat → Bool) (a : Act) (w : World) (i : Nat) (o : Oper), I L a w → ops[i]? = some o → L i = false → (∀ e ∈ o.after, Region.binds md e = true → L e.on = true) → o.wp P a w (fun a' w' => I (fun k => k == i || L k) a' w') Q)
    (hend : ∀ (L : Nat → Bool) (a : Act) (w : World), I L a w → (∀ i, i < ops.size → L i = true) → Q .normal a w) :
    ∀ (fuel : Nat) (listed : Array Bool) (a : Act) (w : World), listed.size = ops.size → listed.toList.countP (fun b => !b) ≤ fuel → I (fun k => listed.getD k false) a w → wpAny P md ops Q fuel listed a w := by
  have hdone : ∀ (listed : Array Bool) (a : Act) (w : World), listed.size = ops.size → I (fun k => listed.getD k false) a w → Region.ready md ops listed = [] → Q .normal a w :=
    fun listed a w hs hI hr => hend _ a w hI fun i hi => ready_all hlow hs hr (i + 1) i (by omega) hi
  intro fuel
  induction fuel with
  | zero =>
    intro listed a w hs hc hI
    have hr : Region.ready md ops listed = [] := by
      rw [List.eq_nil_iff_forall_not_mem]
      intro i hi
      obtain ⟨o, ho, hl, -⟩ := ready_mem hi
      have hlt : i < listed.toList.length := by
        have := (Array.getElem?_eq_some_iff.1 ho).1
        simp; omega
      have hc0 := List.countP_eq_zero.1 (Nat.le_zero.1 hc) listed.toList[i] (List.getElem_mem hlt)
      have hlt' : i < listed.size := by simpa using hlt
      simp [Array.getD, hlt'] at hl
      simp [hl] at hc0
    exact ⟨hr, hdone listed a w hs hI hr⟩
  | succ fuel ih =>
    intro listed a w hs hc hI
    refine ⟨fun hr => hdone listed a w hs hI hr, fun i hi => ?_⟩
    obtain ⟨o, ho, hl, he⟩ := ready_mem hi
    have hlt' : i < listed.size := by
      have := (Array.getElem?_eq_some_iff.1 ho).1
      omega
    unfold wpOp
    rw [ho]
    simp only
    have hw : Region.wanted o (yielded ops a.tmps) = true := by simp [Region.wanted, hg i o ho]
    rw [if_pos hw]
    refine .inl (Oper.wp_mono (fun a' w' h => ?_) (hstep _ a w i o hI ho (by simpa [Array.getD, hlt'] using hl) he))
    refine ih _ a' w' (by simpa using hs) ?_ ?_
    · rw [Array.toList_setIfInBounds, List.countP_set (by simpa using hlt')]
      simp [Array.getD, hlt'] at hl
      have hgt : listed.toList[i]'(by simpa using hlt') = false := by simpa using hl
      have hmem : (listed.toList[i]'(by simpa using hlt')) ∈ listed.toList := List.getElem_mem _
      have hpos : 0 < listed.toList.countP (fun b => !b) := List.countP_pos_iff.2 ⟨_, hmem, by rw [hgt]; rfl⟩
      rw [hgt]
      simp only [Bool.not_false, Bool.not_true, if_true]
      simp only [Bool.false_eq_true, if_false]
      omega
    · have : (fun k => (listed.setIfInBounds i true).getD k false) = (fun k => k == i || listed.getD k false) := by
        funext k
        by_cases hk : k = i
        · subst hk; simp [Array.getD, hlt']
        · have hk' : ¬ i = k := fun e => hk e.symm
          have e1 : (k == i) = false := beq_eq_false_iff_ne.2 hk
          rw [e1, Bool.false_or]
          by_cases hkl : k < listed.size
          · simp [Array.getD, hkl, Array.getElem_setIfInBounds, hk']
          · simp [Array.getD, hkl]
      rw [this]
      exact h

theorem low_of_check {ops : Array Oper} (h : (List.range ops.size).all (fun i => ((ops[i]?).map (fun o => o.after.all fun e => decide (e.on < i))).getD true) = true) : ∀ (i : Nat) (o : Oper), ops[i]? = some o → ∀ e ∈ o.after, e.on < i := by
  intro i o ho e he
  rw [List.all_eq_true] at h
  have := h i (List.mem_range.2 (Array.getElem?_eq_some_iff.1 ho).1)
  rw [ho] at this
  simp only [Option.map_some, Option.getD_some, Array.all_eq_true'] at this
  exact of_decide_eq_true (this e he)

theorem guard_of_check {ops : Array Oper} (h : ops.all (fun o => o.guard.isNone) = true) : ∀ (i : Nat) (o : Oper), ops[i]? = some o → o.guard = none := by
  intro i o ho
  rw [Array.all_eq_true'] at h
  exact Option.isNone_iff_eq_none.1 (h o (Array.mem_of_getElem? ho))

/-- a region that draws its order: what holds at its head, behind each operation, and gives the end -/
theorem wp_region_inv {P : Program} {id : Nat} {ops : Array Oper} {Q : Exit → Act → World → Prop} {a0 : Act} {w0 : World} (hm : P.follows .mixedOrders = true)
    (hlow : ∀ (i : Nat) (o : Oper), ops[i]? = some o → ∀ e ∈ o.after, e.on < i) (hg : ∀ (i : Nat) (o : Oper), ops[i]? = some o → o.guard = none)
    (J : Act → World → (Nat → Bool) → Act → World → Prop) (hI : J a0 w0 (fun _ => false) a0 w0.drew)
    (hstep : ∀ (L : Nat → Bool) (a : Act) (w : World) (i : Nat) (o : Oper), J a0 w0 L a w → ops[i]? = some o → L i = false → (∀ e ∈ o.after, Region.binds .any e = true → L e.on = true) → o.wp P a w (fun a' w' => J a0 w0 (fun k => k == i || L k) a' w') Q)
    (hend : ∀ (L : Nat → Bool) (a : Act) (w : World), J a0 w0 L a w → (∀ i, i < ops.size → L i = true) → Q .normal a w) : (Code.region id ops true).wp P Q a0 w0 := by
  refine wp_region_any hm (wpAny_inv hlow hg (J a0 w0) hstep hend ops.size (Array.replicate ops.size false) a0 _ (by simp) ?_ ?_)
  · simp [List.countP_replicate]
  · have : (fun k => (Array.replicate ops.size false).getD k false) = fun _ => false := by
      funext k
      simp only [Array.getD]
      split <;> simp
    rw [this]
    exact hI

theorem wp_val {P : Program} {o : Oper} {a : Act} {w w' : World} {K : Act → World → Prop} {Q : Exit → Act → World → Prop} {v : Value} (hr : (execOp a.eval o).run P w = .ok (.value v) w') (h : K (a.put o.dst v) w') : o.wp P a w K Q := by
  unfold Oper.wp
  rw [hr]
  exact h

theorem wp_enter {P : Program} {o : Oper} {a : Act} {w w' : World} {K : Act → World → Prop} {Q : Exit → Act → World → Prop} {f : FuncId} {args : Array Value} (hr : (execOp a.eval o).run P w = .ok (.enter f args) w') (h : Calls P f args w' fun e w'' => ∃ v, e = .returned v ∧ K (a.put o.dst v) w'') : o.wp P a w K Q := by
  unfold Oper.wp
  rw [hr]
  refine h.mono ?_
  rintro e w'' ⟨v, rfl, hk⟩
  exact hk

/-- a value is laid into a slot -/
theorem act_put_far {a a0 : Act} {d k : Nat} {v : Value} (hk : d ≠ k) (h : a.eval (.tmp k) = a0.eval (.tmp k)) : (a.put (some d) v).eval (.tmp k) = a0.eval (.tmp k) := by
  rw [← h]
  simp only [Act.put, Act.eval, Array.getD_eq_getD_getElem?]
  rw [Array.getElem?_setIfInBounds_ne hk]

theorem act_put_same {a : Act} {d : Nat} {v : Value} (h : d < a.tmps.size) : (a.put (some d) v).eval (.tmp d) = v := by
  simp [Act.put, Act.eval, Array.getD, h]

/-- a state, slot by slot -/
theorem act_eq {a b : Act} (hd : a.defers = b.defers) (hs : a.tmps.size = b.tmps.size) (h : ∀ k, k < b.tmps.size → a.eval (.tmp k) = b.eval (.tmp k)) : a = b := by
  obtain ⟨t, d⟩ := a
  obtain ⟨t', d'⟩ := b
  simp only at hd hs
  subst hd
  congr 1
  refine Array.ext hs fun i h1 h2 => ?_
  have := h i h2
  simp only [Act.eval, Array.getD, h1, h2, dif_pos] at this
  exact this

end Go.Proofs.Ytddcdhmeknkphaa
