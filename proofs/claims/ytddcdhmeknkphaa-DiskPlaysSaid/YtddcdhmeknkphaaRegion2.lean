/- A region that draws its order: what each slot holds once its operation is done. No program in sight. -/
import Derived.Test.YtddcdhmeknkphaaRegion
namespace Go.Proofs.Ytddcdhmeknkphaa

def dstOf (ops : Array Oper) (i : Nat) : Option Nat := (ops[i]?).bind (·.dst)
/-- each slot is laid by one operation -/
def dstsOk (ops : Array Oper) (n : Nat) : Bool := (List.range ops.size).all fun i => match dstOf ops i with
  | none => true
  | some d => decide (d < n) && (List.range ops.size).all fun j => decide (j = i) || !(dstOf ops j == some d)
/-- a slot that the region does not lay -/
def farB (ops : Array Oper) (k : Nat) : Bool := (List.range ops.size).all fun j => !(dstOf ops j == some k)

theorem dstOf_eq {ops : Array Oper} {i : Nat} {o : Oper} (h : ops[i]? = some o) : dstOf ops i = o.dst := by unfold dstOf; rw [h]; rfl

theorem dsts_lt {ops : Array Oper} {n i d : Nat} {o : Oper} (h : dstsOk ops n = true) (ho : ops[i]? = some o) (hd : o.dst = some d) : d < n := by
  unfold dstsOk at h
  rw [List.all_eq_true] at h
  have := h i (List.mem_range.2 (Array.getElem?_eq_some_iff.1 ho).1)
  rw [dstOf_eq ho, hd] at this
  simp only [Bool.and_eq_true] at this
  exact of_decide_eq_true this.1

theorem dsts_ne {ops : Array Oper} {n i j d e : Nat} {o o' : Oper} (h : dstsOk ops n = true) (ho : ops[i]? = some o) (hd : o.dst = some d) (ho' : ops[j]? = some o') (he : o'.dst = some e) (hij : j ≠ i) : d ≠ e := by
  unfold dstsOk at h
  rw [List.all_eq_true] at h
  have := h i (List.mem_range.2 (Array.getElem?_eq_some_iff.1 ho).1)
  rw [dstOf_eq ho, hd] at this
  simp only [Bool.and_eq_true, List.all_eq_true] at this
  have := this.2 j (List.mem_range.2 (Array.getElem?_eq_some_iff.1 ho').1)
  rw [dstOf_eq ho', he, decide_eq_false hij] at this
  intro e1
  subst e1
  simp at this

theorem farB_ne {ops : Array Oper} {k i : Nat} {o : Oper} (h : farB ops k = true) (ho : ops[i]? = some o) : o.dst ≠ some k := by
  unfold farB at h
  rw [List.all_eq_true] at h
  have := h i (List.mem_range.2 (Array.getElem?_eq_some_iff.1 ho).1)
  rw [dstOf_eq ho] at this
  intro e
  rw [e] at this
  simp at this

structure RegSt (ops : Array Oper) (spec : (Nat → Bool) → Nat → Value → World → Prop) (J : (Nat → Bool) → World → Prop) (a0 : Act) (L : Nat → Bool) (a : Act) (w : World) : Prop where
  defers : a.defers = a0.defers
  size : a.tmps.size = a0.tmps.size
  far : ∀ k : Nat, farB ops k = true → a.eval (.tmp k) = a0.eval (.tmp k)
  val : ∀ (i : Nat) (o : Oper) (d : Nat), ops[i]? = some o → o.dst = some d → L i = true → spec L i (a.eval (.tmp d)) w
  world : J L w
  closed : ∀ (i : Nat) (o : Oper), ops[i]? = some o → L i = true → ∀ e ∈ o.after, Region.binds .any e = true → L e.on = true

theorem RegSt.next {ops : Array Oper} {spec : (Nat → Bool) → Nat → Value → World → Prop} {J : (Nat → Bool) → World → Prop} {a0 : Act} {L : Nat → Bool} {a : Act} {w w' : World} {i : Nat} {o : Oper} {v : Value}
    (h : RegSt ops spec J a0 L a w) (hd : dstsOk ops a0.tmps.size = true) (ho : ops[i]? = some o) (hs : spec (fun k => k == i || L k) i v w') (hT : ∀ j u, L j = true → j ≠ i → spec L j u w → spec (fun k => k == i || L k) j u w') (hJ : J (fun k => k == i || L k) w') (he : ∀ e ∈ o.after, Region.binds .any e = true → L e.on = true) :
    RegSt ops spec J a0 (fun k => k == i || L k) (a.put o.dst v) w' := by
  have hcl : ∀ (j : Nat) (o' : Oper), ops[j]? = some o' → (j == i || L j) = true → ∀ e ∈ o'.after, Region.binds .any e = true → (e.on == i || L e.on) = true := by
    intro j o' ho' hl e hm hb
    rw [Bool.or_eq_true]
    right
    by_cases ej : j = i
    · subst ej
      rw [ho] at ho'
      obtain rfl := Option.some.inj ho'
      exact he e hm hb
    · rw [beq_eq_false_iff_ne.2 ej, Bool.false_or] at hl
      exact h.closed j o' ho' hl e hm hb
  cases hdst : o.dst with
  | none =>
    refine ⟨h.defers, h.size, fun k hk => h.far k hk, fun j o' d' ho' hd' hl => ?_, hJ, hcl⟩
    by_cases e : j = i
    · subst e
      rw [ho] at ho'
      obtain rfl := Option.some.inj ho'
      rw [hdst] at hd'
      cases hd'
    · have hl' : L j = true := by
        simp only [beq_eq_false_iff_ne.2 e, Bool.false_or] at hl
        exact hl
      exact hT j _ hl' e (h.val j o' d' ho' hd' hl')
  | some d =>
    have hlt : d < a.tmps.size := by rw [h.size]; exact dsts_lt hd ho hdst
    refine ⟨h.defers, by rw [← h.size]; simp [Act.put], fun k hk => ?_, fun j o' d' ho' hd' hl => ?_, hJ, hcl⟩
    · exact act_put_far (fun e => farB_ne hk ho (by rw [hdst, e])) (h.far k hk)
    · by_cases e : j = i
      · subst e
        rw [ho] at ho'
        obtain rfl := Option.some.inj ho'
        rw [hdst] at hd'
        obtain rfl := Option.some.inj hd'
        rw [act_put_same hlt]
        exact hs
      · have hl' : L j = true := by
          simp only [beq_eq_false_iff_ne.2 e, Bool.false_or] at hl
          exact hl
        have := act_put_far (a := a) (a0 := a) (v := v) (dsts_ne hd ho hdst ho' hd' e) rfl
        rw [this]
        exact hT j _ hl' e (h.val j o' d' ho' hd' hl')

theorem edge {o : Oper} {L : Nat → Bool} (he : ∀ e ∈ o.after, Region.binds .any e = true → L e.on = true) (j : Nat) (hj : (o.after.any fun e => e.on == j && Region.binds .any e) = true) : L j = true := by
  rw [Array.any_eq_true'] at hj
  obtain ⟨e, hm, h⟩ := hj
  rw [Bool.and_eq_true, beq_iff_eq] at h
  have := he e hm h.2
  rw [h.1] at this
  exact this

/-- one operation's way: wanted, and what it leaves; or not wanted -/
def OpWay (P : Program) (ops : Array Oper) (spec : (Nat → Bool) → Nat → Value → World → Prop) (J : (Nat → Bool) → World → Prop) (Q : Exit → Act → World → Prop) (L : Nat → Bool) (a : Act) (w : World) (i : Nat) (o : Oper) : Prop :=
  (Region.wanted o (yielded ops a.tmps) = true ∧ o.wp P a w (fun a' w' => ∃ v, a' = a.put o.dst v ∧ spec (fun k => k == i || L k) i v w' ∧ (∀ j u, L j = true → j ≠ i → spec L j u w → spec (fun k => k == i || L k) j u w') ∧ J (fun k => k == i || L k) w') Q) ∨
  (Region.wanted o (yielded ops a.tmps) = false ∧ spec (fun k => k == i || L k) i undef w ∧ (∀ j u, L j = true → j ≠ i → spec L j u w → spec (fun k => k == i || L k) j u w) ∧ J (fun k => k == i || L k) w)

theorem wpAny_spec {P : Program} {ops : Array Oper} {Q : Exit → Act → World → Prop} (hlow : ∀ (i : Nat) (o : Oper), ops[i]? = some o → ∀ e ∈ o.after, e.on < i)
    (spec : (Nat → Bool) → Nat → Value → World → Prop) (J : (Nat → Bool) → World → Prop) (a0 : Act) (hd : dstsOk ops a0.tmps.size = true)
    (hstep : ∀ (L : Nat → Bool) (a : Act) (w : World) (i : Nat) (o : Oper), RegSt ops spec J a0 L a w → ops[i]? = some o → L i = false → (∀ e ∈ o.after, Region.binds .any e = true → L e.on = true) → OpWay P ops spec J Q L a w i o)
    (hend : ∀ (L : Nat → Bool) (a : Act) (w : World), RegSt ops spec J a0 L a w → (∀ i, i < ops.size → L i = true) → Q .normal a w) :
    ∀ (fuel : Nat) (listed : Array Bool) (a : Act) (w : World), listed.size = ops.size → listed.toList.countP (fun b => !b) ≤ fuel → RegSt ops spec J a0 (fun k => listed.getD k false) a w → wpAny P .any ops Q fuel listed a w := by
  have hdone : ∀ (listed : Array Bool) (a : Act) (w : World), listed.size = ops.size → RegSt ops spec J a0 (fun k => listed.getD k false) a w → Region.ready .any ops listed = [] → Q .normal a w :=
    fun listed a w hs hI hr => hend _ a w hI fun i hi => ready_all hlow hs hr (i + 1) i (by omega) hi
  intro fuel
  induction fuel with
  | zero =>
    intro listed a w hs hc hI
    have hr : Region.ready .any ops listed = [] := by
      rw [List.eq_nil_iff_forall_not_mem]
      intro i hi
      obtain ⟨o, ho, hl, -⟩ := ready_mem hi
      have hlt : i < listed.toList.length := by
        have := (Array.getElem?_eq_some_iff.1 ho).1
        simp; omega
      have hc0 := List.countP_eq_zero.1 (Nat.le_zero.1 hc) listed.toList[i] (List.getElem_mem hlt)
      have hlt' : i < listed.size := by simpa using hlt
      simp [Array.getD, hlt'] at hl
      simp [hl] at hc0
    exact ⟨hr, hdone listed a w hs hI hr⟩
  | succ fuel ih =>
    intro listed a w hs hc hI
    refine ⟨fun hr => hdone listed a w hs hI hr, fun i hi => ?_⟩
    obtain ⟨o, ho, hl, he⟩ := ready_mem hi
    have hlt' : i < listed.size := by
      have := (Array.getElem?_eq_some_iff.1 ho).1
      omega
    have hcnt : (listed.setIfInBounds i true).toList.countP (fun b => !b) ≤ fuel := by
      rw [Array.toList_setIfInBounds, List.countP_set (by simpa using hlt')]
      simp [Array.getD, hlt'] at hl
      have hgt : listed.toList[i]'(by simpa using hlt') = false := by simpa using hl
      have hmem : (listed.toList[i]'(by simpa using hlt')) ∈ listed.toList := List.getElem_mem _
      have hpos : 0 < listed.toList.countP (fun b => !b) := List.countP_pos_iff.2 ⟨_, hmem, by rw [hgt]; rfl⟩
      rw [hgt]
      simp only [Bool.not_false, Bool.not_true, if_true]
      simp only [Bool.false_eq_true, if_false]
      omega
    have hL : (fun k => (listed.setIfInBounds i true).getD k false) = (fun k => k == i || listed.getD k false) := by
      funext k
      by_cases hk : k = i
      · subst hk; simp [Array.getD, hlt']
      · have hk' : ¬ i = k := fun e => hk e.symm
        have e1 : (k == i) = false := beq_eq_false_iff_ne.2 hk
        rw [e1, Bool.false_or]
        by_cases hkl : k < listed.size
        · simp [Array.getD, hkl, Array.getElem_setIfInBounds, hk']
        · simp [Array.getD, hkl]
    unfold wpOp
    rw [ho]
    simp only
    rcases hstep _ a w i o hI ho (by simpa [Array.getD, hlt'] using hl) he with ⟨hw, hwp⟩ | ⟨hw, hsp, hk, hj⟩
    · rw [if_pos hw]
      refine .inl (Oper.wp_mono (fun a' w' h => ?_) hwp)
      obtain ⟨v, rfl, h1, h2, h3⟩ := h
      refine ih _ _ w' (by simpa using hs) hcnt ?_
      rw [hL]
      exact hI.next hd ho h1 h2 h3 he
    · rw [if_neg (by rw [hw]; exact Bool.false_ne_true)]
      refine ih _ _ w (by simpa using hs) hcnt ?_
      rw [hL]
      exact hI.next hd ho hsp hk hj he

/-- a region that draws its order: what each operation leaves, and what holds of the world behind those that are done -/
theorem wp_region_spec {P : Program} {id : Nat} {ops : Array Oper} {Q : Exit → Act → World → Prop} {a0 : Act} {w0 : World} (hm : P.follows .mixedOrders = true)
    (hlow : ∀ (i : Nat) (o : Oper), ops[i]? = some o → ∀ e ∈ o.after, e.on < i) (spec : (Nat → Bool) → Nat → Value → World → Prop) (J : (Nat → Bool) → World → Prop) (hd : dstsOk ops a0.tmps.size = true) (h0 : J (fun _ => false) w0.drew)
    (hstep : ∀ (L : Nat → Bool) (a : Act) (w : World) (i : Nat) (o : Oper), RegSt ops spec J a0 L a w → ops[i]? = some o → L i = false → (∀ e ∈ o.after, Region.binds .any e = true → L e.on = true) → OpWay P ops spec J Q L a w i o)
    (hend : ∀ (L : Nat → Bool) (a : Act) (w : World), RegSt ops spec J a0 L a w → (∀ i, i < ops.size → L i = true) → Q .normal a w) : (Code.region id ops true).wp P Q a0 w0 := by
  refine wp_region_any hm (wpAny_spec hlow spec J a0 hd hstep hend ops.size (Array.replicate ops.size false) a0 _ (by simp) ?_ ?_)
  · simp [List.countP_replicate]
  · have : (fun k => (Array.replicate ops.size false).getD k false) = fun _ => false := by
      funext k
      simp only [Array.getD]
      split <;> simp
    rw [this]
    exact ⟨rfl, rfl, fun _ _ => rfl, fun _ _ _ _ _ h => by (cases h), h0, fun _ _ _ h => by (cases h)⟩

theorem yielded_of {ops : Array Oper} {a : Act} {j d : Nat} {b : Bool} (hj : dstOf ops j = some d) (he : a.eval (.tmp d) = .bool b) : yielded ops a.tmps j = some b := by
  unfold yielded
  unfold dstOf at hj
  rw [hj]
  simp only [Act.eval, Array.getD_eq_getD_getElem?] at he
  simp only [Option.bind_some]
  cases ht : a.tmps[d]? with
  | none => rw [ht] at he; cases he
  | some v => rw [ht] at he; simp only [Option.getD_some] at he; subst he; rfl

theorem wanted_none {o : Oper} {f : Nat → Option Bool} (h : o.guard = none) : Region.wanted o f = true := by unfold Region.wanted; rw [h]
theorem wanted_some {o : Oper} {f : Nat → Option Bool} {j : Nat} {b c : Bool} (h : o.guard = some (j, b)) (hf : f j = some c) : Region.wanted o f = (c == b) := by
  unfold Region.wanted; rw [h]; simp only; rw [hf]; cases c <;> cases b <;> rfl

/-- a way through a value -/
theorem way_val {P : Program} {ops : Array Oper} {spec : (Nat → Bool) → Nat → Value → World → Prop} {J : (Nat → Bool) → World → Prop} {Q : Exit → Act → World → Prop} {L : Nat → Bool} {a : Act} {w : World} {i : Nat} {o : Oper}
    (hw : Region.wanted o (yielded ops a.tmps) = true) (v : Value) (hr : (execOp a.eval o).run P w = .ok (.value v) w) (hs : spec (fun k => k == i || L k) i v w) (hk : ∀ j u, L j = true → j ≠ i → spec L j u w → spec (fun k => k == i || L k) j u w) (hj : J (fun k => k == i || L k) w) : OpWay P ops spec J Q L a w i o :=
  .inl ⟨hw, wp_val hr ⟨v, rfl, hs, hk, hj⟩⟩

theorem way_call {P : Program} {ops : Array Oper} {spec : (Nat → Bool) → Nat → Value → World → Prop} {J : (Nat → Bool) → World → Prop} {Q : Exit → Act → World → Prop} {L : Nat → Bool} {a : Act} {w : World} {i : Nat} {o : Oper}
    (hw : Region.wanted o (yielded ops a.tmps) = true) {f : FuncId} {args : Array Value} (hr : (execOp a.eval o).run P w = .ok (.enter f args) w)
    (h : Calls P f args w fun e w' => ∃ v, e = .returned v ∧ spec (fun k => k == i || L k) i v w' ∧ (∀ j u, L j = true → j ≠ i → spec L j u w → spec (fun k => k == i || L k) j u w') ∧ J (fun k => k == i || L k) w') : OpWay P ops spec J Q L a w i o :=
  .inl ⟨hw, wp_enter hr (h.mono fun e w' h => by obtain ⟨v, he, h1, h2, h3⟩ := h; exact ⟨v, he, v, rfl, h1, h2, h3⟩)⟩

theorem way_off {P : Program} {ops : Array Oper} {spec : (Nat → Bool) → Nat → Value → World → Prop} {J : (Nat → Bool) → World → Prop} {Q : Exit → Act → World → Prop} {L : Nat → Bool} {a : Act} {w : World} {i : Nat} {o : Oper}
    (hw : Region.wanted o (yielded ops a.tmps) = false) (hs : spec (fun k => k == i || L k) i undef w) (hk : ∀ j u, L j = true → j ≠ i → spec L j u w → spec (fun k => k == i || L k) j u w) (hj : J (fun k => k == i || L k) w) : OpWay P ops spec J Q L a w i o := .inr ⟨hw, hs, hk, hj⟩

/-- operation j comes ahead of operation i -/
def ancB (ops : Array Oper) : Nat → Nat → Nat → Bool
  | 0, _, _ => false
  | n + 1, i, j => i == j || match ops[i]? with | none => false | some o => o.after.any fun e => Region.binds .any e && ancB ops n e.on j

theorem RegSt.anc {ops : Array Oper} {spec : (Nat → Bool) → Nat → Value → World → Prop} {J : (Nat → Bool) → World → Prop} {a0 : Act} {L : Nat → Bool} {a : Act} {w : World} (h : RegSt ops spec J a0 L a w) :
    ∀ (n i j : Nat), L i = true → ancB ops n i j = true → L j = true := by
  intro n
  induction n with
  | zero => intro i j _ hb; cases hb
  | succ n ih =>
    intro i j hl hb
    unfold ancB at hb
    rw [Bool.or_eq_true, beq_iff_eq] at hb
    rcases hb with rfl | hb
    · exact hl
    · cases ho : ops[i]? with
      | none => rw [ho] at hb; cases hb
      | some o =>
        rw [ho] at hb
        simp only at hb
        rw [Array.any_eq_true'] at hb
        obtain ⟨e, hm, he⟩ := hb
        rw [Bool.and_eq_true] at he
        exact ih e.on j (h.closed i o ho hl e hm he.1) he.2

/-- what comes behind one that is not done is not done -/
theorem RegSt.not {ops : Array Oper} {spec : (Nat → Bool) → Nat → Value → World → Prop} {J : (Nat → Bool) → World → Prop} {a0 : Act} {L : Nat → Bool} {a : Act} {w : World} (h : RegSt ops spec J a0 L a w)
    (n i j : Nat) (hl : L j = false) (hb : ancB ops n i j = true) : L i = false := by
  cases hi : L i with
  | false => rfl
  | true => rw [h.anc n i j hi hb] at hl; cases hl

theorem slot_get {a : Act} {k : Nat} {v : Value} (h : a.eval (.tmp k) = v) : a.tmps[k]?.getD undef = v := by
  rw [← h]; simp [Act.eval]

/-- slots laid anew -/
def lay2 (a0 : Act) : List (Nat × Value) → Act
  | [] => a0
  | x :: l => (lay2 a0 l).put (some x.1) x.2
theorem lay2_size (a0 : Act) (l : List (Nat × Value)) : (lay2 a0 l).tmps.size = a0.tmps.size := by
  induction l with
  | nil => rfl
  | cons d l ih => rw [← ih]; simp [lay2, Act.put]
theorem lay2_defers (a0 : Act) (l : List (Nat × Value)) : (lay2 a0 l).defers = a0.defers := by
  induction l with
  | nil => rfl
  | cons d l ih => rw [← ih]; rfl
theorem lay2_eval (a0 a : Act) (l : List (Nat × Value)) (hl : ∀ x ∈ l, x.1 < a0.tmps.size) (hv : ∀ x ∈ l, a.eval (.tmp x.1) = x.2) (k : Nat) : (lay2 a0 l).eval (.tmp k) = if k ∈ l.map (·.1) then a.eval (.tmp k) else a0.eval (.tmp k) := by
  induction l with
  | nil => simp [lay2]
  | cons d l ih =>
    by_cases e : k = d.1
    · subst e
      rw [if_pos (by simp), hv _ List.mem_cons_self]
      exact act_put_same (by rw [lay2_size]; exact hl _ List.mem_cons_self)
    · have h1 : (lay2 a0 (d :: l)).eval (.tmp k) = (lay2 a0 l).eval (.tmp k) := act_put_far (fun x => e x.symm) rfl
      rw [h1, ih (fun d hd => hl d (List.mem_cons_of_mem _ hd)) (fun d hd => hv d (List.mem_cons_of_mem _ hd))]
      by_cases hm : k ∈ l.map (·.1)
      · have hm' : k ∈ (d :: l).map (·.1) := List.mem_cons_of_mem _ hm
        rw [if_pos hm, if_pos hm']
      · have hm' : ¬ k ∈ (d :: l).map (·.1) := by rw [List.map_cons, List.mem_cons]; exact fun h => h.elim e hm
        rw [if_neg hm, if_neg hm']

/-- the slots that a region lays -/
def dsts (ops : Array Oper) : List Nat := (List.range ops.size).filterMap (dstOf ops)

theorem mem_dsts {ops : Array Oper} {k : Nat} : k ∈ dsts ops ↔ farB ops k = false := by
  unfold dsts farB
  rw [List.mem_filterMap, List.all_eq_false]
  constructor
  · rintro ⟨j, hj, h⟩
    exact ⟨j, hj, by rw [h]; simp⟩
  · rintro ⟨j, hj, h⟩
    exact ⟨j, hj, by simpa using h⟩

/-- the state behind a region: each slot that it lays holds something -/
theorem RegSt.shape {ops : Array Oper} {spec : (Nat → Bool) → Nat → Value → World → Prop} {J : (Nat → Bool) → World → Prop} {a0 : Act} {L : Nat → Bool} {a : Act} {w : World} (h : RegSt ops spec J a0 L a w) (hd : dstsOk ops a0.tmps.size = true) (l : List (Nat × Value)) (hk : l.map (·.1) = dsts ops) (hv : ∀ x ∈ l, a.eval (.tmp x.1) = x.2) : a = lay2 a0 l := by
  have hlt : ∀ x ∈ l, x.1 < a0.tmps.size := by
    intro x hx
    have hm : x.1 ∈ dsts ops := by rw [← hk]; exact List.mem_map.2 ⟨x, hx, rfl⟩
    unfold dsts at hm
    rw [List.mem_filterMap] at hm
    obtain ⟨j, hj, he⟩ := hm
    have hj' := List.mem_range.1 hj
    exact dsts_lt hd (Array.getElem?_eq_getElem hj') (by rw [← dstOf_eq (Array.getElem?_eq_getElem hj')]; exact he)
  refine act_eq (by rw [lay2_defers]; exact h.defers) (by rw [lay2_size]; exact h.size) fun (k : Nat) _ => ?_
  rw [lay2_eval _ a _ hlt hv, hk]
  by_cases hm : k ∈ dsts ops
  · rw [if_pos hm]
  · rw [if_neg hm]
    refine h.far k ?_
    rw [mem_dsts] at hm
    simpa using hm

/-- .. by a function of slots -/
theorem RegSt.shape_fn {ops : Array Oper} {spec : (Nat → Bool) → Nat → Value → World → Prop} {J : (Nat → Bool) → World → Prop} {a0 : Act} {L : Nat → Bool} {a : Act} {w : World} (h : RegSt ops spec J a0 L a w) (hd : dstsOk ops a0.tmps.size = true) :
    ∃ f : Nat → Value, (∀ k, a.eval (.tmp k) = f k) ∧ a = lay2 a0 ((dsts ops).map fun k => (k, f k)) := by
  refine ⟨fun k => a.eval (.tmp k), fun _ => rfl, h.shape hd _ (by simp [List.map_map, Function.comp_def]) ?_⟩
  intro x hx
  obtain ⟨k, -, rfl⟩ := List.mem_map.1 hx
  rfl

end Go.Proofs.Ytddcdhmeknkphaa
