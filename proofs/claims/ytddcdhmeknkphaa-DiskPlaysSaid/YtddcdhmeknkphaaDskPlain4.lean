/- Behind a crash each sector lasts as it waited, if it is kept, and as it lasted, else. No program in sight. -/
import Derived.Test.YtddcdhmeknkphaaDskPlain3
namespace Go.Proofs.Ytddcdhmeknkphaa.Dsk.St

/-- P4.4 -/
theorem keeps_L (l : List Int) : ∀ (s : St) (j : Nat), j < s.size → (s.keeps l).L j = match s.W j with | some b => if (j : Int) ∈ l then b else s.L j | none => s.L j := by
  induction l with
  | nil =>
    intro s j _
    show s.L j = _
    cases s.W j with
    | none => rfl
    | some b => simp
  | cons n l ih =>
    intro s j hj
    show ((s.keep1 n).keeps l).L j = _
    rw [ih (s.keep1 n) j (by rw [keep1_size]; exact hj)]
    unfold keep1
    by_cases hin : s.inside n = true
    · rw [hin]
      simp only [if_true]
      obtain ⟨n0, n1⟩ := inside_iff.1 hin
      cases hw : s.W n.toNat with
      | none =>
        simp only
        by_cases e : j = n.toNat
        · subst e
          rw [hw]
        · have hne : (j : Int) ≠ n := by omega
          cases s.W j with
          | none => rfl
          | some b => simp [hne]
      | some b =>
        simp only
        by_cases e : j = n.toNat
        · subst e
          rw [upd_same, upd_same, hw]
          have : ((n.toNat : Nat) : Int) = n := by omega
          simp [this]
        · rw [upd_other _ _ _ _ e, upd_other _ _ _ _ e]
          have hne : (j : Int) ≠ n := by omega
          cases s.W j with
          | none => rfl
          | some b => simp [hne]
    · rw [if_neg hin]
      have hne : (j : Int) ≠ n := by
        intro e
        exact hin (inside_iff.2 ⟨by omega, by omega⟩)
      cases s.W j with
      | none => rfl
      | some b => simp [hne]

/-- what the statement wants of each sector -/
def wantL (f : Nat → List UInt8) (l : List (Int × List UInt8)) : Nat → List UInt8 := l.foldl (fun f p => upd f p.1.toNat p.2) f
def wantK (keep : List Int) (f : Nat → List UInt8) (p : Int × List UInt8) : Nat → List UInt8 := keep.foldl (fun f k => if k = p.1 then upd f p.1.toNat p.2 else f) f
def wantW (keep : List Int) (f : Nat → List UInt8) (l : List (Int × List UInt8)) : Nat → List UInt8 := l.foldl (wantK keep) f

theorem wantK_eq (keep : List Int) (p : Int × List UInt8) : ∀ f, wantK keep f p = if p.1 ∈ keep then upd f p.1.toNat p.2 else f := by
  induction keep with
  | nil => intro f; simp [wantK]
  | cons k l ih =>
    intro f
    show wantK l (if k = p.1 then upd f p.1.toNat p.2 else f) p = _
    rw [ih]
    by_cases e : k = p.1
    · have hm : p.1 ∈ k :: l := by rw [← e]; exact List.mem_cons_self
      rw [if_pos e]
      simp only [hm, if_true]
      split
      · funext j
        unfold upd
        split <;> rfl
      · rfl
    · rw [if_neg e]
      have : p.1 ∈ k :: l ↔ p.1 ∈ l := by
        rw [List.mem_cons]
        constructor
        · rintro (h | h)
          · exact absurd h.symm e
          · exact h
        · exact .inr
      by_cases hm : p.1 ∈ l
      · rw [if_pos hm, if_pos (this.2 hm)]
      · rw [if_neg hm, if_neg (fun h => hm (this.1 h))]

/-- laid one by one, each where its number says -/
theorem wantL_range (g : Nat → List UInt8) (q : Nat → Bool) (n : Nat) : ∀ f j, wantL f (((List.range n).filter q).map fun (i : Nat) => ((i : Int), g i)) j = if j < n ∧ q j = true then g j else f j := by
  induction n with
  | zero => intro f j; simp [wantL]
  | succ n ih =>
    intro f j
    rw [List.range_succ, List.filter_append, List.map_append]
    unfold wantL at *
    rw [List.foldl_append]
    cases hq : q n with
    | true =>
      rw [List.filter_cons_of_pos hq]
      show upd (List.foldl _ f _) (n : Int).toNat (g n) j = _
      rw [Int.toNat_natCast]
      by_cases e : j = n
      · subst e
        rw [upd_same, if_pos ⟨by omega, hq⟩]
      · rw [upd_other _ _ _ _ e, ih]
        by_cases hc : j < n ∧ q j = true
        · rw [if_pos hc, if_pos ⟨by omega, hc.2⟩]
        · rw [if_neg hc, if_neg (fun h => hc ⟨by omega, h.2⟩)]
    | false =>
      rw [List.filter_cons_of_neg (by rw [hq]; exact Bool.false_ne_true)]
      show List.foldl _ f _ j = _
      rw [ih]
      by_cases hc : j < n ∧ q j = true
      · rw [if_pos hc, if_pos ⟨by omega, hc.2⟩]
      · rw [if_neg hc, if_neg (fun h => hc ⟨by
          by_cases e : j = n
          · subst e; rw [hq] at h; cases h.2
          · omega, h.2⟩)]

theorem wantW_range (keep : List Int) (g : Nat → List UInt8) (q : Nat → Bool) (n : Nat) : ∀ f j, wantW keep f (((List.range n).filter q).map fun (i : Nat) => ((i : Int), g i)) j = if j < n ∧ q j = true ∧ (j : Int) ∈ keep then g j else f j := by
  induction n with
  | zero => intro f j; simp [wantW]
  | succ n ih =>
    intro f j
    rw [List.range_succ, List.filter_append, List.map_append]
    unfold wantW at *
    rw [List.foldl_append]
    cases hq : q n with
    | true =>
      rw [List.filter_cons_of_pos hq]
      show wantK keep (List.foldl _ f _) ((n : Int), g n) j = _
      rw [wantK_eq]
      by_cases hm : (n : Int) ∈ keep
      · rw [if_pos hm, Int.toNat_natCast]
        by_cases e : j = n
        · subst e
          rw [upd_same, if_pos ⟨by omega, hq, hm⟩]
        · rw [upd_other _ _ _ _ e, ih]
          by_cases hc : j < n ∧ q j = true ∧ (j : Int) ∈ keep
          · rw [if_pos hc, if_pos ⟨by omega, hc.2⟩]
          · rw [if_neg hc, if_neg (fun h => hc ⟨by omega, h.2⟩)]
      · rw [if_neg hm, ih]
        by_cases hc : j < n ∧ q j = true ∧ (j : Int) ∈ keep
        · rw [if_pos hc, if_pos ⟨by omega, hc.2⟩]
        · rw [if_neg hc, if_neg (fun h => hc ⟨by
            by_cases e : j = n
            · subst e; exact absurd h.2.2 hm
            · omega, h.2⟩)]
    | false =>
      rw [List.filter_cons_of_neg (by rw [hq]; exact Bool.false_ne_true)]
      show List.foldl _ f _ j = _
      rw [ih]
      by_cases hc : j < n ∧ q j = true ∧ (j : Int) ∈ keep
      · rw [if_pos hc, if_pos ⟨by omega, hc.2⟩]
      · rw [if_neg hc, if_neg (fun h => hc ⟨by
          by_cases e : j = n
          · subst e; rw [hq] at h; cases h.2.1
          · omega, h.2⟩)]

/-- what the statement wants is what a sector holds behind the crash -/
theorem want_all (s : St) (keep : List Int) (j : Nat) (hj : j < s.size) : wantW keep (wantL (fun _ => []) s.lastsL) s.waitsL j = (s.restart keep).look j := by
  have hlook : (s.restart keep).look j = (s.keeps keep).L j := rfl
  rw [hlook, keeps_L keep s j hj]
  unfold lastsL waitsL
  rw [wantW_range keep (fun i => (s.W i).getD []) (fun i => (s.W i).isSome), wantL_range s.L (fun i => !(s.L i).isEmpty)]
  cases hw : s.W j with
  | none =>
    rw [if_neg (by simp)]
    by_cases hl : (s.L j).isEmpty = true
    · rw [if_neg (by simp [hl])]
      simp only
      exact (List.isEmpty_iff.1 hl).symm
    · rw [if_pos ⟨hj, by simpa using hl⟩]
  | some b =>
    by_cases hm : (j : Int) ∈ keep
    · rw [if_pos ⟨hj, rfl, hm⟩]
      simp [hm]
    · rw [if_neg (by simp [hm])]
      simp only [hm, if_false]
      by_cases hl : (s.L j).isEmpty = true
      · rw [if_neg (by simp [hl])]
        exact (List.isEmpty_iff.1 hl).symm
      · rw [if_pos ⟨hj, by simpa using hl⟩]

theorem lasts_in (s : St) (p : Int × List UInt8) (h : p ∈ s.lastsL) : 0 ≤ p.1 ∧ p.1 < s.size := by
  unfold lastsL at h
  obtain ⟨i, hi, rfl⟩ := List.mem_map.1 h
  have := List.mem_range.1 (List.mem_filter.1 hi).1
  simp only
  omega
theorem waits_in (s : St) (p : Int × List UInt8) (h : p ∈ s.waitsL) : 0 ≤ p.1 ∧ p.1 < s.size := by
  unfold waitsL at h
  obtain ⟨i, hi, rfl⟩ := List.mem_map.1 h
  have := List.mem_range.1 (List.mem_filter.1 hi).1
  simp only
  omega
theorem lasts_len (s : St) : s.lastsL.length ≤ s.size := by
  unfold lastsL
  rw [List.length_map]
  refine Nat.le_trans (List.length_filter_le _ _) ?_
  rw [List.length_range]; exact Nat.le_refl _
theorem waits_len (s : St) : s.waitsL.length ≤ s.size := by
  unfold waitsL
  rw [List.length_map]
  refine Nat.le_trans (List.length_filter_le _ _) ?_
  rw [List.length_range]; exact Nat.le_refl _

theorem wantL_snoc (f : Nat → List UInt8) (l : List (Int × List UInt8)) (k : Nat) (h : k < l.length) : wantL f (l.take (k + 1)) = upd (wantL f (l.take k)) (l.getD k (0, [])).1.toNat (l.getD k (0, [])).2 := by
  unfold wantL
  rw [List.take_succ_eq_append_getElem h, List.foldl_append]
  simp [List.getD, h]
theorem wantW_snoc (keep : List Int) (f : Nat → List UInt8) (l : List (Int × List UInt8)) (k : Nat) (h : k < l.length) : wantW keep f (l.take (k + 1)) = wantK keep (wantW keep f (l.take k)) (l.getD k (0, [])) := by
  unfold wantW
  rw [List.take_succ_eq_append_getElem h, List.foldl_append]
  simp [List.getD, h]
theorem wantK_snoc (keep : List Int) (f : Nat → List UInt8) (p : Int × List UInt8) (k : Nat) (h : k < keep.length) : wantK (keep.take (k + 1)) f p = if keep.getD k 0 = p.1 then upd (wantK (keep.take k) f p) p.1.toNat p.2 else wantK (keep.take k) f p := by
  unfold wantK
  rw [List.take_succ_eq_append_getElem h, List.foldl_append]
  simp [List.getD, h]

end Go.Proofs.Ytddcdhmeknkphaa.Dsk.St
