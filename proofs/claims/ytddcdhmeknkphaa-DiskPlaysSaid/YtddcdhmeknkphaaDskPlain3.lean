/- What follows of disks in plain words: what was written is read; what is flushed lasts. No program in sight. -/
import Derived.Test.YtddcdhmeknkphaaDskPlain2
namespace Go.Proofs.Ytddcdhmeknkphaa.Dsk.St

theorem use_down {s : St} (h : s.down = true) (n : Int) : s.use n = 40 := by unfold use; rw [h]; rfl
theorem flush_down {s : St} (h : s.down = true) : (s.flush).1 = 40 := by unfold flush; rw [h]; rfl
theorem write_down {s : St} (h : s.down = true) (n : Int) (b : List UInt8) : (s.write n b).1 = 40 := by unfold write; rw [h]; rfl

theorem act_down {s : St} (h : s.down = false) : s.act.down = s.blocked := by
  unfold act
  cases hb : s.blocked with
  | true => rfl
  | false =>
    simp only [Bool.false_eq_true, if_false]
    split <;> exact h

theorem inside_of {s t : St} (h : t.size = s.size) (n : Int) : t.inside n = s.inside n := by unfold inside; rw [h]

/-- what was written is read -/
theorem write_up {s : St} (n : Int) (b : List UInt8) (hd : (s.write n b).2.down = false) :
    (s.inside n = true ∧ b.length ≤ 1024 ∧ (s.write n b).1 = 0 ∧ (s.write n b).2.use n = 0 ∧ (s.write n b).2.look n.toNat = b) ∨ ((s.inside n = false ∨ 1024 < b.length) ∧ (s.write n b).1 = 41) := by
  have hsz := write_size s n b
  cases h0 : s.down with
  | true =>
    unfold write at hd
    rw [h0] at hd
    simp only [if_true] at hd
    rw [h0] at hd; cases hd
  | false =>
    cases hin : s.inside n with
    | false =>
      right
      refine ⟨.inl rfl, ?_⟩
      unfold write
      rw [h0, hin]; rfl
    | true =>
      by_cases hl : 1024 < b.length
      · right
        refine ⟨.inr hl, ?_⟩
        unfold write
        rw [h0, hin, decide_eq_true hl]; rfl
      · left
        have hbl : s.blocked = false := by
          cases hb : s.blocked with
          | false => rfl
          | true =>
            have e : s.write n b = (40, s.act) := by unfold write; rw [h0, hin, decide_eq_false hl, hb]; rfl
            rw [e] at hd
            simp only at hd
            rw [act_down h0, hb] at hd; cases hd
        have e : s.write n b = (0, { s.act with W := upd s.W n.toNat (some b) }) := by unfold write; rw [h0, hin, decide_eq_false hl, hbl]; rfl
        rw [e] at hd hsz ⊢
        simp only at hd hsz ⊢
        refine ⟨trivial, by omega, trivial, ?_, ?_⟩
        · have hi : ({ s.act with W := upd s.W n.toNat (some b) } : St).inside n = true := (inside_of (s := s) (t := { s.act with W := upd s.W n.toNat (some b) }) hsz n).trans hin
          unfold use
          rw [hi]
          simp [hd]
        · unfold look
          simp only
          rw [upd_same]; rfl

theorem restart_down (s : St) (l : List Int) : (s.restart l).down = false := rfl
theorem restart_fused (s : St) (l : List Int) : (s.restart l).fused = false := rfl
theorem restart_size (s : St) (l : List Int) : (s.restart l).size = s.size := keeps_size l s
theorem restart_waits (s : St) (l : List Int) : (s.restart l).waitsL = [] := by
  unfold waitsL
  have : ((List.range (s.restart l).size).filter fun n => ((s.restart l).W n).isSome) = [] := by
    rw [List.filter_eq_nil_iff]
    intro n _
    simp [restart, wake]
  rw [this]; rfl

/-- without a fuse, with power -/
structure Up (s : St) : Prop where
  down : s.down = false
  fused : s.fused = false

theorem up_restart (s : St) (l : List Int) : Up (s.restart l) := ⟨rfl, rfl⟩
theorem up_blocked {s : St} (h : Up s) : s.blocked = false := by unfold blocked; rw [h.fused]; rfl
theorem up_act {s : St} (h : Up s) : s.act = s := by unfold act; rw [up_blocked h, h.fused]; rfl
theorem up_write {s : St} (h : Up s) {n : Int} {b : List UInt8} (hn : s.inside n = true) (hb : b.length ≤ 1024) : s.write n b = (0, { s with W := upd s.W n.toNat (some b) }) := by
  unfold write
  have hl : decide (1024 < b.length) = false := decide_eq_false (by omega)
  simp [h.down, hn, up_blocked h, up_act h, hl]
theorem up_write_out {s : St} (h : Up s) {n : Int} {b : List UInt8} (hn : s.inside n = false) : s.write n b = (41, s) := by
  unfold write
  rw [h.down, hn]; rfl
theorem up_flush {s : St} (h : Up s) : s.flush = (0, { s with L := s.look, W := fun _ => none }) := by
  unfold flush
  simp [h.down, up_blocked h, up_act h]

/-- what waits nowhere but in one sector -/
theorem keeps_one (l : List Int) : ∀ (s : St) (m : Int) (c : List UInt8), s.inside m = true → (∀ k, s.W k = none ∨ (k = m.toNat ∧ s.W k = some c)) → ∀ k, (s.keeps l).L k = s.L k ∨ (k = m.toNat ∧ (s.keeps l).L k = c) := by
  induction l with
  | nil => intro s m c _ _ k; exact .inl rfl
  | cons n l ih =>
    intro s m c hm hw k
    have hin : (s.keep1 n).inside m = true := by rw [inside_of (keep1_size s n)]; exact hm
    have e : (s.keeps (n :: l)) = (s.keep1 n).keeps l := rfl
    rw [e]
    have hw' : ∀ k, (s.keep1 n).W k = none ∨ (k = m.toNat ∧ (s.keep1 n).W k = some c) := by
      intro k
      unfold keep1
      split
      · split
        · simp only
          unfold upd
          split
          · exact .inl rfl
          · exact hw k
        · exact hw k
      · exact hw k
    have hL : (s.keep1 n).L k = s.L k ∨ (k = m.toNat ∧ (s.keep1 n).L k = c) := by
      unfold keep1
      split
      · split
        · rename_i b hb
          simp only
          unfold upd
          split
          · rename_i hk
            subst hk
            rcases hw n.toNat with h | ⟨h1, h2⟩
            · rw [h] at hb; cases hb
            · rw [h2] at hb; cases hb
              exact .inr ⟨h1, rfl⟩
          · exact .inl rfl
        · exact .inl rfl
      · exact .inl rfl
    rcases ih (s.keep1 n) m c hin hw' k with h | h
    · rw [h]; exact hL
    · exact .inr h

theorem keeps_none (l : List Int) : ∀ (s : St), (∀ k, s.W k = none) → (s.keeps l).L = s.L := by
  induction l with
  | nil => intro s _; rfl
  | cons n l ih =>
    intro s hw
    have e : s.keep1 n = s := by
      unfold keep1
      split
      · rw [hw]
      · rfl
    show ((s.keep1 n).keeps l).L = s.L
    rw [e]; exact ih s hw

/-- P4.7 -/
theorem lasts_plain (s : St) (n m : Int) (b c : List UInt8) (keep : List Int) (hn : (s.restart []).inside n = true) (hb : b.length ≤ 1024) (hc : c.length ≤ 1024) :
    ((s.restart []).write n b).1 = 0 ∧ (((s.restart []).write n b).2.flush).1 = 0 ∧ (((((s.restart []).write n b).2.flush).2.write m c).2.restart keep).use n = 0 ∧
      ((((((s.restart []).write n b).2.flush).2.write m c).2.restart keep).look n.toNat = b ∨ (m = n ∧ (((((s.restart []).write n b).2.flush).2.write m c).2.restart keep).look n.toNat = c)) := by
  have hu := up_restart s []
  generalize s.restart [] = s0 at *
  rw [up_write hu hn hb]
  have hu1 : Up { s0 with W := upd s0.W n.toNat (some b) } := ⟨hu.down, hu.fused⟩
  rw [up_flush hu1]
  obtain ⟨t, ht⟩ : ∃ t : St, ({ { s0 with W := upd s0.W n.toNat (some b) } with L := look { s0 with W := upd s0.W n.toNat (some b) }, W := fun _ => none } : St) = t := ⟨_, rfl⟩
  have htL : t.L n.toNat = b := by rw [← ht]; simp only; unfold look; simp only; rw [upd_same]; rfl
  have htW : ∀ k, t.W k = none := by intro k; rw [← ht]
  have hut : Up t := by rw [← ht]; exact ⟨hu.down, hu.fused⟩
  have hts : t.size = s0.size := by rw [← ht]
  simp only
  rw [ht]
  have hlook : ∀ r : St, (r.restart keep).look n.toNat = (r.keeps keep).L n.toNat := fun r => rfl
  refine ⟨trivial, trivial, ?_, ?_⟩
  · unfold use
    rw [restart_down, inside_of ((restart_size _ _).trans ((write_size _ _ _).trans hts)), hn]; rfl
  · rw [hlook]
    cases hm : t.inside m with
    | false =>
      rw [up_write_out hut hm]
      left
      simp only
      rw [keeps_none keep t htW]; exact htL
    | true =>
      rw [up_write hut hm hc]
      have hin : ({ t with W := upd t.W m.toNat (some c) } : St).inside m = true := hm
      rcases keeps_one keep { t with W := upd t.W m.toNat (some c) } m c hin (fun k => by
        simp only
        unfold upd
        split
        · exact .inr ⟨by assumption, rfl⟩
        · exact .inl (htW k)) n.toNat with h | ⟨h1, h2⟩
      · left; rw [h]; exact htL
      · right
        have h3 := inside_iff.1 hm
        have h4 := inside_iff.1 hn
        exact ⟨by omega, h2⟩

end Go.Proofs.Ytddcdhmeknkphaa.Dsk.St
