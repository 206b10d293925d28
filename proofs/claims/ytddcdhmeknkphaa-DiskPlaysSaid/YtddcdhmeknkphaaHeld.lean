/- Lists of sectors with their bytes, as rows. -/
import Derived.Test.YtddcdhmeknkphaaMap2
import Derived.Test.YtddcdhmeknkphaaClone
import Derived.Test.YtddcdhmeknkphaaIntVals
namespace Go.Proofs.Ytddcdhmeknkphaa
open Go.RowKit

/-- bytes in a block of bytes -/
def BytesT (w : World) (u : Value) (l : List UInt8) : Prop :=
  Bytes w u l ∧ (l ≠ [] → ∀ k, u.ownBlock = some k → ∃ cs fr, w.heap[k]? = some (.cells cs 5 fr))

theorem BytesT.below {w w' : World} {u : Value} {l : List UInt8} (h : BytesT w u l) (hb : Below w.heap.size w w') : BytesT w' u l := by
  refine ⟨h.1.below hb, fun hn k hk => ?_⟩
  obtain ⟨cs, fr, e⟩ := h.2 hn k hk
  exact ⟨cs, fr, (hb.block k (lt_of_block e)).trans e⟩

theorem BytesT.grown {w w' : World} {row : Option Nat} {u : Value} {l : List UInt8} (h : BytesT w u l) (hg : w.grownBy w' row) (hr : ∀ g, row = some g → ∃ cs fr, w.heap[g]? = some (.cells cs 57 fr)) : BytesT w' u l := by
  by_cases hn : l = []
  · subst hn
    refine ⟨?_, fun h => absurd rfl h⟩
    rcases h.1 with h1 | ⟨x, cap, rfl, hc, hs, -⟩
    · exact .inl h1
    · exact .inr ⟨x, cap, rfl, hc, hs, fun i hi => by simp at hi⟩
  · have hne : ∀ k, u.ownBlock = some k → some k ≠ row := by
      intro k hk e
      obtain ⟨cs, fr, e1⟩ := h.2 hn k hk
      obtain ⟨cs', fr', e2⟩ := hr k e.symm
      rw [e1] at e2
      simp at e2
    refine ⟨h.1.kept fun k hk hlt => hg.block k hlt (hne k hk), fun _ k hk => ?_⟩
    obtain ⟨cs, fr, e1⟩ := h.2 hn k hk
    exact ⟨cs, fr, (hg.block k (lt_of_block e1) (hne k hk)).trans e1⟩

theorem ownBytesT {w' : World} {l : List UInt8} {a : Option Addr} {c : Nat} {base : Nat} (hb : Bytes w' (.slice a l.length c) l) (ho : l ≠ [] → w'.ownsRow base 5 1 (.slice a l.length c) l.length (byteVals l)) : BytesT w' (.slice a l.length c) l := by
  refine ⟨hb, fun hn k hk => ?_⟩
  rcases (ho hn).2 with ⟨e, -⟩ | ⟨g, cap, cur, e, -, hg, -⟩
  · rw [e] at hk; cases hk
  · rw [e] at hk
    simp only [Value.ownBlock, Option.some.injEq] at hk
    subst hk
    exact ⟨cur, _, hg⟩

def heldVals (ps : List ((Int × List UInt8) × Value)) : List Value := ps.flatMap fun p => [.int .i64 p.1.1, p.2]
theorem heldVals_length (ps : List ((Int × List UInt8) × Value)) : (heldVals ps).length = ps.length * 2 := by
  induction ps with
  | nil => rfl
  | cons p ps ih => unfold heldVals at *; rw [List.flatMap_cons, List.length_append, ih]; simp; omega
theorem heldVals_get (ps : List ((Int × List UInt8) × Value)) : ∀ i, (heldVals ps)[2 * i]? = (ps[i]?).map (fun p => .int .i64 p.1.1) ∧ (heldVals ps)[2 * i + 1]? = (ps[i]?).map (·.2) := by
  induction ps with
  | nil => intro i; exact ⟨rfl, rfl⟩
  | cons p ps ih =>
    intro i
    have e : heldVals (p :: ps) = .int .i64 p.1.1 :: p.2 :: heldVals ps := by unfold heldVals; rw [List.flatMap_cons]; rfl
    rw [e]
    cases i with
    | zero => exact ⟨rfl, rfl⟩
    | succ i => exact ih i

/-- a row of sectors with their bytes, the call's own -/
def HeldRow (w : World) (base : Nat) (v : Value) (l : List (Int × List UInt8)) : Prop :=
  ∃ us : List Value, us.length = l.length ∧ w.ownsRow base 57 2 v l.length (heldVals (l.zip us)) ∧ ∀ i, i < l.length → BytesT w (us.getD i undef) (l.getD i (0, [])).2

theorem HeldRow.nil (w : World) (base : Nat) : HeldRow w base (.slice none 0 0) [] := ⟨[], rfl, World.ownsRow_nil _ _ _ _, fun i hi => by simp at hi⟩

/-- sectors with their bytes, to be read -/
def Helds (w : World) (v : Value) (l : List (Int × List UInt8)) : Prop :=
  ∃ a cap b o, v = .slice a l.length cap ∧ (l ≠ [] → a = some ⟨b, o, none⟩) ∧ ∀ i, i < l.length → w.cell? ⟨b, o + i * 2, none⟩ = some (.int .i64 (l.getD i (0, [])).1) ∧ ∃ u, w.cell? ⟨b, o + (i * 2 + 1), none⟩ = some u ∧ Bytes w u (l.getD i (0, [])).2

theorem HeldRow.helds {w : World} {base : Nat} {v : Value} {l : List (Int × List UInt8)} (h : HeldRow w base v l) : Helds w v l := by
  obtain ⟨us, hu, ho, hb⟩ := h
  rcases ho.2 with ⟨rfl, h0⟩ | ⟨g, cap, cur, rfl, -, hg, -, -, -, ht⟩
  · have hl : l = [] := List.length_eq_zero_iff.1 h0
    subst hl
    exact ⟨none, 0, 0, 0, rfl, fun h => absurd rfl h, fun i hi => by simp at hi⟩
  · refine ⟨_, cap, g, 0, rfl, fun _ => rfl, fun i hi => ?_⟩
    have hz : (l.zip us)[i]? = some (l.getD i (0, []), us.getD i undef) := by
      rw [List.getElem?_zip_eq_some]
      simp [List.getD, hi, hu]
    have hlt : i < us.length := by omega
    obtain ⟨g1, g2⟩ := heldVals_get (l.zip us) i
    rw [hz] at g1 g2
    refine ⟨?_, _, ?_, (hb i hi).1⟩
    · rw [Nat.zero_add]
      refine row_cell hg ?_
      rw [← Array.getElem?_toList, take_getElem? _ (l.length * 2) _ _ ht (by omega), Nat.mul_comm i 2]
      exact g1
    · rw [Nat.zero_add]
      refine row_cell hg ?_
      rw [← Array.getElem?_toList, take_getElem? _ (l.length * 2) _ _ ht (by omega), Nat.mul_comm i 2]
      exact g2

theorem Helds.below {w w' : World} {v : Value} {l : List (Int × List UInt8)} (h : Helds w v l) (hb : Below w.heap.size w w') : Helds w' v l := by
  obtain ⟨a, cap, b, o, e, ha, hc⟩ := h
  refine ⟨a, cap, b, o, e, ha, fun i hi => ?_⟩
  obtain ⟨h1, u, h2, h3⟩ := hc i hi
  exact ⟨(hb.cell (block_lt_of_cell h1)).trans h1, u, (hb.cell (block_lt_of_cell h2)).trans h2, h3.below hb⟩

theorem Helds.off {fs : List Nat} {w w' : World} {v : Value} {l : List (Int × List UInt8)} (h : Helds w v l) (hc : Chg fs w w') (hn : ∀ k ∈ fs, NoU8 w k) (hv : ∀ k, v.ownBlock = some k → k ∉ fs) : Helds w' v l := by
  obtain ⟨a, cap, b, o, rfl, ha, hcell⟩ := h
  refine ⟨a, cap, b, o, rfl, ha, fun i hi => ?_⟩
  obtain rfl := ha (List.ne_nil_of_length_pos (by omega))
  obtain ⟨h1, u, h2, h3⟩ := hcell i hi
  have hb := hv b rfl
  exact ⟨by rw [← h1]; exact World.cell?_of_block (w := w) (hc.block b (block_lt_of_cell h1) hb), u, by rw [← h2]; exact World.cell?_of_block (w := w) (hc.block b (block_lt_of_cell h2) hb), h3.off hc hn⟩

theorem iHeld : (Try.prog.info? 57).map (fun i => (i.zero, i.size, i.bytes)) = some (some (.agg #[.int .i64 0, .slice none 0 0]), 2, 32) := by kernel_rfl

theorem own_row_typed {w : World} {base : Nat} {e : TypeId} {size : Nat} {v : Value} {n : Nat} {xs : List Value} (h : w.ownsRow base e size v n xs) : ∀ g, v.ownBlock = some g → ∃ cs fr, w.heap[g]? = some (.cells cs e fr) := by
  intro g hg
  rcases h.2 with ⟨rfl, _⟩ | ⟨g', cap, cur, rfl, _, hgg, _⟩
  · cases hg
  · simp only [Value.ownBlock, Option.some.injEq] at hg
    subst hg
    exact ⟨cur, _, hgg⟩

/-- one more -/
theorem HeldRow.snoc {w w0 : World} {base : Nat} {v : Value} {l : List (Int × List UInt8)} (h : HeldRow w base v l) (hw : Below w.heap.size w w0) {n : Int} {m : List UInt8} {a : Option Addr} {c : Nat} (hm : BytesT w0 (.slice a m.length c) m) (hl : l.length ≤ 1000000) (hb : base ≤ w.heap.size) :
    ∃ av cap w', Hid ((Builtin.append_ #[40, 40] 40 #[v, .slice (some ⟨w0.heap.size, 0, none⟩) 1 1]).run Try.prog (w0.alloc (.cells #[.int .i64 n, .slice a m.length c] 57)) = .ok (.slice av (l.length + 1) cap) w') ∧ Hid (HeldRow w' base (.slice av (l.length + 1) cap) (l ++ [(n, m)])) ∧ Hid (Below base w w') := by
  obtain ⟨us, hu, ho, hbs⟩ := h
  obtain ⟨i, hi1, hi2, hi3, hi4⟩ := info_parts iHeld
  have b0 : Below w0.heap.size w0 (w0.alloc (.cells #[.int .i64 n, .slice a m.length c] 57)) := (Below.refl _ _).alloc (Nat.le_refl _) _
  have b1 : Below w.heap.size w (w0.alloc (.cells #[.int .i64 n, .slice a m.length c] 57)) := hw.trans (b0.mono hw.size)
  have ho1 := Dk.own_cut ho b1
  have hs0 := hw.size
  obtain ⟨v', w', h1, h2, h3, -⟩ := run_append_own (P := Try.prog) (w0.alloc (.cells #[.int .i64 n, .slice a m.length c] 57)) base 40 40 57 i _ 2 32 Try.underlying40 hi1 hi2 hi3 hi4 rfl (by omega) v l.length _ ho1 ⟨w0.heap.size, 0, none⟩ 1 1 [.int .i64 n, .slice a m.length c] rfl (by
      intro j u hj
      rw [addr_add, Nat.zero_add]
      refine row_cell (heap_alloc_new _ _) ?_
      match j, hj with
      | 0, hj => exact hj
      | 1, hj => exact hj
      | k + 2, hj => simp at hj) (by intro u hu; simp at hu; rcases hu with rfl | rfl <;> rfl)
      (by unfold maxLen; omega) (by omega) (by simp; omega)
  obtain ⟨av, cap, rfl⟩ := Dk.own_slice h2
  refine ⟨av, cap, w', h1, ?_, ?_⟩
  · refine ⟨us ++ [.slice a m.length c], by simp [hu], ?_, fun k hk => ?_⟩
    · have e : heldVals ((l ++ [(n, m)]).zip (us ++ [.slice a m.length c])) = heldVals (l.zip us) ++ [.int .i64 n, .slice a m.length c] := by
        rw [List.zip_append hu.symm]
        unfold heldVals
        rw [List.flatMap_append]
        simp
      rw [e, List.length_append]
      exact h2
    · have hr := own_row_typed ho1
      rw [List.length_append] at hk
      simp only [List.length_cons, List.length_nil] at hk
      by_cases e : k < l.length
      · have g1 : (us ++ [Value.slice a m.length c]).getD k undef = us.getD k undef := by simp [List.getD, List.getElem?_append_left (show k < us.length by omega)]
        have g2 : (l ++ [(n, m)]).getD k (0, []) = l.getD k (0, []) := by simp [List.getD, List.getElem?_append_left e]
        rw [g1, g2]
        exact ((hbs k e).below b1).grown h3 hr
      · obtain rfl : k = l.length := by omega
        have g1 : (us ++ [Value.slice a m.length c]).getD l.length undef = .slice a m.length c := by rw [← hu]; simp [List.getD]
        have g2 : (l ++ [(n, m)]).getD l.length (0, []) = (n, m) := by simp [List.getD]
        rw [g1, g2]
        exact (hm.below b0).grown h3 hr
  · exact (b1.mono hb).trans (own_below ho1 h3 (by simp; omega))

end Go.Proofs.Ytddcdhmeknkphaa
