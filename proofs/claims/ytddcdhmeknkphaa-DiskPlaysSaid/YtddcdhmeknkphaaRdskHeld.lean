/- Walks of the reference's disk: Lasts, Waits. -/
import Derived.Test.YtddcdhmeknkphaaRdskNew
import Derived.Test.YtddcdhmeknkphaaHeld
namespace Go.Proofs.Ytddcdhmeknkphaa
open Go.RowKit

/-- a row of sectors with bytes that were there, the row the call's own -/
def HeldOld (w : World) (base : Nat) (v : Value) (l : List (Int × List UInt8)) : Prop :=
  ∃ us : List Value, us.length = l.length ∧ w.ownsRow base 57 2 v l.length (heldVals (l.zip us)) ∧ ∀ i, i < l.length → Bytes w (us.getD i undef) (l.getD i (0, [])).2 ∧ ((l.getD i (0, [])).2 ≠ [] → ∀ k, (us.getD i undef).ownBlock = some k → k < base)

theorem HeldOld.nil (w : World) (base : Nat) : HeldOld w base (.slice none 0 0) [] := ⟨[], rfl, World.ownsRow_nil _ _ _ _, fun i hi => by simp at hi⟩

theorem HeldOld.helds {w : World} {base : Nat} {v : Value} {l : List (Int × List UInt8)} (h : HeldOld w base v l) : Helds w v l := by
  obtain ⟨us, hu, ho, hb⟩ := h
  rcases ho.2 with ⟨rfl, h0⟩ | ⟨g, cap, cur, rfl, -, hg, -, -, -, ht⟩
  · have hl : l = [] := List.length_eq_zero_iff.1 h0
    subst hl
    exact ⟨none, 0, 0, 0, rfl, fun h => absurd rfl h, fun i hi => by simp at hi⟩
  · refine ⟨_, cap, g, 0, rfl, fun _ => rfl, fun i hi => ?_⟩
    have hz : (l.zip us)[i]? = some (l.getD i (0, []), us.getD i undef) := by
      rw [List.getElem?_zip_eq_some]
      simp [List.getD, hi, hu]
    have hlt : i < us.length := by omega
    obtain ⟨g1, g2⟩ := heldVals_get (l.zip us) i
    rw [hz] at g1 g2
    refine ⟨?_, _, ?_, (hb i hi).1⟩
    · rw [Nat.zero_add]
      refine row_cell hg ?_
      rw [← Array.getElem?_toList, take_getElem? _ (l.length * 2) _ _ ht (by omega), Nat.mul_comm i 2]
      exact g1
    · rw [Nat.zero_add]
      refine row_cell hg ?_
      rw [← Array.getElem?_toList, take_getElem? _ (l.length * 2) _ _ ht (by omega), Nat.mul_comm i 2]
      exact g2

theorem own_row_hi {w : World} {base : Nat} {e : TypeId} {size : Nat} {v : Value} {n : Nat} {xs : List Value} (h : w.ownsRow base e size v n xs) : ∀ g, v.ownBlock = some g → base ≤ g := by
  intro g hg
  rcases h.2 with ⟨rfl, _⟩ | ⟨g', cap, cur, rfl, hb, _, _⟩
  · cases hg
  · simp only [Value.ownBlock, Option.some.injEq] at hg
    subst hg
    exact hb

/-- one more -/
theorem HeldOld.snoc {w : World} {base : Nat} {v : Value} {l : List (Int × List UInt8)} (h : HeldOld w base v l) {n : Int} {m : List UInt8} {a : Option Addr} {c : Nat} (hm : Bytes w (.slice a m.length c) m) (hmo : m ≠ [] → ∀ k, (Value.slice a m.length c).ownBlock = some k → k < base) (hl : l.length ≤ 1000000) (hb : base ≤ w.heap.size) :
    ∃ av cap w', Hid ((Builtin.append_ #[40, 40] 40 #[v, .slice (some ⟨w.heap.size, 0, none⟩) 1 1]).run Try.prog (w.alloc (.cells #[.int .i64 n, .slice a m.length c] 57)) = .ok (.slice av (l.length + 1) cap) w') ∧ Hid (HeldOld w' base (.slice av (l.length + 1) cap) (l ++ [(n, m)])) ∧ Hid (Below base w w') := by
  obtain ⟨us, hu, ho, hbs⟩ := h
  obtain ⟨i, hi1, hi2, hi3, hi4⟩ := info_parts iHeld
  have b1 : Below w.heap.size w (w.alloc (.cells #[.int .i64 n, .slice a m.length c] 57)) := (Below.refl _ _).alloc (Nat.le_refl _) _
  have ho1 := Dk.own_cut ho b1
  obtain ⟨v', w', h1, h2, h3, -⟩ := run_append_own (P := Try.prog) (w.alloc (.cells #[.int .i64 n, .slice a m.length c] 57)) base 40 40 57 i _ 2 32 Try.underlying40 hi1 hi2 hi3 hi4 rfl (by omega) v l.length _ ho1 ⟨w.heap.size, 0, none⟩ 1 1 [.int .i64 n, .slice a m.length c] rfl (by
      intro j u hj
      rw [addr_add, Nat.zero_add]
      refine row_cell (heap_alloc_new _ _) ?_
      match j, hj with
      | 0, hj => exact hj
      | 1, hj => exact hj
      | k + 2, hj => simp at hj) (by intro u hu; simp at hu; rcases hu with rfl | rfl <;> rfl)
      (by unfold maxLen; omega) (by omega) (by simp; omega)
  obtain ⟨av, cap, rfl⟩ := Dk.own_slice h2
  have hkept : ∀ (u : Value) (x : List UInt8), Bytes (w.alloc (.cells #[.int .i64 n, .slice a m.length c] 57)) u x → (x ≠ [] → ∀ k, u.ownBlock = some k → k < base) → Bytes w' u x := by
    intro u x hx hk
    by_cases hn : x = []
    · subst hn
      rcases hx with h1 | ⟨x, cap, rfl, hc, hs, -⟩
      · exact .inl h1
      · exact .inr ⟨x, cap, rfl, hc, hs, fun i hi => by simp at hi⟩
    have hk := hk hn
    refine hx.kept fun k hk1 hlt => h3.block k hlt fun e => ?_
    have h5 := own_row_hi ho1 k e.symm
    have h6 := hk k hk1
    omega
  refine ⟨av, cap, w', h1, ?_, ?_⟩
  · refine ⟨us ++ [.slice a m.length c], by simp [hu], ?_, fun k hk => ?_⟩
    · have e : heldVals ((l ++ [(n, m)]).zip (us ++ [.slice a m.length c])) = heldVals (l.zip us) ++ [.int .i64 n, .slice a m.length c] := by
        rw [List.zip_append hu.symm]
        unfold heldVals
        rw [List.flatMap_append]
        simp
      rw [e, List.length_append]
      exact h2
    · rw [List.length_append] at hk
      simp only [List.length_cons, List.length_nil] at hk
      by_cases e : k < l.length
      · have g1 : (us ++ [Value.slice a m.length c]).getD k undef = us.getD k undef := by simp [List.getD, List.getElem?_append_left (show k < us.length by omega)]
        have g2 : (l ++ [(n, m)]).getD k (0, []) = l.getD k (0, []) := by simp [List.getD, List.getElem?_append_left e]
        rw [g1, g2]
        exact ⟨hkept _ _ ((hbs k e).1.below b1) (hbs k e).2, (hbs k e).2⟩
      · obtain rfl : k = l.length := by omega
        have g1 : (us ++ [Value.slice a m.length c]).getD l.length undef = .slice a m.length c := by rw [← hu]; simp [List.getD]
        have g2 : (l ++ [(n, m)]).getD l.length (0, []) = (n, m) := by simp [List.getD]
        rw [g1, g2]
        exact ⟨hkept _ _ (hm.below b1) hmo, hmo⟩
  · exact (b1.mono hb).trans (own_below ho1 h3 (by simp; omega))

/-- the sectors below k that are wanted -/
def selTo (p : Nat → Bool) (f : Nat → List UInt8) (k : Nat) : List (Int × List UInt8) := ((List.range k).filter p).map fun (n : Nat) => ((n : Int), f n)
theorem selTo_zero (p : Nat → Bool) (f : Nat → List UInt8) : selTo p f 0 = [] := rfl
theorem selTo_succ (p : Nat → Bool) (f : Nat → List UInt8) (k : Nat) : selTo p f (k + 1) = selTo p f k ++ if p k then [((k : Int), f k)] else [] := by
  unfold selTo
  rw [List.range_succ, List.filter_append, List.map_append]
  congr 1
  cases hx : p k with
  | true => rw [List.filter_cons_of_pos hx]; rfl
  | false => rw [List.filter_cons_of_neg (by rw [hx]; exact Bool.false_ne_true)]; rfl
theorem selTo_len (p : Nat → Bool) (f : Nat → List UInt8) (k : Nat) : (selTo p f k).length ≤ k := by
  unfold selTo
  rw [List.length_map]
  refine Nat.le_trans (List.length_filter_le _ _) ?_
  rw [List.length_range]; exact Nat.le_refl _

/-- sectors with their bytes, to be read; nothing old changes -/
def RHeldAns (l : List (Int × List UInt8)) (w : World) (e : Ending) (w' : World) : Prop :=
  ∃ a c, e = .returned (.slice a l.length c) ∧ Helds w' (.slice a l.length c) l ∧ Below w.heap.size w w'

theorem Bytes.old {w : World} {a : Option Addr} {l : List UInt8} {c : Nat} (h : Bytes w (.slice a l.length c) l) (hl : l ≠ []) : ∀ k, (Value.slice a l.length c).ownBlock = some k → k < w.heap.size := by
  obtain ⟨a', c', e, -, b, o, ha, hc⟩ := h.opened
  rw [Value.slice.injEq] at e
  obtain ⟨rfl, -, rfl⟩ := e
  intro k hk
  obtain rfl := ha hl
  simp only [Value.ownBlock, Option.some.injEq] at hk
  subst hk
  have := List.length_pos_iff.2 hl
  exact block_lt_of_cell (hc.out 0 this)

set_option maxRecDepth 100000 in
set_option maxHeartbeats 4000000 in
theorem rlasts_any {w : World} {r bL bW bI : Nat} {s : Dsk.St} (h : RDskAt w r bL bW bI s) :
    Calls Try.prog 40 #[.pointer (some ⟨r, 0, none⟩)] w (RHeldAns s.lastsL w) := by
  have H := Lib.hid h
  have hi := h.ok.hi
  have hz : (s.size : Int) ≤ 4096 := by omega
  have HZ : Hid (s.size ≤ 4096) := hi
  have HE : Hid (s.lastsL = selTo (fun n => !(s.L n).isEmpty) s.L s.size) := rfl
  have hlen := Lib.hid h.ok.lenL
  rw [HE.out]
  clear h hi HE
  go_enter Try.func40, Try.ntmps40
  go_wp2_with fail
  go_loopw [3, 4] (fun out i wr => ∃ (k : Nat) (a : Option Addr) (len c : Nat), k ≤ s.size ∧ i = .int .i64 k ∧ out = .slice a len c ∧ len = (selTo (fun n => !(s.L n).isEmpty) s.L k).length ∧ HeldOld wr w.heap.size out (selTo (fun n => !(s.L n).isEmpty) s.L k) ∧ Below w.heap.size w wr) (fun _ i _ => s.size - (intOf i).toNat)
  case atStart => exact ⟨0, none, 0, 0, by omega, rfl, rfl, rfl, HeldOld.nil _ _, Below.refl _ _⟩
  case round =>
    obtain ⟨k, a0, len, c0, hk, rfl, rfl, hlen2, hh, hb⟩ := hrel
    have hR := H.out.below hb
    obtain ⟨g0, -, -, -, -, -⟩ := hR.cells
    by_cases hlt : k < s.size
    · have l0 : (0 : Int) ≤ (k : Int) := by omega
      have l1 : (k : Int) < (s.size : Int) := by omega
      obtain ⟨aL, cL, gL, -, bL0⟩ := H.out.rowL.cell hlt
      have gL2 := cell_later hb gL
      have hS := selTo_succ (fun n => !(s.L n).isEmpty) s.L k
      have hml : (selTo (fun n => !(s.L n).isEmpty) s.L k).length ≤ 4096 := by
        have := selTo_len (fun n => !(s.L n).isEmpty) s.L k
        have := HZ.out; omega
      have hold := fun hne => Bytes.old bL0 hne
      have bL1 := bL0.below hb
      generalize s.L k = m at *
      by_cases hm : m = []
      · subst hm
        have HS : Hid (selTo (fun n => !(s.L n).isEmpty) s.L (k + 1) = selTo (fun n => !(s.L n).isEmpty) s.L k) := by unfold Hid; rw [hS]; simp
        have HH := Lib.hid hh
        have BB := Lib.hid hb
        have HLT := Lib.hid hlt
        have HLEN := Lib.hid hlen2
        simp only [List.length_nil] at gL2
        clear hlt hk hh hb hS hml hold bL0 bL1 hlen2 hR gL
        go_wp2_with fail
        go_roundw
        case rel => exact ⟨k + 1, a0, len, c0, by have := HLT.out; omega, by go_num, rfl, by rw [HS.out, HLEN.out], by rw [HS.out]; exact HH.out, BB.out⟩
        case measure => simp [intOf]; have := HLT.out; omega
      · have hpos : (0 : Int) < (m.length : Int) := by have := List.length_pos_iff.2 hm; omega
        have hb1 : (!m.isEmpty) = true := by
          cases m with
          | nil => exact absurd rfl hm
          | cons a l => rfl
        rw [hb1, if_pos rfl] at hS
        have HS := Lib.hid hS
        obtain ⟨av4, cap4, w4, HR4, HH4, HB4⟩ := hh.snoc (n := (k : Int)) bL1 hold (by omega) hb.size
        have HR5 := HR4.out
        rw [← hlen2] at HR5
        have HR6 := Lib.hid HR5
        have BB := Lib.hid hb
        have HLT := Lib.hid hlt
        have HLEN := Lib.hid hlen2
        clear hlt hk hh hb hS hml hold bL0 bL1 hlen2 hR gL HR4 HR5 hm hb1
        go_wp2_with (first
          | (at_builtin; refine Lib.wpList_append_run _ rfl (.tmp 23) (.tmp 33) _ _ rfl _ _ rfl rfl _ _ HR6.out ?_))
        go_roundw
        case rel => exact ⟨k + 1, av4, len + 1, cap4, by have := HLT.out; omega, by go_num, rfl, by rw [HS.out, List.length_append, HLEN.out]; rfl, by rw [HS.out, HLEN.out]; exact HH4.out, BB.out.trans HB4.out⟩
        case measure => simp [intOf]; have := HLT.out; omega
    · obtain rfl : k = s.size := by omega
      have HH := Lib.hid hh
      have BB := Lib.hid hb
      subst hlen2
      clear hlt hk hh hb hR
      go_wp2_with fail
      go_ret
      exact ⟨a0, c0, rfl, HH.out.helds, BB.out⟩

set_option maxRecDepth 100000 in
set_option maxHeartbeats 4000000 in
theorem rwaits_any {w : World} {r bL bW bI : Nat} {s : Dsk.St} (h : RDskAt w r bL bW bI s) :
    Calls Try.prog 41 #[.pointer (some ⟨r, 0, none⟩)] w (RHeldAns s.waitsL w) := by
  have H := Lib.hid h
  have hi := h.ok.hi
  have hz : (s.size : Int) ≤ 4096 := by omega
  have HZ : Hid (s.size ≤ 4096) := hi
  have HE : Hid (s.waitsL = selTo (fun n => (s.W n).isSome) (fun n => (s.W n).getD []) s.size) := rfl
  rw [HE.out]
  clear h hi HE
  go_enter Try.func41, Try.ntmps41
  go_wp2_with fail
  go_loopw [3, 4] (fun out i wr => ∃ (k : Nat) (a : Option Addr) (len c : Nat), k ≤ s.size ∧ i = .int .i64 k ∧ out = .slice a len c ∧ len = (selTo (fun n => (s.W n).isSome) (fun n => (s.W n).getD []) k).length ∧ HeldOld wr w.heap.size out (selTo (fun n => (s.W n).isSome) (fun n => (s.W n).getD []) k) ∧ Below w.heap.size w wr) (fun _ i _ => s.size - (intOf i).toNat)
  case atStart => exact ⟨0, none, 0, 0, by omega, rfl, rfl, rfl, HeldOld.nil _ _, Below.refl _ _⟩
  case round =>
    obtain ⟨k, a0, len, c0, hk, rfl, rfl, hlen2, hh, hb⟩ := hrel
    have hR := H.out.below hb
    obtain ⟨g0, g1, g2, -, -, -⟩ := hR.cells
    by_cases hlt : k < s.size
    · have l0 : (0 : Int) ≤ (k : Int) := by omega
      have l1 : (k : Int) < (s.size : Int) := by omega
      obtain ⟨aL, cL, gL, -, bL0⟩ := H.out.rowW.cell hlt
      have gL2 := cell_later hb gL
      obtain ⟨gI, -⟩ := hR.isAt hlt
      have hS := selTo_succ (fun n => (s.W n).isSome) (fun n => (s.W n).getD []) k
      have hml : (selTo (fun n => (s.W n).isSome) (fun n => (s.W n).getD []) k).length ≤ 4096 := by
        have := selTo_len (fun n => (s.W n).isSome) (fun n => (s.W n).getD []) k
        have := HZ.out; omega
      have hold := fun hne => Bytes.old bL0 hne
      have bL1 := bL0.below hb
      cases hw : s.W k with
      | none =>
        have HS : Hid (selTo (fun n => (s.W n).isSome) (fun n => (s.W n).getD []) (k + 1) = selTo (fun n => (s.W n).isSome) (fun n => (s.W n).getD []) k) := by unfold Hid; rw [hS, hw]; simp
        rw [hw] at gI
        simp only [Option.isSome_none] at gI
        have HH := Lib.hid hh
        have BB := Lib.hid hb
        have HLT := Lib.hid hlt
        have HLEN := Lib.hid hlen2
        clear hlt hk hh hb hS hml hold bL0 bL1 hlen2 hR gL gL2 hw
        go_wp2_with fail
        go_roundw
        case rel => exact ⟨k + 1, a0, len, c0, by have := HLT.out; omega, by go_num, rfl, by rw [HS.out, HLEN.out], by rw [HS.out]; exact HH.out, BB.out⟩
        case measure => simp [intOf]; have := HLT.out; omega
      | some m =>
        simp only [hw, Option.isSome_some, if_true, Option.getD_some] at hS gI gL2 bL0 bL1 hold
        have HS := Lib.hid hS
        obtain ⟨av4, cap4, w4, HR4, HH4, HB4⟩ := hh.snoc (n := (k : Int)) bL1 hold (by omega) hb.size
        have HR5 := HR4.out
        rw [← hlen2] at HR5
        have HR6 := Lib.hid HR5
        have BB := Lib.hid hb
        have HLT := Lib.hid hlt
        have HLEN := Lib.hid hlen2
        clear hlt hk hh hb hS hml hold bL0 bL1 hlen2 hR gL HR4 HR5 hw
        go_wp2_with (first
          | (at_builtin; refine Lib.wpList_append_run _ rfl (.tmp 21) (.tmp 31) _ _ rfl _ _ rfl rfl _ _ HR6.out ?_))
        go_roundw
        case rel => exact ⟨k + 1, av4, len + 1, cap4, by have := HLT.out; omega, by go_num, rfl, by rw [HS.out, List.length_append, HLEN.out]; rfl, by rw [HS.out, HLEN.out]; exact HH4.out, BB.out.trans HB4.out⟩
        case measure => simp [intOf]; have := HLT.out; omega
    · obtain rfl : k = s.size := by omega
      have HH := Lib.hid hh
      have BB := Lib.hid hb
      subst hlen2
      clear hlt hk hh hb hR
      go_wp2_with fail
      go_ret
      exact ⟨a0, c0, rfl, HH.out.helds, BB.out⟩

end Go.Proofs.Ytddcdhmeknkphaa
