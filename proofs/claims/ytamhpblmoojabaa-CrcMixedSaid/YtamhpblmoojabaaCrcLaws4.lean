/- Walk of the statement's own function CrcMixed. -/
import Derived.Test.YtamhpblmoojabaaCrcLaws3
import Derived.Deep.AppendLies
namespace Go.Proofs.Ytamhpblmoojabaa
open Go.RowKit

theorem mix3_length (a : List UInt8) : ∀ b c : List UInt8, a.length = b.length → a.length = c.length → (Crc.mix3 a b c).length = a.length := by
  induction a with
  | nil => intro b c _ _; cases b <;> cases c <;> rfl
  | cons x a ih =>
    intro b c h1 h2
    match b, c, h1, h2 with
    | y :: b, z :: c, h1, h2 =>
      simp only [Crc.mix3, List.length_cons]
      rw [ih b c (by simpa using h1) (by simpa using h2)]

theorem mix3_get (a : List UInt8) : ∀ (b c : List UInt8) (k : Nat), a.length = b.length → a.length = c.length → k < a.length → (Crc.mix3 a b c).getD k 0 = a.getD k 0 ^^^ b.getD k 0 ^^^ c.getD k 0 := by
  induction a with
  | nil => intro b c k _ _ h; simp at h
  | cons x a ih =>
    intro b c k h1 h2 h
    match b, c, h1, h2 with
    | y :: b, z :: c, h1, h2 =>
      cases k with
      | zero => rfl
      | succ k =>
        have := ih b c k (by simpa using h1) (by simpa using h2) (by simpa using h)
        simpa [Crc.mix3] using this

attribute [local go_sem ↓] Go.wp_at_zero Go.wp_at_succ

set_option maxRecDepth 100000 in
set_option maxHeartbeats 4000000 in
theorem crcMixed_walk (va : Value) (a : List UInt8) (vb : Value) (b : List UInt8) (vc : Value) (c : List UInt8) (w : World) (ha : Bytes w va a) (hb : Bytes w vb b) (hc : Bytes w vc c) :
    Calls Try.prog 8 #[va, vb, vc] w fun e w' => e = .returned (.bool true) ∧ Below w.heap.size w w' := by
  by_cases hgo : a.length ≤ 2000 ∧ a.length = b.length ∧ a.length = c.length
  · obtain ⟨hbig, e1, e2⟩ := hgo
    have hla : a.length ≤ 140737488351232 := by omega
    have hlb : b.length ≤ 140737488351232 := by omega
    have hlc : c.length ≤ 140737488351232 := by omega
    obtain ⟨i0, hi0, hz0, hz1, hz2⟩ := info_parts Try.info8
    obtain ⟨aa, ca, rfl, -, ba, oa, HA, HCA⟩ := ha.opened
    obtain ⟨ab, cb, rfl, -, bb, ob, HAB, HCB⟩ := hb.opened
    obtain ⟨ac, cc, rfl, -, bc, oc, HAC, HCC⟩ := hc.opened
    have hd : decide ((2000 : Int) < (a.length : Int)) = false := decide_eq_false (by omega)
    have hn1 : ((a.length : Int) != (b.length : Int)) = false := bne_eq_false_iff_eq.2 (by omega)
    have hn2 : ((a.length : Int) != (c.length : Int)) = false := bne_eq_false_iff_eq.2 (by omega)
    obtain ⟨D, HD⟩ : ∃ D, Hid (Crc.more 0#32 a ^^^ Crc.more 0#32 b = D) := ⟨_, rfl⟩
    have x1 := xor32 (Crc.more 0#32 a) (Crc.more 0#32 b)
    rw [HD.out] at x1
    obtain ⟨m, HM⟩ : ∃ m, Hid (Crc.mix3 a b c = m) := ⟨_, rfl⟩
    have x2 := xor32 D (Crc.more 0#32 c)
    rw [← HD.out, ← Crc.more_mix3 a b c e1 e2, HM.out, HD.out] at x2
    have HML : Hid (m.length = a.length) := by rw [← HM.out]; exact mix3_length a b c e1 e2
    have E1 := Lib.hid e1
    have E2 := Lib.hid e2
    clear e1 e2
    go_enter Try.func8, Try.ntmps8
    go_wp2_with (first
        | (go_at_call 9; refine (awake_any _).mono ?_; rintro e w1 ⟨rfl, HB⟩; have B1 := Lib.hid HB; have a1 := ha.below HB; have b1 := hb.below HB; have c1 := hc.below HB; clear HB))
    go_loopw [8, 9] (fun v i wr => ∃ k : Nat, k ≤ a.length ∧ i = .int .i64 k ∧ wr.ownsRow w1.heap.size 5 1 v k (byteVals (m.take k)) ∧ Below w1.heap.size w1 wr) (fun _ i _ => a.length - (intOf i).toNat)
    case atStart => exact ⟨0, by omega, rfl, World.ownsRow_nil _ _ _ _, Below.refl _ _⟩
    case round =>
      obtain ⟨k, hk, rfl, hown, hbel⟩ := hrel
      have HO := Lib.hid hown
      have HB := Lib.hid hbel
      clear hown hbel
      by_cases hlt : k < a.length
      · obtain rfl := HA (List.ne_nil_of_length_pos (by omega))
        obtain rfl := HAB (List.ne_nil_of_length_pos (by have := E1.out; omega))
        obtain rfl := HAC (List.ne_nil_of_length_pos (by have := E2.out; omega))
        have l1 : (k : Int) < (a.length : Int) := by omega
        have l2 : (k : Int) < (b.length : Int) := by have := E1.out; omega
        have l3 : (k : Int) < (c.length : Int) := by have := E2.out; omega
        have l0 : (0 : Int) ≤ (k : Int) := by omega
        have BW := hid_trans B1 HB.out
        have ka := cell_later BW.out (HCA.out k (by omega))
        have kb := cell_later BW.out (HCB.out k (by omega))
        have kc := cell_later BW.out (HCC.out k (by omega))
        have hmk := mix3_get a b c k E1.out E2.out hlt
        rw [HM.out] at hmk
        generalize hz1 : a.getD k 0 = z1 at *
        generalize hz2 : b.getD k 0 = z2 at *
        generalize hz3 : c.getD k 0 = z3 at *
        obtain ⟨z12, HZ12⟩ : ∃ z, Hid (z1 ^^^ z2 = z) := ⟨_, rfl⟩
        obtain ⟨z, HZ⟩ : ∃ z, Hid (z12 ^^^ z3 = z) := ⟨_, rfl⟩
        have y1 := xor8 z1 z2
        rw [HZ12.out] at y1
        have y2 := xor8 z12 z3
        rw [HZ.out] at y2
        rw [HZ12.out, HZ.out] at hmk
        have hsnoc : byteVals (m.take k) ++ [Value.int .u8 (z.toNat : Int)] = byteVals (m.take (k + 1)) := by
          rw [take_snoc m k (by have := HML.out; omega), hmk, byteVals_append]; rfl
        have HSN := Lib.hid hsnoc
        have HLT := Lib.hid hlt
        have na := block_lt_of_cell ka
        have nb := block_lt_of_cell kb
        have nc := block_lt_of_cell kc
        have NA : Hid (ba < w1.heap.size ∧ bb < w1.heap.size ∧ bc < w1.heap.size) := by
          have q := B1.out.size
          have qa := block_lt_of_cell (HCA.out k (by omega))
          have qb := block_lt_of_cell (HCB.out k (by have := E1.out; omega))
          have qc := block_lt_of_cell (HCC.out k (by have := E2.out; omega))
          simp only at qa qb qc
          exact ⟨by omega, by omega, by omega⟩
        clear hmk hz1 hz2 hz3 hsnoc hlt hk na nb nc
        go_wp2_with fail
        go_region_held3 (fun w' => w'.cell? ⟨ba, oa + k, none⟩ = some (.int .u8 (z1.toNat : Int)) ∧ w'.cell? ⟨bb, ob + k, none⟩ = some (.int .u8 (z2.toNat : Int)) ∧ w'.cell? ⟨bc, oc + k, none⟩ = some (.int .u8 (z3.toNat : Int)))
          (first | (exact ⟨(HB2.out.cell (p := ⟨ba, oa + k, none⟩) NA.out.1).trans ka, (HB2.out.cell (p := ⟨bb, ob + k, none⟩) NA.out.2.1).trans kb, (HB2.out.cell (p := ⟨bc, oc + k, none⟩) NA.out.2.2).trans kc⟩) | go_keep)
          ((refine step_append_lies _ (by rfl) _ _ _ (by rfl) w1.heap.size 5 i0 (.int .u8 0) 1 1 Try.underlying26 hi0 hz0 hz1 hz2 rfl (by omega) _ k (byteVals (m.take k)) (by rfl) ((HO.out.alloc _).drew) ⟨wr.heap.size, 0, none⟩ 1 1 [.int .u8 (z.toNat : Int)] (by rfl) (by rfl) (World.news_of_block (cs := #[.int .u8 (z.toNat : Int)]) (t := 5) (fr := (0, 0)) (heap_alloc_new wr _)) (by simp [Value.oneCell']) (by omega) (by unfold maxLen; omega) (by omega) (by have := HB.out.size; simp; omega) (wr.heap.size + 1) (by simp) ?_; intro gg cap w2 hown1 hgrow hat hltg; have HB2 : Hid (Below w1.heap.size wr w2) := (((Below.refl _ _).alloc HB.out.size _).drew).trans (own_below (w := (wr.alloc _).drew) ((HO.out.alloc _).drew) hgrow (by have := HB.out.size; simp; omega)); have HO1 := Lib.hid hown1; clear hown1 hgrow hat hltg))
        go_wp2
        go_roundw
        case rel => exact ⟨k + 1, by have := HLT.out; omega, by go_num, by rw [← HSN.out]; exact HO1.out, HB.out.trans HB2.out⟩
        case measure => simp [intOf]; have := HLT.out; omega
      · obtain rfl : k = a.length := by omega
        have hm := HO.out
        rw [List.take_of_length_le (by have := HML.out; omega), ← HML.out] at hm
        have bx := own_bytes hm
        have BW := hid_trans B1 HB.out
        have a2 := a1.below HB.out
        have b2 := b1.below HB.out
        have c2 := c1.below HB.out
        clear hm hlt hk
        have hlm : m.length ≤ 140737488351232 := by have := HML.out; omega
        go_wp2_with fail
        refine (sum_any _ m _ bx hlm).mono ?_
        rintro e w3 ⟨rfl, HB3⟩
        replace a2 := a2.below HB3
        replace b2 := b2.below HB3
        replace c2 := c2.below HB3
        have B3 := hid_trans BW HB3
        clear HB3 BW
        go_wp2_with fail
        refine (sum_any _ a _ a2 hla).mono ?_
        rintro e w4 ⟨rfl, HB4⟩
        replace b2 := b2.below HB4
        replace c2 := c2.below HB4
        have B4 := hid_trans B3 HB4
        clear HB4 B3
        go_wp2_with fail
        refine (sum_any _ b _ b2 hlb).mono ?_
        rintro e w5 ⟨rfl, HB5⟩
        replace c2 := c2.below HB5
        have B5 := hid_trans B4 HB5
        clear HB5 B4
        go_wp2_with fail
        refine (sum_any _ c _ c2 hlc).mono ?_
        rintro e w6 ⟨rfl, HB6⟩
        have B6 := hid_trans B5 HB6
        clear HB6 B5
        go_wp2_with fail
        go_ret
        exact ⟨rfl, B6.out⟩
  · obtain ⟨aa, ca, rfl, -, ba, oa, HA, HCA⟩ := ha.opened
    obtain ⟨ab, cb, rfl, -, bb, ob, HAB, HCB⟩ := hb.opened
    obtain ⟨ac, cc, rfl, -, bc, oc, HAC, HCC⟩ := hc.opened
    by_cases h1 : 2000 < a.length
    · have hd : (2000 : Int) < (a.length : Int) := by omega
      go_enter Try.func8, Try.ntmps8
      go_wp2_with (first
        | (go_at_call 9; refine (awake_any _).mono ?_; rintro e w1 ⟨rfl, HB⟩; have B1 := Lib.hid HB; clear HB))
      go_ret
      exact ⟨rfl, B1.out⟩
    · have hd : decide ((2000 : Int) < (a.length : Int)) = false := decide_eq_false (by omega)
      by_cases h2 : a.length = b.length
      · have hn1 : ((a.length : Int) != (b.length : Int)) = false := bne_eq_false_iff_eq.2 (by omega)
        have hn2 : ((a.length : Int) != (c.length : Int)) = true := bne_iff_ne.2 (by omega)
        clear hgo h1 h2
        go_enter Try.func8, Try.ntmps8
        go_wp2_with (first
          | (go_at_call 9; refine (awake_any _).mono ?_; rintro e w1 ⟨rfl, HB⟩; have B1 := Lib.hid HB; clear HB))
        go_ret
        exact ⟨rfl, B1.out⟩
      · have hn1 : ((a.length : Int) != (b.length : Int)) = true := bne_iff_ne.2 (by omega)
        clear hgo h1 h2
        go_enter Try.func8, Try.ntmps8
        go_wp2_with (first
          | (go_at_call 9; refine (awake_any _).mono ?_; rintro e w1 ⟨rfl, HB⟩; have B1 := Lib.hid HB; clear HB))
        go_ret
        exact ⟨rfl, B1.out⟩

end Go.Proofs.Ytamhpblmoojabaa
