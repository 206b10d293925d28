/- Walks of the reference's disk: Turn, New. -/
import Derived.Test.YtddcdhmeknkphaaRdskRestart
import Derived.Test.YtddcdhmeknkphaaDskTurn
namespace Go.Proofs.Ytddcdhmeknkphaa
open Go.RowKit

theorem RDskAt.setWone {w : World} {r bL bW bI : Nat} {s : Dsk.St} (h : RDskAt w r bL bW bI s) {i : Nat} (hi : i < s.size) {b0 : List UInt8} (hb0 : s.W i = some b0) (b : List UInt8) {a : Option Addr} {c : Nat} (hv : Bytes w (.slice a b.length c) b) (hl : b.length ≤ 1024) :
    RDskAt (w.setCell ⟨bW, i, none⟩ (.slice a b.length c)) r bL bW bI { s with W := Dsk.St.upd s.W i (some b) } ∧ Chg [r, bL, bW, bI] w (w.setCell ⟨bW, i, none⟩ (.slice a b.length c)) := by
  have h1 : Chg [bW] w (w.setCell ⟨bW, i, none⟩ (.slice a b.length c)) := (Chg.refl _ _).setCell (.inl (by simp)) _
  have n1 : ∀ k ∈ [bW], NoU8 w k := by intro k hk; simp only [List.mem_singleton] at hk; subst hk; exact h.rowW.no
  have hsame : (fun j => (Dsk.St.upd s.W i (some b) j).isSome) = fun j => (s.W j).isSome := by
    funext j
    unfold Dsk.St.upd
    split
    · rename_i e; subst e; rw [hb0]; rfl
    · rfl
  refine ⟨⟨(h1.block r (lt_of_block h.top) (by simpa using h.ne_rW)).trans h.top, h.rowL.kept h1 n1 (by simpa using h.ne), ?_, ?_, ?_, h.ne⟩, h1.mono (by simp)⟩
  · show BRow _ bW s.size (fun j => (Dsk.St.upd s.W i (some b) j).getD [])
    rw [upd_getD]
    exact h.rowW.set hv
  · show _ = some (Obj.cells (boolCells s.size fun j => (Dsk.St.upd s.W i (some b) j).isSome) _ _)
    rw [hsame]
    exact (h1.block bI (lt_of_block h.rowI) (by simpa using h.ne_WI.symm)).trans h.rowI
  · refine ⟨h.ok.lo, h.ok.hi, h.ok.f0, h.ok.f1, h.ok.f2, h.ok.offL, fun k hk => ?_, h.ok.lenL, fun k c hc => ?_⟩
    · have hk' : s.size ≤ k := hk
      show Dsk.St.upd s.W i (some b) k = none
      rw [Dsk.St.upd_other _ _ _ _ (by omega)]; exact h.ok.offW k hk'
    · have hc' : Dsk.St.upd s.W i (some b) k = some c := hc
      by_cases e : k = i
      · subst e
        rw [Dsk.St.upd_same] at hc'
        cases hc'
        exact hl
      · rw [Dsk.St.upd_other _ _ _ _ e] at hc'; exact h.ok.lenW k c hc'

set_option maxRecDepth 100000 in
set_option maxHeartbeats 4000000 in
theorem rturn_any {w : World} {r bL bW bI : Nat} {s : Dsk.St} (h : RDskAt w r bL bW bI s) (n at_ : Int) (x : UInt8) (a0 : inI64 at_) :
    Calls Try.prog 38 #[.pointer (some ⟨r, 0, none⟩), .int .i64 n, .int .i64 at_, .int .u8 (x.toNat : Int)] w (RTurns w r bL bW bI (s.turn n at_ x).2 (.int .i64 (s.turn n at_ x).1)) := by
  obtain ⟨c0, c1, c2, -, -, -⟩ := h.cells
  have hi := h.ok.hi
  have hIs := ris_any h n
  have H := Lib.hid h
  cases hin : s.inside n with
  | false =>
    have e : s.turn n at_ x = (41, s) := by unfold Dsk.St.turn; rw [hin]; rfl
    rw [e]
    rw [hin] at hIs
    clear h e hin
    go_enter Try.func38, Try.ntmps38
    go_wp2_with fail
    refine hIs.mono ?_
    rintro e w' ⟨rfl, rfl⟩
    go_wp2_with fail
    go_ret
    exact ⟨rfl, H.out, Chg.refl _ _⟩
  | true =>
    rw [hin] at hIs
    obtain ⟨n0, n1⟩ := Dsk.St.inside_iff.1 hin
    obtain ⟨j, rfl⟩ := Int.eq_ofNat_of_zero_le n0
    have hjl : j < s.size := by omega
    have hz : (s.size : Int) ≤ 4096 := by omega
    obtain ⟨g1, fI⟩ := h.isAt hjl
    obtain ⟨aL, cL, gL, fL, bL'⟩ := h.rowL.cell hjl
    obtain ⟨aW, cW, gW, fW, bW'⟩ := h.rowW.cell hjl
    have ne1 := h.ne
    have hll := Dsk.St.look_len h.ok j
    have HJL := Lib.hid hjl
    -- the sector's bytes, wherever they stand
    have hlk : ∃ (wd : Bool) (ax : Option Addr) (cx : Nat), (s.W j).isSome = wd ∧ Bytes w (.slice ax (s.look j).length cx) (s.look j) ∧
        ((wd = true ∧ w.cell? ⟨bW, j, none⟩ = some (.slice ax (s.look j).length cx)) ∨ (wd = false ∧ w.cell? ⟨bL, j, none⟩ = some (.slice ax (s.look j).length cx))) := by
      cases hw : s.W j with
      | some b =>
        have e : s.look j = b := by unfold Dsk.St.look; rw [hw]; rfl
        rw [hw] at gW bW'
        rw [e]
        exact ⟨true, aW, cW, rfl, bW', .inl ⟨rfl, gW⟩⟩
      | none =>
        have e : s.look j = s.L j := by unfold Dsk.St.look; rw [hw]; rfl
        rw [e]
        exact ⟨false, aL, cL, rfl, bL', .inr ⟨rfl, gL⟩⟩
    obtain ⟨wd, ax, cx, hwd, hbx, hcase⟩ := hlk
    rw [hwd] at g1
    have HBX := Lib.hid hbx
    by_cases hz0 : s.look j = [] ∨ at_ < 0
    · have e : s.turn (j : Int) at_ x = (1, s) := by
        unfold Dsk.St.turn
        rw [hin]
        rcases hz0 with h1 | h1
        · rw [Int.toNat_natCast, h1]; rfl
        · rw [decide_eq_true h1]; simp
      rw [e]
      have hc2 : s.look j = [] ∨ ((((s.look j).length : Int) == 0) = false ∧ at_ < 0) := by
        by_cases h1 : s.look j = []
        · exact .inl h1
        · refine .inr ⟨beq_eq_false_iff_ne.2 ?_, hz0.resolve_left h1⟩
          have := List.length_pos_iff.2 h1; omega
      generalize s.look j = lk at *
      rcases hcase with ⟨rfl, hcell⟩ | ⟨rfl, hcell⟩
      · rcases hc2 with rfl | ⟨nz, hneg⟩
        all_goals
          try simp only [List.length_nil] at hcell
          clear h e hin hbx bL' bW' hll hz0 hwd hjl gW
          go_enter Try.func38, Try.ntmps38
          go_wp2_with fail
          refine hIs.mono ?_
          rintro e w' ⟨rfl, rfl⟩
          go_wp2_with fail
          go_ret
          exact ⟨rfl, H.out, Chg.refl _ _⟩
      · rcases hc2 with rfl | ⟨nz, hneg⟩
        all_goals
          try simp only [List.length_nil] at hcell
          clear h e hin hbx bL' bW' hll hz0 hwd hjl gW gL
          go_enter Try.func38, Try.ntmps38
          go_wp2_with fail
          refine hIs.mono ?_
          rintro e w' ⟨rfl, rfl⟩
          go_wp2_with fail
          go_ret
          exact ⟨rfl, H.out, Chg.refl _ _⟩
    · have hz : s.look j ≠ [] := fun h1 => hz0 (.inl h1)
      have hneg : ¬ at_ < 0 := fun h1 => hz0 (.inr h1)
      have hlp := List.length_pos_iff.2 hz
      have hemp : (s.look j).isEmpty = false := by
        cases hb : s.look j with
        | nil => exact absurd hb hz
        | cons a l => rfl
      have e : (s.turn (j : Int) at_ x).1 = 0 := by unfold Dsk.St.turn; rw [hin, Int.toNat_natCast, hemp, decide_eq_false hneg]; rfl
      have e2 : (s.turn (j : Int) at_ x).2 = match s.W j with | some _ => { s with W := Dsk.St.upd s.W j (some (Dsk.St.turned (s.look j) (at_.toNat % (s.look j).length) x)) } | none => { s with L := Dsk.St.upd s.L j (Dsk.St.turned (s.look j) (at_.toNat % (s.look j).length) x) } := by
        unfold Dsk.St.turn; rw [hin, Int.toNat_natCast, hemp, decide_eq_false hneg]; rfl
      rw [e]
      have hlay : Hid (∀ (w' : World) (a : Option Addr) (c : Nat) (l' : List UInt8), RDskAt w' r bL bW bI s → l' = Dsk.St.turned (s.look j) (at_.toNat % (s.look j).length) x → Bytes w' (.slice a l'.length c) l' → RDskAt (w'.setCell ⟨(if wd then bW else bL), j, none⟩ (.slice a l'.length c)) r bL bW bI (s.turn (j : Int) at_ x).2 ∧ Chg [r, bL, bW, bI] w' (w'.setCell ⟨(if wd then bW else bL), j, none⟩ (.slice a l'.length c))) := by
        intro w' a c l' hw' hl' hv
        have hlen : l'.length ≤ 1024 := by rw [hl', Dsk.St.turned_len]; exact hll
        rw [e2, ← hl']
        cases hw : s.W j with
        | some b0 =>
          rw [hw] at hwd
          obtain rfl : true = wd := hwd
          exact hw'.setWone hjl hw l' hv hlen
        | none =>
          rw [hw] at hwd
          obtain rfl : false = wd := hwd
          exact hw'.setL hjl hv hlen
      generalize (s.turn (j : Int) at_ x).2 = t at *
      generalize s.look j = l at *
      have nz : ((l.length : Int) == 0) = false := beq_eq_false_iff_ne.2 (by omega)
      obtain ⟨i, hi2⟩ : ∃ i, at_.toNat % l.length = i := ⟨_, rfl⟩
      have hilt : i < l.length := by rw [← hi2]; exact Nat.mod_lt _ hlp
      have hidx : at_.tmod (l.length : Int) = (i : Int) := by
        rw [← hi2]
        obtain ⟨m, rfl⟩ := Int.eq_ofNat_of_zero_le (show 0 ≤ at_ by omega)
        rw [Int.toNat_natCast]
        exact (Int.ofNat_tmod m l.length).symm
      rw [hi2] at hlay
      have hi' : (i : Int) < (l.length : Int) := by omega
      have hlp' : (0 : Int) < (l.length : Int) := by omega
      obtain ⟨z, HZ⟩ : ∃ z, Hid (l.getD i 0 = z) := ⟨_, rfl⟩
      obtain ⟨z', HZ'⟩ : ∃ z', Hid (z ^^^ x = z') := ⟨_, rfl⟩
      obtain ⟨l', HL'⟩ : ∃ l', Hid (Dsk.St.turned l i x = l') := ⟨_, rfl⟩
      have HS : Hid (l.set i z' = l') := by unfold Hid; rw [← HL'.out, ← HZ'.out, ← HZ.out]; rfl
      rw [HL'.out] at hlay
      have hx8 := xor8 z x
      rw [HZ'.out] at hx8
      have HI := Lib.hid hilt
      have HLL := Lib.hid hll
      have HZN := Lib.hid hz
      obtain ⟨a2, L2, k2, w2, HL2, HR2, HO2, HB2⟩ := Dk.copy_new HBX.out (by omega)
      subst HL2
      obtain ⟨g, cap, he, hg1, hg2, hcap⟩ := own_shape HO2.out (by omega)
      rw [Value.slice.injEq] at he
      obtain ⟨rfl, -, rfl⟩ := he
      have hc : w2.cell? ⟨g, i, none⟩ = some (.int .u8 (z.toNat : Int)) := by rw [HO2.out.cellAt i (by have := HI.out; omega), byteVals_get l i HI.out, HZ.out]
      have hf : w2.frozen? ⟨g, i, none⟩ = false := HO2.out.frozenAt i
      have o3 := (HO2.out.stored i (.int .u8 (z'.toNat : Int))).1
      rw [← byteVals_set, HS.out] at o3
      have hll2 : l.length = l'.length := by rw [← HS.out]; simp
      have o4 := o3
      rw [hll2] at o4
      have b4 := own_bytes o4
      have bel : Below w.heap.size w (w2.setCell ⟨g, i, none⟩ (.int .u8 (z'.toNat : Int))) := HB2.out.setCell hg1 _ (p := ⟨g, i, none⟩)
      have hd3 := H.out.below bel
      obtain ⟨hd4, hc4⟩ := hlay.out _ _ _ l' hd3 rfl b4
      rw [← hll2] at hd4 hc4
      have D4 := Lib.hid hd4
      have C4 := Lib.hid ((Chg.of_below bel).trans hc4)
      obtain ⟨k0, k1, k2', -, -, -⟩ := hd3.cells
      obtain ⟨aL3, cL3, gL3, fL3, -⟩ := hd3.rowL.cell hjl
      obtain ⟨aW3, cW3, gW3, fW3, -⟩ := hd3.rowW.cell hjl
      obtain ⟨g13, fI3⟩ := hd3.isAt hjl
      rw [hwd] at g13
      have gne : ∀ k, k < w.heap.size → g ≠ k := by intro k hk; omega
      clear o3 o4 b4 bel hd3 hd4 hc4 hll2 hlay e2
      rcases hcase with ⟨rfl, hcell⟩ | ⟨rfl, hcell⟩
      · simp only [if_true] at D4 C4
        clear h e hin hbx bL' bW' hll hz0 hwd hjl gW hz hemp hi2 hilt hlp
        go_enter Try.func38, Try.ntmps38
        go_wp2_with fail
        refine hIs.mono ?_
        rintro e w' ⟨rfl, rfl⟩
        go_wp2_with (first
          | (at_builtin; refine Lib.wpList_append_run _ rfl (.tmp 45) (.tmp 46) _ _ rfl _ _ rfl rfl _ _ HR2.out ?_))
        go_region
        all_goals
          go_wp2_with fail
          go_ret
          exact ⟨rfl, D4.out.below (Below.refl _ _).drew, C4.out.trans (Chg.of_below (Below.refl _ _).drew)⟩
      · simp only [Bool.false_eq_true, if_false] at D4 C4
        clear h e hin hbx bL' bW' hll hz0 hwd hjl gW gL hz hemp hi2 hilt hlp
        go_enter Try.func38, Try.ntmps38
        go_wp2_with fail
        refine hIs.mono ?_
        rintro e w' ⟨rfl, rfl⟩
        go_wp2_with (first
          | (at_builtin; refine Lib.wpList_append_run _ rfl (.tmp 45) (.tmp 46) _ _ rfl _ _ rfl rfl _ _ HR2.out ?_))
        go_region
        all_goals
          go_wp2_with fail
          go_ret
          exact ⟨rfl, D4.out.below (Below.refl _ _).drew, C4.out.trans (Chg.of_below (Below.refl _ _).drew)⟩


end Go.Proofs.Ytddcdhmeknkphaa
