/- Walks of the reference's disk: settle, Flush. -/
import Derived.Test.YtddcdhmeknkphaaRdskWalk
namespace Go.Proofs.Ytddcdhmeknkphaa
open Go.RowKit

theorem upd_getD (W : Nat → Option (List UInt8)) (i : Nat) (x : Option (List UInt8)) : (fun j => (Dsk.St.upd W i x j).getD []) = Dsk.St.upd (fun j => (W j).getD []) i (x.getD []) := by
  funext j
  unfold Dsk.St.upd
  split <;> rfl
theorem upd_isSome (W : Nat → Option (List UInt8)) (i : Nat) (x : Option (List UInt8)) : (fun j => (Dsk.St.upd W i x j).isSome) = Dsk.St.upd (fun j => (W j).isSome) i x.isSome := by
  funext j
  unfold Dsk.St.upd
  split <;> rfl

/-- what lasts is laid -/
theorem RDskAt.setL {w : World} {r bL bW bI : Nat} {s : Dsk.St} (h : RDskAt w r bL bW bI s) {i : Nat} (hi : i < s.size) {l : List UInt8} {a : Option Addr} {c : Nat} (hv : Bytes w (.slice a l.length c) l) (hl : l.length ≤ 1024) :
    RDskAt (w.setCell ⟨bL, i, none⟩ (.slice a l.length c)) r bL bW bI { s with L := Dsk.St.upd s.L i l } ∧ Chg [r, bL, bW, bI] w (w.setCell ⟨bL, i, none⟩ (.slice a l.length c)) := by
  have hc : Chg [bL] w (w.setCell ⟨bL, i, none⟩ (.slice a l.length c)) := (Chg.refl _ _).setCell (.inl (by simp)) _
  have hn : ∀ k ∈ [bL], NoU8 w k := by intro k hk; simp only [List.mem_singleton] at hk; subst hk; exact h.rowL.no
  refine ⟨⟨(hc.block r (lt_of_block h.top) (by simpa using h.ne_rL)).trans h.top, h.rowL.set hv, h.rowW.kept hc hn (by simpa using h.ne.symm), (hc.block bI (lt_of_block h.rowI) (by simpa using h.ne_LI.symm)).trans h.rowI, ?_, h.ne⟩, hc.mono (by simp)⟩
  refine ⟨h.ok.lo, h.ok.hi, h.ok.f0, h.ok.f1, h.ok.f2, fun k hk => ?_, h.ok.offW, fun k => ?_, h.ok.lenW⟩
  · have hk' : s.size ≤ k := hk
    show Dsk.St.upd s.L i l k = []
    rw [Dsk.St.upd_other _ _ _ _ (by omega)]; exact h.ok.offL k hk'
  · show (Dsk.St.upd s.L i l k).length ≤ 1024
    unfold Dsk.St.upd
    split
    · exact hl
    · exact h.ok.lenL k

/-- what waits is laid: first whether, then what -/
theorem RDskAt.setW {w : World} {r bL bW bI : Nat} {s : Dsk.St} (h : RDskAt w r bL bW bI s) {i : Nat} (hi : i < s.size) (x : Option (List UInt8)) {a : Option Addr} {c : Nat} (hv : Bytes w (.slice a (x.getD []).length c) (x.getD [])) (hl : (x.getD []).length ≤ 1024) :
    RDskAt ((w.setCell ⟨bI, i, none⟩ (.bool x.isSome)).setCell ⟨bW, i, none⟩ (.slice a (x.getD []).length c)) r bL bW bI { s with W := Dsk.St.upd s.W i x } ∧ Chg [r, bL, bW, bI] w ((w.setCell ⟨bI, i, none⟩ (.bool x.isSome)).setCell ⟨bW, i, none⟩ (.slice a (x.getD []).length c)) := by
  have h1 : Chg [bI] w (w.setCell ⟨bI, i, none⟩ (.bool x.isSome)) := (Chg.refl _ _).setCell (.inl (by simp)) _
  have n1 : ∀ k ∈ [bI], NoU8 w k := by intro k hk; simp only [List.mem_singleton] at hk; subst hk; exact h.boolNo
  have rW1 : BRow (w.setCell ⟨bI, i, none⟩ (.bool x.isSome)) bW s.size (fun i => (s.W i).getD []) := h.rowW.kept h1 n1 (by simpa using h.ne_WI)
  have rL1 : BRow (w.setCell ⟨bI, i, none⟩ (.bool x.isSome)) bL s.size s.L := h.rowL.kept h1 n1 (by simpa using h.ne_LI)
  have hv1 := hv.off h1 n1
  have h2 : Chg [bW] (w.setCell ⟨bI, i, none⟩ (.bool x.isSome)) ((w.setCell ⟨bI, i, none⟩ (.bool x.isSome)).setCell ⟨bW, i, none⟩ (.slice a (x.getD []).length c)) := (Chg.refl _ _).setCell (.inl (by simp)) _
  have n2 : ∀ k ∈ [bW], NoU8 (w.setCell ⟨bI, i, none⟩ (.bool x.isSome)) k := by intro k hk; simp only [List.mem_singleton] at hk; subst hk; exact rW1.no
  have t1 := (h1.block r (lt_of_block h.top) (by simpa using h.ne_rI)).trans h.top
  have i1 : (w.setCell ⟨bI, i, none⟩ (.bool x.isSome)).heap[bI]? = some (.cells (boolCells s.size (Dsk.St.upd (fun i => (s.W i).isSome) i x.isSome)) 4 (0, 0)) := by
    rw [heap_setCell_same _ _ _ _ _ _ h.rowI, boolCells_set]
  refine ⟨⟨(h2.block r (lt_of_block t1) (by simpa using h.ne_rW)).trans t1, rL1.kept h2 n2 (by simpa using h.ne), ?_, ?_, ?_, h.ne⟩, (h1.mono (by simp)).trans (h2.mono (by simp))⟩
  · show BRow _ bW s.size (fun j => (Dsk.St.upd s.W i x j).getD [])
    rw [upd_getD]
    exact rW1.set hv1
  · show _ = some (Obj.cells (boolCells s.size fun j => (Dsk.St.upd s.W i x j).isSome) _ _)
    rw [upd_isSome]
    exact (h2.block bI (lt_of_block i1) (by simpa using h.ne_WI.symm)).trans i1
  · refine ⟨h.ok.lo, h.ok.hi, h.ok.f0, h.ok.f1, h.ok.f2, h.ok.offL, fun k hk => ?_, h.ok.lenL, fun k c hc => ?_⟩
    · have hk' : s.size ≤ k := hk
      show Dsk.St.upd s.W i x k = none
      rw [Dsk.St.upd_other _ _ _ _ (by omega)]; exact h.ok.offW k hk'
    · have hc' : Dsk.St.upd s.W i x k = some c := hc
      by_cases e : k = i
      · subst e
        rw [Dsk.St.upd_same] at hc'
        rw [hc'] at hl
        exact hl
      · rw [Dsk.St.upd_other _ _ _ _ e] at hc'; exact h.ok.lenW k c hc'

theorem RDskAt.drew {w : World} {r bL bW bI : Nat} {s : Dsk.St} (h : RDskAt w r bL bW bI s) : RDskAt w.drew r bL bW bI s :=
  h.kept (Chg.refl [] w).drew (fun _ hk => by cases hk) (by simp)

set_option maxRecDepth 100000 in
set_option maxHeartbeats 4000000 in
theorem settle_any {w : World} {r bL bW bI : Nat} {s : Dsk.St} (h : RDskAt w r bL bW bI s) (i : Nat) (hi : i < s.size) (l : Bool) :
    Calls Try.prog 46 #[.pointer (some ⟨r, 0, none⟩), .int .i64 (i : Int), .bool l] w (RTurns w r bL bW bI (s.settle i l) (.tuple #[])) := by
  obtain ⟨c0, c1, c2, -, -, -⟩ := h.cells
  obtain ⟨g1, fI⟩ := h.isAt hi
  obtain ⟨aL, cL, gL, fL, bL'⟩ := h.rowL.cell hi
  obtain ⟨aW, cW, gW, fW, bW'⟩ := h.rowW.cell hi
  have hhi := h.ok.hi
  have i0 : (0 : Int) ≤ (i : Int) := by omega
  have i1 : (i : Int) < (s.size : Int) := by omega
  have ne1 := h.ne
  have ne2 := h.ne_LI
  have ne3 := h.ne_WI
  have ne4 := h.ne_rL
  have ne5 := h.ne_rW
  have ne6 := h.ne_rI
  by_cases hc : l = true ∧ (s.W i).isSome = true
  · obtain ⟨rfl, hs⟩ := hc
    obtain ⟨b, hb⟩ := Option.isSome_iff_exists.1 hs
    rw [hb] at g1 gW bW'
    simp only [Option.isSome_some, Option.getD_some] at g1 gW bW'
    obtain ⟨x1, x2⟩ := h.setL hi bW' (h.ok.lenW i b hb)
    obtain ⟨y1, y2⟩ := x1.setW (i := i) hi none (a := none) (c := 0) (.nil _) (by simp)
    have e : s.settle i true = { ({ s with L := Dsk.St.upd s.L i b } : Dsk.St) with W := Dsk.St.upd s.W i none } := by
      unfold Dsk.St.settle; rw [hb]; rfl
    rw [e]
    have X := Lib.hid y1
    have Y := Lib.hid (x2.trans y2)
    clear h e x1 x2 y1 y2 hs hb bL' bW' hi
    go_enter Try.func46, Try.ntmps46
    go_wp2_with fail
    go_region
    all_goals go_wp2_with fail
    all_goals go_end0
    all_goals exact ⟨rfl, X.out.drew, Y.out.drew⟩
  · have hcase : (s.W i).isSome = false ∨ ((s.W i).isSome = true ∧ l = false) := by
      cases hw : (s.W i).isSome with
      | false => exact .inl rfl
      | true =>
        cases hl : l with
        | false => exact .inr ⟨rfl, rfl⟩
        | true => exact absurd ⟨hl, hw⟩ hc
    have e : s.settle i l = { s with W := Dsk.St.upd s.W i none } := by
      unfold Dsk.St.settle
      rcases hcase with h1 | ⟨h1, rfl⟩
      · cases hw : s.W i with
        | some b => rw [hw] at h1; cases h1
        | none => cases l <;> rfl
      · rfl
    rw [e]
    obtain ⟨y1, y2⟩ := h.setW (i := i) hi none (a := none) (c := 0) (.nil _) (by simp)
    have X := Lib.hid y1
    have Y := Lib.hid y2
    generalize (s.W i).isSome = is at *
    clear h e y1 y2 bL' bW' hi hc gL
    rcases hcase with rfl | ⟨rfl, rfl⟩
    all_goals
      go_enter Try.func46, Try.ntmps46
      go_wp2_with fail
      go_end0
      exact ⟨rfl, X.out, Y.out⟩

/-- Flush's plain law, sector by sector -/
theorem flush_part {s : Dsk.St} (h : s.Ok) : s.part true s.size = { s with L := s.look, W := fun _ => none } := Dsk.St.part_all h true

set_option maxRecDepth 100000 in
set_option maxHeartbeats 4000000 in
theorem rflush_any {w : World} {r bL bW bI : Nat} {s : Dsk.St} (h : RDskAt w r bL bW bI s) :
    Calls Try.prog 35 #[.pointer (some ⟨r, 0, none⟩)] w (RTurns w r bL bW bI (s.flush).2 (.int .i64 (s.flush).1)) := by
  obtain ⟨-, -, -, c3, -, -⟩ := h.cells
  cases hdn : s.down with
  | true =>
    rw [hdn] at c3
    have e : s.flush = (40, s) := by unfold Dsk.St.flush; rw [hdn]; rfl
    rw [e]
    have H := Lib.hid h
    clear h e hdn
    go_enter Try.func35, Try.ntmps35
    go_wp2_with fail
    go_ret
    exact ⟨rfl, H.out, Chg.refl _ _⟩
  | false =>
    rw [hdn] at c3
    have hA := ract_any h
    cases hbk : s.blocked with
    | true =>
      have e : s.flush = (40, s.act) := by unfold Dsk.St.flush; rw [hdn, hbk]; rfl
      rw [e]
      rw [hbk] at hA
      simp only [Bool.not_true] at hA
      clear h e hdn hbk
      go_enter Try.func35, Try.ntmps35
      go_wp2_with fail
      refine hA.mono ?_
      rintro e w1 ⟨rfl, hD, hC⟩
      have D1 := Lib.hid hD
      have C1 := Lib.hid hC
      clear hA hD hC
      go_wp2_with fail
      go_ret
      exact ⟨rfl, D1.out, C1.out⟩
    | false =>
      have e : s.flush = (0, { s.act with L := s.look, W := fun _ => none }) := by unfold Dsk.St.flush; rw [hdn, hbk]; rfl
      have e3 : ({ s.act with L := s.look, W := fun _ => none } : Dsk.St) = { s.act with L := s.act.look, W := fun _ => none } := by
        have : s.act.look = s.look := by funext n; unfold Dsk.St.look; rw [Dsk.St.act_L, Dsk.St.act_W]
        rw [this]
      have e4 := flush_part (Dsk.St.ok_act h.ok)
      have hz : (s.act.size : Int) ≤ 4096 := by have := (Dsk.St.ok_act h.ok).hi; omega
      rw [e]
      simp only [e3]
      rw [hbk] at hA
      simp only [Bool.not_false] at hA
      generalize s.act = s1 at *
      rw [← e4]
      clear h e hdn hbk e3 e4
      go_enter Try.func35, Try.ntmps35
      go_wp2_with fail
      refine hA.mono ?_
      rintro e w1 ⟨rfl, hD, hC⟩
      have D1 := Lib.hid hD
      have C1 := Lib.hid hC
      clear hA hD hC
      go_wp2_with fail
      go_loopw [4] (fun i wr => ∃ k : Nat, k ≤ s1.size ∧ i = .int .i64 k ∧ RDskAt wr r bL bW bI (s1.part true k) ∧ Chg [r, bL, bW, bI] w wr) (fun i _ => s1.size - (Go.RowKit.intOf i).toNat)
      case atStart => exact ⟨0, by omega, rfl, by rw [Dsk.St.part_zero]; exact D1.out, C1.out⟩
      case round =>
        obtain ⟨k, hk, rfl, hD, hC⟩ := hrel
        have D := Lib.hid hD
        have C := Lib.hid hC
        obtain ⟨c0, -, -, -, -, -⟩ := hD.cells
        rw [Dsk.St.part_size] at c0
        by_cases hlt : k < s1.size
        · have l1 : (k : Int) < (s1.size : Int) := by omega
          have hset := settle_any hD k hlt true
          rw [Dsk.St.part_succ] at hset
          have HLT := Lib.hid hlt
          clear hD hC hk hlt
          go_wp2_with fail
          refine hset.mono ?_
          rintro e w2 ⟨rfl, hD2, hC2⟩
          have D2 := Lib.hid hD2
          have C2 := Lib.hid hC2
          clear hset hD2 hC2
          go_wp2_with fail
          go_roundw
          case rel => exact ⟨k + 1, by have := HLT.out; omega, by go_num, D2.out, C.out.trans C2.out⟩
          case measure => simp [Go.RowKit.intOf]; have := HLT.out; omega
        · obtain rfl : k = s1.size := by omega
          clear hD hC hk hlt
          go_wp2_with fail
          go_ret
          exact ⟨rfl, D.out, C.out⟩

end Go.Proofs.Ytddcdhmeknkphaa
