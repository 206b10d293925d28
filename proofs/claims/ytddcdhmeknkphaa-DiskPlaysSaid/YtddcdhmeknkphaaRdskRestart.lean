/- Walks of the reference's disk: Restart. -/
import Derived.Test.YtddcdhmeknkphaaRdskWrite
import Derived.Test.YtddcdhmeknkphaaDskRestart
namespace Go.Proofs.Ytddcdhmeknkphaa
open Go.RowKit

theorem restart_part {s : Dsk.St} (h : s.Ok) : Dsk.St.wake (s.part false s.size) = Dsk.St.wake s := by
  rw [Dsk.St.part_all h false]; rfl

theorem keep1_out {s : Dsk.St} {n : Int} (h : s.inside n = false) : s.keep1 n = s := by unfold Dsk.St.keep1; rw [h]; rfl
theorem keep1_empty {s : Dsk.St} {n : Nat} (h : s.W n = none) : s.keep1 (n : Int) = s := by
  unfold Dsk.St.keep1
  rw [Int.toNat_natCast, h]
  split <;> rfl

set_option maxRecDepth 100000 in
set_option maxHeartbeats 4000000 in
theorem rrestart_any {w : World} {r bL bW bI : Nat} {s : Dsk.St} (h : RDskAt w r bL bW bI s) (va : Value) (l : List Int) (hl : Row w va (intVals l)) (hI : ∀ n ∈ l, inI64 n) (hlen : l.length ≤ 1000000) (hoff : l ≠ [] → ∀ k, va.ownBlock = some k → k ∉ [r, bL, bW, bI]) :
    Calls Try.prog 37 #[.pointer (some ⟨r, 0, none⟩), va] w (RTurns w r bL bW bI (s.restart l) (.tuple #[])) := by
  obtain ⟨aa, ca, rfl, -, ba, oa, HA, HCA⟩ := hl.opened
  rw [intVals_length] at *
  have H := Lib.hid h
  have HI := Lib.hid hI
  have HO := Lib.hid hoff
  have HLEN := Lib.hid hlen
  have hl63 : (l.length : Int) ≤ 1000000 := by omega
  have hz : (s.size : Int) ≤ 4096 := by have := h.ok.hi; omega
  clear h hl hI hoff hlen
  go_enter Try.func37, Try.ntmps37
  go_wp2_with fail
  go_loopw [4] (fun i wr => ∃ k : Nat, k ≤ l.length ∧ i = .int .i64 k ∧ RDskAt wr r bL bW bI (s.keeps (l.take k)) ∧ Chg [r, bL, bW, bI] w wr) (fun i _ => l.length - (Go.RowKit.intOf i).toNat)
  case atStart => exact ⟨0, by omega, rfl, H.out, Chg.refl _ _⟩
  case round =>
    obtain ⟨k, hk, rfl, hd, hc⟩ := hrel
    have D := Lib.hid hd
    have C := Lib.hid hc
    by_cases hlt : k < l.length
    · obtain ⟨c0, c1, c2, -, -, -⟩ := hd.cells
      obtain rfl := HA (List.ne_nil_of_length_pos (by rw [intVals_length]; omega))
      have hba : ba ∉ [r, bL, bW, bI] := HO.out (List.ne_nil_of_length_pos (by omega)) ba rfl
      have ka : wr.cell? ⟨ba, oa + k, none⟩ = some (.int .i64 (l.getD k 0)) := Row.off (HCA.out k _ (intVals_get l k hlt)) hc hba
      have hin : inI64 (l.getD k 0) := HI.out _ (by rw [List.getD_eq_getElem?_getD, List.getElem?_eq_getElem hlt]; exact List.getElem_mem hlt)
      have l0 : (0 : Int) ≤ (k : Int) := by omega
      have l1 : (k : Int) < (l.length : Int) := by omega
      have hS : s.keeps (l.take (k + 1)) = (s.keeps (l.take k)).keep1 (l.getD k 0) := by rw [take_snoc_i l k hlt, Dsk.St.keeps_snoc]
      generalize s.keeps (l.take k) = t at *
      obtain ⟨n, hN⟩ : ∃ n, l.getD k 0 = n := ⟨_, rfl⟩
      rw [hN] at hS ka hin
      have hIs := ris_any hd n
      have HLT := Lib.hid hlt
      cases hi : t.inside n with
      | false =>
        rw [hi] at hIs
        rw [keep1_out hi] at hS
        have HS := Lib.hid hS
        clear hlt hk hd hc hS hN hi hin hba
        go_wp2_with fail
        refine hIs.mono ?_
        rintro e w' ⟨rfl, rfl⟩
        go_wp2_with fail
        go_region
        all_goals go_wp2_with fail
        all_goals go_roundw
        case rel => exact ⟨k + 1, by have := HLT.out; omega, by go_num, by rw [HS.out]; exact D.out.drew, C.out.drew⟩
        case measure => simp [Go.RowKit.intOf]; have := HLT.out; omega
      | true =>
        rw [hi] at hIs
        obtain ⟨n0, n1⟩ := Dsk.St.inside_iff.1 hi
        obtain ⟨m, rfl⟩ := Int.eq_ofNat_of_zero_le n0
        have hm : m < t.size := by omega
        have hmz : (m : Int) < (t.size : Int) := n1
        obtain ⟨g1, fI⟩ := hd.isAt hm
        have htz : (t.size : Int) ≤ 4096 := by have := hd.ok.hi; omega
        cases hw : t.W m with
        | none =>
          rw [hw] at g1
          simp only [Option.isSome_none] at g1
          rw [keep1_empty hw] at hS
          have HS := Lib.hid hS
          clear hlt hk hd hc hS hN hi hin hba hw hm
          go_wp2_with fail
          refine hIs.mono ?_
          rintro e w' ⟨rfl, rfl⟩
          go_wp2_with fail
          go_region
          all_goals go_wp2_with fail
          all_goals go_roundw
          case rel => exact ⟨k + 1, by have := HLT.out; omega, by go_num, by rw [HS.out]; exact D.out.drew, C.out.drew⟩
          case measure => simp [Go.RowKit.intOf]; have := HLT.out; omega
        | some b =>
          rw [hw] at g1
          simp only [Option.isSome_some] at g1
          rw [Dsk.St.keep1_settle hi, Int.toNat_natCast] at hS
          have HS := Lib.hid hS
          have hset := settle_any hd.drew m hm true
          clear hlt hk hd hc hS hN hi hin hba hw hm
          go_wp2_with fail
          refine hIs.mono ?_
          rintro e w' ⟨rfl, rfl⟩
          go_wp2_with fail
          go_region
          go_wp2_with fail
          refine hset.mono ?_
          rintro e w2 ⟨rfl, hD2, hC2⟩
          have D2 := Lib.hid hD2
          have C2 := Lib.hid hC2
          clear hset hD2 hC2
          go_wp2_with fail
          go_roundw
          case rel => exact ⟨k + 1, by have := HLT.out; omega, by go_num, by rw [HS.out]; exact D2.out, C.out.drew.trans C2.out⟩
          case measure => simp [Go.RowKit.intOf]; have := HLT.out; omega
    · obtain rfl : k = l.length := by omega
      rw [List.take_of_length_le (Nat.le_refl _)] at D
      have hws := restart_part D.out.ok
      have hsz : (s.keeps l).size = s.size := Dsk.St.keeps_size l s
      have hfin : s.restart l = Dsk.St.wake (s.keeps l) := rfl
      have HFIN := Lib.hid (hfin.trans hws.symm)
      generalize s.keeps l = t at *
      have htz : (t.size : Int) ≤ 4096 := by omega
      clear hlt hk hd hc hws hfin
      go_wp2_with fail
      go_loopw [6] (fun i wq => ∃ k : Nat, k ≤ t.size ∧ i = .int .i64 k ∧ RDskAt wq r bL bW bI (t.part false k) ∧ Chg [r, bL, bW, bI] w wq) (fun i _ => t.size - (Go.RowKit.intOf i).toNat)
      case atStart => exact ⟨0, by omega, rfl, by rw [Dsk.St.part_zero]; exact D.out, C.out⟩
      case round =>
        obtain ⟨k, hk, rfl, hd, hc⟩ := hrel
        have D2 := Lib.hid hd
        have C2 := Lib.hid hc
        obtain ⟨c0, -, -, c3, c4, -⟩ := hd.cells
        rw [Dsk.St.part_size] at c0
        by_cases hlt : k < t.size
        · have l1 : (k : Int) < (t.size : Int) := by omega
          have hset := settle_any hd k hlt false
          rw [Dsk.St.part_succ] at hset
          have HLT := Lib.hid hlt
          clear hd hc hk hlt
          go_wp2_with fail
          refine hset.mono ?_
          rintro e w2 ⟨rfl, hD2, hC2⟩
          have D3 := Lib.hid hD2
          have C3 := Lib.hid hC2
          clear hset hD2 hC2
          go_wp2_with fail
          go_roundw
          case rel => exact ⟨k + 1, by have := HLT.out; omega, by go_num, D3.out, C2.out.trans C3.out⟩
          case measure => simp [Go.RowKit.intOf]; have := HLT.out; omega
        · obtain rfl : k = t.size := by omega
          have fz3 : wr.frozen? ⟨r, 3, none⟩ = false := frozen_of_row _ _ _ _ _ hd.top
          have fz4 : wr.frozen? ⟨r, 4, none⟩ = false := frozen_of_row _ _ _ _ _ hd.top
          have hw0 : ∀ n, (t.part false t.size).W n = none := by
            intro n
            rw [Dsk.St.part_all D.out.ok false]
          have ok2 := hd.ok
          have X := Lib.hid (hd.reTop (t := Dsk.St.wake (t.part false t.size)) (((Chg.refl [r] wr).setCell (p := ⟨r, 3, none⟩) (.inl (by simp)) (.bool false)).setCell (p := ⟨r, 4, none⟩) (.inl (by simp)) (.bool false)) (by
            rw [heap_setCell_same _ _ _ _ _ _ (heap_setCell_same _ _ _ _ _ _ hd.top)]; rfl) (Dsk.St.ok_wake ok2) rfl (by funext n; exact (hw0 n).symm) rfl)
          clear hd hc hk hlt hw0 ok2
          go_wp2_with fail
          go_end0
          rw [HFIN.out]
          exact ⟨rfl, X.out.1, C2.out.trans X.out.2⟩

end Go.Proofs.Ytddcdhmeknkphaa
