/- Walks of package disk: Restart. -/
import Derived.Test.YtddcdhmeknkphaaDskTurn
import Derived.Test.YtddcdhmeknkphaaIntVals
namespace Go.Proofs.Ytddcdhmeknkphaa
open Go.RowKit

/-- what waits in a sector lasts -/
theorem DskAt.keepOne {w : World} {d bl bw : Nat} {s : Dsk.St} (h : DskAt w d bl bw s) {n : Int} {b : List UInt8} (hb : ext s.W n = some b) {v : Value} (hv : Bytes w v b) (ty : TypeId) :
    ∃ w1 w2, (Instr.mapUpdate 59 (.map (some bl)) (.int .i64 n) v).run Try.prog w = .ok () w1 ∧ Chg [bl] w w1 ∧
      (Builtin.delete_ #[59, 3] ty #[.map (some bw), .int .i64 n]).run Try.prog w1 = .ok (.tuple #[]) w2 ∧ DskAt w2 d bl bw (s.keep1 n) ∧ Chg [d, bl, bw] w w2 := by
  obtain ⟨n0, n1⟩ := ext_dom h.ok n b hb
  have hin : s.inside n = true := Dsk.St.inside_iff.2 ⟨n0, n1⟩
  have hi := h.ok.hi
  rw [ext_pos _ n0] at hb
  obtain ⟨w1, r1, d1, c1⟩ := h.layL hin hv (h.ok.lenW _ _ hb)
  obtain ⟨w2, r2, m2, c2⟩ := d1.waits.drop (k := n) ⟨by omega, by omega⟩ ty
  have e : s.keep1 n = { s with L := Dsk.St.upd s.L n.toNat b, W := Dsk.St.upd s.W n.toNat none } := by
    unfold Dsk.St.keep1; rw [hin, hb]; rfl
  have hno : ∀ k ∈ [bw], NoU8 w1 k := fun k hk => d1.no k (by simp only [List.mem_singleton] at hk; subst hk; simp)
  obtain ⟨F, hF, f1, f2⟩ := d1.lasts
  refine ⟨w1, w2, r1, c1, r2, ?_, (c1.mono (by simp)).trans (c2.mono (by simp))⟩
  rw [e]
  have hok := Dsk.St.ok_keep1 h.ok n
  rw [e] at hok
  refine ⟨(c2.block d (lt_of_block d1.top) (by simpa using h.ne_w)).trans d1.top, ⟨F, hF.kept c2 hno (by simpa using h.ne), f1, f2⟩, ?_, hok, h.ne⟩
  show MapAt w2 bw (ext (Dsk.St.upd s.W n.toNat none))
  rw [← ext_upd _ n0]
  exact m2

theorem keep1_none {s : Dsk.St} (hok : s.Ok) {n : Int} (h : ext s.W n = none) : s.keep1 n = s := by
  unfold Dsk.St.keep1
  split
  · rename_i hin
    obtain ⟨n0, n1⟩ := Dsk.St.inside_iff.1 hin
    rw [ext_pos _ n0] at h
    rw [h]
  · rfl

theorem take_snoc_i (l : List Int) (k : Nat) (h : k < l.length) : l.take (k + 1) = l.take k ++ [l.getD k 0] := by
  rw [List.take_succ_eq_append_getElem h]; simp [List.getD, h]

theorem Row.off {fs : List Nat} {w w' : World} {b o i : Nat} {v : Value} (h : w.cell? ⟨b, o + i, none⟩ = some v) (hc : Chg fs w w') (hb : b ∉ fs) : w'.cell? ⟨b, o + i, none⟩ = some v := by
  rw [← h]
  exact World.cell?_of_block (w := w) (hc.block _ (block_lt_of_cell h) hb)

theorem reset_cells {w : World} {d bl bw : Nat} {s : Dsk.St} (h : DskAt w d bl bw s) (hw : ∀ n, s.W n = none) :
    DskAt ((w.setCell ⟨d, 3, none⟩ (.bool false)).setCell ⟨d, 4, none⟩ (.bool false)) d bl bw (Dsk.St.wake s) ∧ Chg [d, bl, bw] w ((w.setCell ⟨d, 3, none⟩ (.bool false)).setCell ⟨d, 4, none⟩ (.bool false)) := by
  refine h.reTop (((Chg.refl [d] w).setCell (.inl (by simp)) _).setCell (.inl (by simp)) _) ?_ (Dsk.St.ok_wake h.ok) rfl ?_ rfl
  · rw [heap_setCell_same _ _ _ _ _ _ (heap_setCell_same _ _ _ _ _ _ h.top)]
    rfl
  · funext n; exact (hw n).symm

theorem DskAt.cleared {w w1 : World} {d bl bw : Nat} {s : Dsk.St} (h : DskAt w d bl bw s) (hw : MapAt w1 bw (fun _ => none)) (c : Chg [bw] w w1) : DskAt w1 d bl bw { s with W := fun _ => none } := by
  have hno : ∀ k ∈ [bw], NoU8 w k := fun k hk => h.no k (by simp only [List.mem_singleton] at hk; subst hk; simp)
  obtain ⟨F, hF, f1, f2⟩ := h.lasts
  refine ⟨(c.block d (lt_of_block h.top) (by simpa using h.ne_w)).trans h.top, ⟨F, hF.kept c hno (by simpa using h.ne), f1, f2⟩, by rw [ext_none]; exact hw, ⟨h.ok.lo, h.ok.hi, h.ok.f0, h.ok.f1, h.ok.f2, h.ok.offL, fun _ _ => rfl, h.ok.lenL, fun _ _ hc => by cases hc⟩, h.ne⟩

set_option maxRecDepth 100000 in
set_option maxHeartbeats 4000000 in
theorem restart_any {w : World} {d bl bw : Nat} {s : Dsk.St} (h : DskAt w d bl bw s) (va : Value) (l : List Int) (hl : Row w va (intVals l)) (hI : ∀ n ∈ l, inI64 n) (hlen : l.length ≤ 1000000) (hoff : l ≠ [] → ∀ k, va.ownBlock = some k → k ∉ [d, bl, bw]) :
    Calls Try.prog 15 #[.pointer (some ⟨d, 0, none⟩), va] w (Turns w d bl bw (s.restart l) (.tuple #[])) := by
  obtain ⟨aa, ca, rfl, -, ba, oa, HA, HCA⟩ := hl.opened
  rw [intVals_length] at *
  have H := Lib.hid h
  have HI := Lib.hid hI
  have HO := Lib.hid hoff
  have HLEN := Lib.hid hlen
  clear h hl hI hoff hlen
  have hl63 : (l.length : Int) ≤ 1000000 := by have := HLEN.out; omega
  go_enter Try.func15, Try.ntmps15
  go_wp2_with fail
  go_loopw [12] (fun i wr => ∃ k : Nat, k ≤ l.length ∧ i = .int .i64 k ∧ DskAt wr d bl bw (s.keeps (l.take k)) ∧ Chg [d, bl, bw] w wr) (fun i _ => l.length - (intOf i).toNat)
  case atStart => exact ⟨0, by omega, rfl, H.out, Chg.refl _ _⟩
  case round =>
    obtain ⟨k, hk, rfl, hd, hc⟩ := hrel
    have D := Lib.hid hd
    have C := Lib.hid hc
    obtain ⟨-, c1, c2, -, -, -⟩ := hd.cells
    by_cases hlt : k < l.length
    · obtain rfl := HA (List.ne_nil_of_length_pos (by rw [intVals_length]; omega))
      have hba : ba ∉ [d, bl, bw] := HO.out (List.ne_nil_of_length_pos (by omega)) ba rfl
      have ka : wr.cell? ⟨ba, oa + k, none⟩ = some (.int .i64 (l.getD k 0)) := Row.off (HCA.out k _ (intVals_get l k hlt)) hc hba
      have hin : inI64 (l.getD k 0) := HI.out _ (by rw [List.getD_eq_getElem?_getD, List.getElem?_eq_getElem hlt]; exact List.getElem_mem hlt)
      have l0 : (0 : Int) ≤ (k : Int) := by omega
      have l1 : (k : Int) < (l.length : Int) := by omega
      have HS : Hid (s.keeps (l.take (k + 1)) = (s.keeps (l.take k)).keep1 (l.getD k 0)) := by unfold Hid; rw [take_snoc_i l k hlt, Dsk.St.keeps_snoc]
      obtain ⟨v, r1, b1⟩ := hd.waits.look hin
      have R1 := (r1 wr rfl).1
      generalize s.keeps (l.take k) = t at *
      have HLT := Lib.hid hlt
      cases hx : ext t.W (l.getD k 0) with
      | none =>
        have HE := Lib.hid (keep1_none hd.ok hx)
        rw [hx] at R1
        simp only [Option.isSome_none] at R1
        obtain ⟨n, HN⟩ : ∃ n, Hid (l.getD k 0 = n) := ⟨_, rfl⟩
        rw [HN.out] at R1 ka HE HS
        clear hlt hk hd hc r1 b1 hx hin hba
        go_wp2_with fail
        go_roundw
        case rel => exact ⟨k + 1, by have := HLT.out; omega, by go_num, by rw [HS.out, HE.out]; exact D.out, C.out⟩
        case measure => simp [intOf]; have := HLT.out; omega
      | some b =>
        rw [hx] at R1 b1
        simp only [Option.isSome_some] at R1
        obtain ⟨w1, w2, hr1, hc1, hr2, hd2, hc2⟩ := hd.keepOne hx b1 0
        have HR1 := Lib.hid hr1
        have HR2 := Lib.hid hr2
        have D2 := Lib.hid hd2
        have C2 := Lib.hid hc2
        have k2 : w1.cell? ⟨d, 2, none⟩ = some (.map (some bw)) := by
          rw [← c2]
          exact World.cell?_of_block (w := wr) (hc1.block d (lt_of_block hd.top) (by simpa using hd.ne_l))
        obtain ⟨n, HN⟩ : ∃ n, Hid (l.getD k 0 = n) := ⟨_, rfl⟩
        rw [HN.out] at R1 ka HR1 HR2 D2 HS
        clear hlt hk hd hc r1 b1 hx hin hba hr1 hr2 hd2 hc2 hc1
        go_wp2_with (first
          | (at_mapUpdate; refine wpList_mapUpdate_run _ rfl (.tmp 29) (.tmp 30) (.tmp 31) _ rfl _ _ _ rfl rfl rfl _ HR1.out ?_)
          | (at_delete; refine wpList_delete_run _ rfl (.tmp 35) (.tmp 36) _ _ rfl _ _ rfl rfl _ HR2.out ?_))
        go_roundw
        case rel => exact ⟨k + 1, by have := HLT.out; omega, by go_num, by rw [HS.out]; exact D2.out, C.out.trans C2.out⟩
        case measure => simp [intOf]; have := HLT.out; omega
    · obtain rfl : k = l.length := by omega
      rw [List.take_of_length_le (Nat.le_refl _)] at D
      obtain ⟨w1, hr1, hm1, hc1⟩ := D.out.waits.clear 0
      have hd1 := D.out.cleared hm1 hc1
      obtain ⟨x1, x2⟩ := reset_cells hd1 (fun _ => rfl)
      have fz3 : w1.frozen? ⟨d, 3, none⟩ = false := frozen_of_row _ _ _ _ _ hd1.top
      have fz4 : w1.frozen? ⟨d, 4, none⟩ = false := frozen_of_row _ _ _ _ _ hd1.top
      obtain ⟨-, -, -, g3, g4, -⟩ := hd1.cells
      have HR1 := Lib.hid hr1
      have C1 := Lib.hid (hc1.mono (gs := [d, bl, bw]) (by simp))
      have X1 := Lib.hid x1
      have X2 := Lib.hid x2
      clear hlt hk hd hc hr1 hm1 hc1 hd1 x1 x2
      go_wp2_with (first
        | (refine wpList_clear_run _ rfl (.tmp 41) _ rfl _ rfl _ HR1.out ?_))
      go_end0
      exact ⟨rfl, X1.out, (C.out.trans C1.out).trans X2.out⟩

theorem restart_nil (va : Value) (w : World) :
    Calls Try.prog 15 #[.pointer none, va] w fun e w' => e = .returned (.tuple #[]) ∧ w = w' := by
  go_enter Try.func15, Try.ntmps15
  go_wp2_with fail
  refine bodyPost_ret (results_none rfl _ _ _) rfl ?_
  exact ⟨rfl, rfl⟩

end Go.Proofs.Ytddcdhmeknkphaa
