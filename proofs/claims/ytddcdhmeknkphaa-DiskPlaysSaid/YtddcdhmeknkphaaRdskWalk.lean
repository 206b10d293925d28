/- Walks of the reference's disk: is, act, settle, Read, Fuse. -/
import Derived.Test.YtddcdhmeknkphaaRdskRep
import Derived.Test.YtddcdhmeknkphaaDskWrite
namespace Go.Proofs.Ytddcdhmeknkphaa
open Go.RowKit

set_option maxHeartbeats 1000000 in
theorem ris_any {w : World} {r bL bW bI : Nat} {s : Dsk.St} (h : RDskAt w r bL bW bI s) (n : Int) :
    Calls Try.prog 44 #[.pointer (some ⟨r, 0, none⟩), .int .i64 n] w fun e w' => e = .returned (.bool (s.inside n)) ∧ w = w' := by
  obtain ⟨c0, -, -, -, -, -⟩ := h.cells
  have hi := h.ok.hi
  cases hin : s.inside n with
  | true =>
    obtain ⟨n0, n1⟩ := Dsk.St.inside_iff.1 hin
    clear h hin
    go_enter Try.func44, Try.ntmps44
    go_wp2_with fail
    go_ret
    exact ⟨rfl, rfl⟩
  | false =>
    rw [Dsk.St.inside_not] at hin
    by_cases n0 : 0 ≤ n
    · have n1 : ¬ n < (s.size : Int) := by omega
      clear h hin
      go_enter Try.func44, Try.ntmps44
      go_wp2_with fail
      go_ret
      exact ⟨rfl, rfl⟩
    · clear h hin
      go_enter Try.func44, Try.ntmps44
      go_wp2_with fail
      go_ret
      exact ⟨rfl, rfl⟩

/-- a call that turns the reference's disk into another -/
def RTurns (w : World) (r bL bW bI : Nat) (t : Dsk.St) (v : Value) (e : Ending) (w' : World) : Prop := e = .returned v ∧ RDskAt w' r bL bW bI t ∧ Chg [r, bL, bW, bI] w w'

set_option maxHeartbeats 1000000 in
theorem ract_any {w : World} {r bL bW bI : Nat} {s : Dsk.St} (h : RDskAt w r bL bW bI s) :
    Calls Try.prog 45 #[.pointer (some ⟨r, 0, none⟩)] w (RTurns w r bL bW bI s.act (.bool (!s.blocked))) := by
  obtain ⟨-, -, -, c3, c4, c5⟩ := h.cells
  have f1 := h.ok.f1
  have f2 := h.ok.f2
  have fz3 : w.frozen? ⟨r, 3, none⟩ = false := frozen_of_row _ _ _ _ _ h.top
  have fz5 : w.frozen? ⟨r, 5, none⟩ = false := frozen_of_row _ _ _ _ _ h.top
  cases hf : s.fused with
  | false =>
    have e : s.blocked = false := by unfold Dsk.St.blocked; rw [hf]; rfl
    have e2 : s.act = s := by unfold Dsk.St.act; rw [e, hf]; rfl
    rw [e, e2]
    rw [hf] at c4
    have H := Lib.hid h
    clear h e e2 hf
    go_enter Try.func45, Try.ntmps45
    go_wp2_with fail
    go_ret
    exact ⟨rfl, H.out, Chg.refl _ _⟩
  | true =>
    have f0 := h.ok.f0 hf
    rw [hf] at c4
    by_cases hz : s.fuse = 0
    · have e : s.blocked = true := by unfold Dsk.St.blocked; rw [hf, hz]; rfl
      have e2 : s.act = { s with down := true } := by unfold Dsk.St.act; rw [e]; rfl
      rw [e, e2]
      rw [hz] at c5
      have HT := Lib.hid (h.reTop (t := { s with down := true }) ((Chg.refl [r] w).setCell (p := ⟨r, 3, none⟩) (.inl (by simp)) (.bool true)) (by rw [heap_setCell_same _ _ _ _ _ _ h.top]; rfl) (ok_down h.ok) rfl rfl rfl)
      clear h e e2 hf hz f0 f1 f2
      go_enter Try.func45, Try.ntmps45
      go_wp2_with fail
      go_ret
      exact ⟨rfl, HT.out.1, HT.out.2⟩
    · have e : s.blocked = false := by unfold Dsk.St.blocked; rw [hf]; simp [hz]
      have e2 : s.act = { s with fuse := s.fuse - 1 } := by unfold Dsk.St.act; rw [e, hf]; rfl
      have hok : Dsk.St.Ok { s with fuse := s.fuse - 1 } := by rw [← e2]; exact Dsk.St.ok_act h.ok
      have HT := Lib.hid (h.reTop (t := { s with fuse := s.fuse - 1 }) ((Chg.refl [r] w).setCell (p := ⟨r, 5, none⟩) (.inl (by simp)) (.int .i64 (s.fuse - 1))) (by rw [heap_setCell_same _ _ _ _ _ _ h.top]; rfl) hok rfl rfl rfl)
      rw [e, e2]
      generalize s.fuse = f at *
      have nz : (f == 0) = false := beq_eq_false_iff_ne.2 hz
      clear h e e2 hf hok
      go_enter Try.func45, Try.ntmps45
      go_wp2_with fail
      go_ret
      exact ⟨rfl, HT.out.1, HT.out.2⟩

set_option maxHeartbeats 1000000 in
theorem rfuse_any {w : World} {r bL bW bI : Nat} {s : Dsk.St} (h : RDskAt w r bL bW bI s) (k : Int) (hk : inI64 k) :
    Calls Try.prog 36 #[.pointer (some ⟨r, 0, none⟩), .int .i64 k] w (RTurns w r bL bW bI (s.fuseAt k) (.tuple #[])) := by
  have fz4 : w.frozen? ⟨r, 4, none⟩ = false := frozen_of_row _ _ _ _ _ h.top
  have fz5 : w.frozen? ⟨r, 5, none⟩ = false := frozen_of_row _ _ _ _ _ h.top
  obtain ⟨-, -, -, -, c4, c5⟩ := h.cells
  have hr : ((w.setCell ⟨r, 4, none⟩ (.bool (decide (0 ≤ k)))).setCell ⟨r, 5, none⟩ (.int .i64 k)).heap[r]? = some (.cells (rTop bL bW bI (s.fuseAt k)) 72 (0, 0)) := by
    rw [heap_setCell_same _ _ _ _ _ _ (heap_setCell_same _ _ _ _ _ _ h.top)]
    rfl
  have HT := Lib.hid (h.reTop (t := s.fuseAt k) (((Chg.refl [r] w).setCell (.inl (by simp)) _).setCell (.inl (by simp)) _) hr (Dsk.St.ok_fuseAt h.ok k hk.1 hk.2) rfl rfl rfl)
  clear h hr
  by_cases h0 : 0 ≤ k
  · rw [decide_eq_true h0] at HT
    go_enter Try.func36, Try.ntmps36
    go_wp2_with fail
    go_end0
    exact ⟨rfl, HT.out.1, HT.out.2⟩
  · rw [decide_eq_false h0] at HT
    go_enter Try.func36, Try.ntmps36
    go_wp2_with fail
    go_end0
    exact ⟨rfl, HT.out.1, HT.out.2⟩

/-- the reference's Read answers with what it holds itself -/
theorem rread_any {w : World} {r bL bW bI : Nat} {s : Dsk.St} (h : RDskAt w r bL bW bI s) (n : Int) :
    Calls Try.prog 34 #[.pointer (some ⟨r, 0, none⟩), .int .i64 n] w (BytesAns (if s.use n = 0 then s.look n.toNat else []) (s.use n) w) := by
  obtain ⟨c0, c1, c2, c3, -, -⟩ := h.cells
  have hi := h.ok.hi
  have hI := ris_any h n
  cases hdn : s.down with
  | true =>
    rw [hdn] at c3
    have e : s.use n = 40 := by unfold Dsk.St.use; rw [hdn]; rfl
    rw [e, if_neg (by omega)]
    clear h e hdn
    go_enter Try.func34, Try.ntmps34
    go_wp2_with fail
    go_ret2
    exact ⟨none, 0, rfl, .nil _, Below.refl _ _⟩
  | false =>
    rw [hdn] at c3
    cases hin : s.inside n with
    | false =>
      have e : s.use n = 41 := by unfold Dsk.St.use; rw [hdn, hin]; rfl
      rw [e, if_neg (by omega)]
      rw [hin] at hI
      clear h e hdn hin
      go_enter Try.func34, Try.ntmps34
      go_wp2_with fail
      refine hI.mono ?_
      rintro e w' ⟨rfl, rfl⟩
      go_wp2_with fail
      go_ret2
      exact ⟨none, 0, rfl, .nil _, Below.refl _ _⟩
    | true =>
      have e : s.use n = 0 := by unfold Dsk.St.use; rw [hdn, hin]; rfl
      rw [e, if_pos rfl]
      rw [hin] at hI
      obtain ⟨n0, n1⟩ := Dsk.St.inside_iff.1 hin
      obtain ⟨i, rfl⟩ := Int.eq_ofNat_of_zero_le n0
      have hlt : i < s.size := by omega
      obtain ⟨g1, -⟩ := h.isAt hlt
      obtain ⟨aL, cL, gL, -, bL'⟩ := h.rowL.cell hlt
      obtain ⟨aW, cW, gW, -, bW'⟩ := h.rowW.cell hlt
      rw [Int.toNat_natCast]
      have i0 : (0 : Int) ≤ (i : Int) := by omega
      cases hw : s.W i with
      | some b =>
        have hlk : s.look i = b := by unfold Dsk.St.look; rw [hw]; rfl
        rw [hw] at g1 gW bW'
        simp only [Option.isSome_some, Option.getD_some] at g1 gW bW'
        have HB := Lib.hid bW'
        rw [hlk]
        clear h e hdn hin gL bL' bW' hw hlk hlt
        go_enter Try.func34, Try.ntmps34
        go_wp2_with fail
        refine hI.mono ?_
        rintro e w' ⟨rfl, rfl⟩
        go_wp2_with fail
        go_ret2
        exact ⟨aW, cW, rfl, HB.out, Below.refl _ _⟩
      | none =>
        have hlk : s.look i = s.L i := by unfold Dsk.St.look; rw [hw]; rfl
        rw [hw] at g1
        simp only [Option.isSome_none] at g1
        have HB := Lib.hid bL'
        rw [hlk]
        generalize s.L i = b at *
        clear h e hdn hin gW bL' bW' hw hlk hlt
        go_enter Try.func34, Try.ntmps34
        go_wp2_with fail
        refine hI.mono ?_
        rintro e w' ⟨rfl, rfl⟩
        go_wp2_with fail
        go_ret2
        exact ⟨aL, cL, rfl, HB.out, Below.refl _ _⟩

end Go.Proofs.Ytddcdhmeknkphaa
