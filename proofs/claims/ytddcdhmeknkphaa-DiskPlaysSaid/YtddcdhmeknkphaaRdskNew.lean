/- Walks of the reference's disk: New. -/
import Derived.Test.YtddcdhmeknkphaaRdskTurn
namespace Go.Proofs.Ytddcdhmeknkphaa
open Go.RowKit

theorem make_rows {P : Program} {t e : TypeId} {z : Value} {bytes : Nat} (ht : P.underlying t = some (.slice e)) (hi : (P.info? e).map (fun i => (i.zero, i.size, i.bytes)) = some (some z, 1, bytes)) (hz : z.cells = #[z]) (hb : bytes ≤ 64) (n : Nat) (h : n ≤ 100000) (w : World) :
    (Instr.makeSlice t (.int .i64 (n : Int)) (.int .i64 (n : Int))).run P w = .ok (.slice (some ⟨w.heap.size, 0, none⟩) n n) (w.alloc (.cells (Array.replicate n z) e)) := by
  obtain ⟨i, h1, h2, h3, h4⟩ := info_parts hi
  have hbn : (i.bytes : Int) * (n : Int) ≤ 281474976710656 := by
    have h5 : i.bytes * n ≤ 64 * 100000 := Nat.mul_le_mul (by rw [h4]; exact hb) h
    have h6 : ((i.bytes * n : Nat) : Int) ≤ 281474976710656 := by omega
    rwa [Int.natCast_mul] at h6
  have := run_make (P := P) w t e i _ ht h1 h2 .i64 .i64 (n : Int) (n : Int) (by omega) (Int.le_refl _) hbn (by omega)
  rw [this, h3, hz]
  simp only [Int.toNat_natCast, Nat.mul_one]
  congr 3
  apply Array.ext'
  rw [toList_madeCells_one, Array.toList_replicate]

theorem iRowB : (Try.prog.info? 29).map (fun i => (i.zero, i.size, i.bytes)) = some (some (.slice none 0 0), 1, 24) := by kernel_rfl
theorem iRowT : (Try.prog.info? 4).map (fun i => (i.zero, i.size, i.bytes)) = some (some (.bool false), 1, 1) := by kernel_rfl

theorem four_at (w : World) (a b c d : Obj) : ((((w.alloc a).alloc b).alloc c).alloc d).heap[w.heap.size]? = some a ∧ ((((w.alloc a).alloc b).alloc c).alloc d).heap[w.heap.size + 1]? = some b ∧ ((((w.alloc a).alloc b).alloc c).alloc d).heap[w.heap.size + 1 + 1]? = some c ∧ ((((w.alloc a).alloc b).alloc c).alloc d).heap[w.heap.size + 1 + 1 + 1]? = some d := by
  refine ⟨?_, ?_, ?_, ?_⟩
  · rw [heap_alloc_old _ _ (by simp; omega), heap_alloc_old _ _ (by simp; omega)]; exact heap_alloc2_old _ _ _
  · rw [heap_alloc_old _ _ (by simp), heap_alloc_old _ _ (by simp)]; exact heap_alloc2_new _ _ _
  · rw [heap_alloc_old _ _ (by simp)]
    have := heap_alloc_new ((w.alloc a).alloc b) c
    rwa [show ((w.alloc a).alloc b).heap.size = w.heap.size + 1 + 1 by simp] at this
  · have := heap_alloc_new (((w.alloc a).alloc b).alloc c) d
    rwa [show (((w.alloc a).alloc b).alloc c).heap.size = w.heap.size + 1 + 1 + 1 by simp] at this
theorem four_below (w : World) (a b c d : Obj) : Below w.heap.size w ((((w.alloc a).alloc b).alloc c).alloc d) := ((((Below.refl _ _).alloc (Nat.le_refl _) _).alloc (by simp) _).alloc (by simp; omega) _).alloc (by simp; omega) _

theorem boolCells_rep (n : Nat) : boolCells n (fun _ => false) = Array.replicate n (.bool false) := by
  apply Array.ext_getElem?
  intro j
  by_cases h : j < n
  · rw [boolCells_get h]; simp [h]
  · rw [Array.getElem?_eq_none (by rw [boolCells_size]; omega)]; simp [h]

theorem brow_new {W : World} {b n : Nat} {F : Nat → List UInt8} (hF : ∀ i, F i = []) (h : W.heap[b]? = some (.cells (Array.replicate n (.slice none 0 0)) 29 (0, 0))) : BRow W b n F := by
  refine ⟨_, h, by simp, fun i hi => ⟨none, 0, ?_, ?_⟩⟩
  · rw [hF i]; simp [hi]
  · rw [hF i]; exact .nil _

theorem rdsk_new {W : World} {r bL bW bI n : Nat} (h0 : 2 ≤ n) (h9 : n ≤ 4096) (h1 : W.heap[r]? = some (.cells #[.slice (some ⟨bL, 0, none⟩) n n, .slice (some ⟨bW, 0, none⟩) n n, .slice (some ⟨bI, 0, none⟩) n n, .bool false, .bool false, .int .i64 0] 72 (0, 0)))
    (h2 : W.heap[bL]? = some (.cells (Array.replicate n (.slice none 0 0)) 29 (0, 0))) (h3 : W.heap[bW]? = some (.cells (Array.replicate n (.slice none 0 0)) 29 (0, 0))) (h4 : W.heap[bI]? = some (.cells (Array.replicate n (.bool false)) 4 (0, 0))) (hne : bL ≠ bW) : RDskAt W r bL bW bI (Dsk.St.new n) := by
  refine ⟨h1, brow_new (fun _ => rfl) h2, brow_new (fun _ => rfl) h3, ?_, Dsk.St.ok_new _ h0 h9, hne⟩
  show _ = some (Obj.cells (boolCells n fun _ => false) _ _)
  rw [boolCells_rep]
  exact h4

/-- what the reference's New answers -/
def NewRdsk (n : Int) (w : World) (e : Ending) (w' : World) : Prop :=
  if 2 ≤ n ∧ n ≤ 4096 then ∃ r bL bW bI, e = .returned (.tuple #[.pointer (some ⟨r, 0, none⟩), .int .i64 0]) ∧ RDskAt w' r bL bW bI (Dsk.St.new n.toNat) ∧ (∀ k ∈ [r, bL, bW, bI], w.heap.size ≤ k) ∧ Below w.heap.size w w'
  else e = .returned (.tuple #[.pointer none, .int .i64 1]) ∧ w = w'

set_option maxRecDepth 100000 in
set_option maxHeartbeats 4000000 in
theorem rnew_any (n : Int) (w : World) : Calls Try.prog 20 #[.int .i64 n] w (NewRdsk n w) := by
  have bad : ¬ (2 ≤ n ∧ n ≤ 4096) → Calls Try.prog 20 #[.int .i64 n] w (fun e w' => e = .returned (.tuple #[.pointer none, .int .i64 1]) ∧ w = w') → Calls Try.prog 20 #[.int .i64 n] w (NewRdsk n w) :=
    fun hb h => h.mono fun e w' h => by unfold NewRdsk; rw [if_neg hb]; exact h
  by_cases h0 : n < 2
  · refine bad (by omega) ?_
    clear bad
    have d1 : decide (n < 2) = true := decide_eq_true (by omega)
    go_enter Try.func20, Try.ntmps20
    go_wp2
    go_ret2
    exact ⟨rfl, rfl⟩
  · have d1 : decide (n < 2) = false := decide_eq_false (by omega)
    by_cases h1 : 4096 < n
    · refine bad (by omega) ?_
      clear bad
      have d2 : decide (4096 < n) = true := decide_eq_true (by omega)
      go_enter Try.func20, Try.ntmps20
      go_wp2
      go_ret2
      exact ⟨rfl, rfl⟩
    · clear bad
      have d2 : decide (4096 < n) = false := decide_eq_false (by omega)
      obtain ⟨m, rfl⟩ := Int.eq_ofNat_of_zero_le (show 0 ≤ n by omega)
      refine Calls.mono (R := fun e w' => ∃ r bL bW bI, e = .returned (.tuple #[.pointer (some ⟨r, 0, none⟩), .int .i64 0]) ∧ RDskAt w' r bL bW bI (Dsk.St.new m) ∧ (∀ k ∈ [r, bL, bW, bI], w.heap.size ≤ k) ∧ Below w.heap.size w w') ?_ (fun e w' h => by unfold NewRdsk; rw [if_pos (by omega), Int.toNat_natCast]; exact h)
      have hmk1 := make_rows (P := Try.prog) Try.underlying69 iRowB rfl (by omega) m (by omega)
      have hmk2 := make_rows (P := Try.prog) Try.underlying70 iRowT rfl (by omega) m (by omega)
      have M0 : Hid (2 ≤ m) := by unfold Hid; omega
      have M1 : Hid (m ≤ 4096) := by unfold Hid; omega
      have F1 := Lib.hid (four_at w)
      go_enter Try.func20, Try.ntmps20
      go_wp2
      go_region
      all_goals go_wp2
      all_goals go_ret2
      all_goals
        first
          | exact ⟨_, _, _, _, rfl, rdsk_new M0.out M1.out (F1.out _ _ _ _).2.2.2 (F1.out _ _ _ _).1 (F1.out _ _ _ _).2.1 (F1.out _ _ _ _).2.2.1 (by omega), by intro k hk; simp only [List.mem_cons, List.not_mem_nil, or_false] at hk; omega, (four_below w _ _ _ _).drew⟩
          | exact ⟨_, _, _, _, rfl, rdsk_new M0.out M1.out (F1.out _ _ _ _).2.2.2 (F1.out _ _ _ _).1 (F1.out _ _ _ _).2.2.1 (F1.out _ _ _ _).2.1 (by omega), by intro k hk; simp only [List.mem_cons, List.not_mem_nil, or_false] at hk; omega, (four_below w _ _ _ _).drew⟩
          | exact ⟨_, _, _, _, rfl, rdsk_new M0.out M1.out (F1.out _ _ _ _).2.2.2 (F1.out _ _ _ _).2.1 (F1.out _ _ _ _).1 (F1.out _ _ _ _).2.2.1 (by omega), by intro k hk; simp only [List.mem_cons, List.not_mem_nil, or_false] at hk; omega, (four_below w _ _ _ _).drew⟩
          | exact ⟨_, _, _, _, rfl, rdsk_new M0.out M1.out (F1.out _ _ _ _).2.2.2 (F1.out _ _ _ _).2.1 (F1.out _ _ _ _).2.2.1 (F1.out _ _ _ _).1 (by omega), by intro k hk; simp only [List.mem_cons, List.not_mem_nil, or_false] at hk; omega, (four_below w _ _ _ _).drew⟩
          | exact ⟨_, _, _, _, rfl, rdsk_new M0.out M1.out (F1.out _ _ _ _).2.2.2 (F1.out _ _ _ _).2.2.1 (F1.out _ _ _ _).1 (F1.out _ _ _ _).2.1 (by omega), by intro k hk; simp only [List.mem_cons, List.not_mem_nil, or_false] at hk; omega, (four_below w _ _ _ _).drew⟩
          | exact ⟨_, _, _, _, rfl, rdsk_new M0.out M1.out (F1.out _ _ _ _).2.2.2 (F1.out _ _ _ _).2.2.1 (F1.out _ _ _ _).2.1 (F1.out _ _ _ _).1 (by omega), by intro k hk; simp only [List.mem_cons, List.not_mem_nil, or_false] at hk; omega, (four_below w _ _ _ _).drew⟩

end Go.Proofs.Ytddcdhmeknkphaa
