/- Walks of package crc and of the reference's text of it: each call's answer in plain words. -/
import Derived.Test.YtebeohdadihidaaProg
import Derived.Test.YtebeohdadihidaaCrcPlain
import Derived.Test.YtebeohdadihidaaBase
namespace Go.Proofs.Ytebeohdadihidaa
open Go.RowKit

set_option maxHeartbeats 400000 in
theorem step_any (x : BitVec 32) (w : World) :
    Calls Try.prog 32 #[.int .u32 (num32 x)] w fun e w' => e = .returned (.int .u32 (num32 (Crc.step x))) ∧ w = w' := by
  have h2 := half32 x
  have h3 : bits .xor .u32 (num32 (x >>> 1)) 3988292384 = num32 ((x >>> 1) ^^^ 0xEDB88320#32) := xor32 _ 0xEDB88320#32
  have H := Lib.hid (Crc.steps_nat x)
  by_cases h : x.toNat % 2 = 1
  · have h1 : bits .and .u32 (num32 x) 1 = 1 := by rw [and1, h]; rfl
    clear h2 h3
    have h3 : bits .xor .u32 (num32 x / 2) 3988292384 = num32 ((x >>> 1) ^^^ 0xEDB88320#32) := by rw [half32]; exact xor32 _ 0xEDB88320#32
    go_enter Try.func32, Try.ntmps32
    go_wp2
    go_ret
    exact ⟨ret_int (by rw [H.out, if_pos h]), rfl⟩
  · have h1 : bits .and .u32 (num32 x) 1 = 0 := by rw [and1, show x.toNat % 2 = 0 by omega]; rfl
    go_enter Try.func32, Try.ntmps32
    go_wp2
    go_ret
    exact ⟨ret_int (by rw [H.out, if_neg h]), rfl⟩

/-- the table as far as it is filled -/
def tabCell (k i : Nat) : Value := .int .u32 (if i < k then num32 (Crc.tab i) else 0)
def tabCells (k : Nat) : Array Value := ((List.range 256).map (tabCell k)).toArray

theorem tabCells_size (k : Nat) : (tabCells k).size = 256 := by simp [tabCells]
theorem tabCells_get (k i : Nat) (h : i < 256) : (tabCells k)[i]? = some (tabCell k i) := by
  simp [tabCells, h]
theorem tabCells_set (k : Nat) (h : k < 256) : (tabCells k).setIfInBounds k (.int .u32 (num32 (Crc.tab k))) = tabCells (k + 1) := by
  apply Array.ext_getElem?
  intro i
  rw [Array.getElem?_setIfInBounds]
  by_cases hi : i < 256
  · rw [tabCells_get _ _ hi, tabCells_get _ _ hi]
    by_cases e : k = i
    · subst e
      rw [if_pos rfl, if_pos (by rw [tabCells_size]; exact h)]
      simp [tabCell]
    · rw [if_neg e]
      unfold tabCell
      by_cases h1 : i < k
      · rw [if_pos h1, if_pos (by omega)]
      · rw [if_neg h1, if_neg (by omega)]
  · have h2 : ∀ k, (tabCells k)[i]? = none := fun k => Array.getElem?_eq_none (by rw [tabCells_size]; omega)
    rw [h2, h2]
    by_cases e : k = i
    · omega
    · rw [if_neg e]

theorem zero_tab (w : World) : (zeroValue 50).run Try.prog w = .ok (.agg (tabCells 0)) w := by kernel_rfl

theorem tabCells_one (k : Nat) : (tabCells k).all (·.oneCell') = true := by
  rw [Array.all_eq_true_iff_forall_mem]
  intro v hv
  simp only [tabCells, List.mem_toArray, List.mem_map] at hv
  obtain ⟨i, _, rfl⟩ := hv
  rfl
attribute [irreducible] tabCells
theorem Try.sizeT : (Try.prog.info? 50).map (·.size) = some 256 := by kernel_rfl
theorem Try.sizeTab (k : Nat) : (Try.prog.info? 50).map (·.size) = some (tabCells k).size := by rw [tabCells_size]; exact Try.sizeT

set_option maxRecDepth 100000 in
set_option maxHeartbeats 1000000 in
theorem table_any (w : World) :
    Calls Try.prog 30 #[] w fun e w' => e = .returned (.agg (tabCells 256)) ∧ Below w.heap.size w w' := by
  have hz := zero_tab
  go_enter Try.func30, Try.ntmps30
  go_wp2_with fail
  clear hz
  go_loopw [2, 3, 4] (fun _ _ i wr => ∃ k : Nat, k ≤ 256 ∧ i = .int .i64 k ∧ wr.heap[w.heap.size]? = some (.cells (tabCells k) 50 (0, 0)) ∧ Below w.heap.size w wr) (fun _ _ i _ => 256 - (intOf i).toNat)
  case atStart => exact ⟨0, by omega, rfl, heap_alloc_new _ _, (Below.refl _ _).alloc (Nat.le_refl _) _⟩
  case round =>
    obtain ⟨k, hk, rfl, hrow, hbel⟩ := hrel
    by_cases hlt : k < 256
    · have hc : wr.cell? ⟨w.heap.size, k, none⟩ = some (.int .u32 0) := row_cell hrow (by rw [tabCells_get k k hlt]; simp [tabCell])
      have hf : wr.frozen? ⟨w.heap.size, k, none⟩ = false := frozen_of_row _ _ _ _ _ hrow
      have HR := Lib.hid hrow
      have HB := Lib.hid hbel
      have hlt' : (k : Int) < 256 := by omega
      clear hrow hbel hk hlt
      go_wp2_with fail
      go_loopw [3, 9] (fun v j wi => ∃ n : Nat, n ≤ 8 ∧ j = .int .i64 n ∧ v = .int .u32 (num32 (Crc.steps n (BitVec.ofNat 32 k))) ∧ wi = wr) (fun _ j _ => 8 - (intOf j).toNat)
      case atStart => exact ⟨0, by omega, rfl, by show Value.int _ _ = Value.int _ (num32 (BitVec.ofNat 32 k)); unfold num32; rw [BitVec.toNat_ofNat]; congr 1; omega, rfl⟩
      case round =>
        obtain ⟨n, hn, rfl, rfl, rfl⟩ := hrel
        by_cases hn8 : n < 8
        · have hn' : (n : Int) < 8 := by omega
          have H := Lib.hid (Crc.steps_succ n (BitVec.ofNat 32 k))
          clear hn hn8
          go_wp2_with ((go_at_call 32; refine (step_any _ _).mono ?_; rintro e w' ⟨rfl, rfl⟩))
          go_roundw
          case rel => exact ⟨n + 1, by omega, by go_num, by rw [H.out], trivial⟩
          case measure => simp [intOf]; omega
        · obtain rfl : n = 8 := by omega
          clear hn hn8
          have ht : Hid (Crc.steps 8 (BitVec.ofNat 32 k) = Crc.tab k) := rfl
          go_wp2_with fail
          go_roundw
          case rel => exact ⟨k + 1, by omega, by go_num, by rw [heap_setCell_same _ _ _ _ _ _ HR.out, ht.out, tabCells_set k (by omega)], HB.out.setCell (Nat.le_refl _) _⟩
          case measure => simp [intOf]; omega
    · obtain rfl : k = 256 := by omega
      have HR := Lib.hid hrow
      have HB := Lib.hid hbel
      clear hk hlt hrow hbel
      go_wp2_with (first | (refine wpList_load_row rfl 50 _ rfl w.heap.size rfl 50 (tabCells 256) (0, 0) _ HR.out Try.underlying50 rfl (Try.sizeTab _) ?_) | (refine wpList_store_row rfl 50 _ _ rfl w.heap.size (tabCells 256) rfl rfl 50 (tabCells 256) HR.out (Try.sizeTab _) rfl (tabCells_one _) ?_))
      exact bodyPost_ret (v := .agg (tabCells 256)) (results_cell_row rfl _ _ w.heap.size 50 (tabCells 256) (0, 0) _ rfl (setRow_heap _ _ _ _ _ _ HR.out) Try.underlying50 rfl (Try.sizeTab _)) rfl ⟨rfl, below_setRow HB.out (Nat.le_refl _) _⟩

set_option maxRecDepth 100000 in
set_option maxHeartbeats 1000000 in
theorem more_any (s : BitVec 32) (v : Value) (l : List UInt8) (w : World) (h : Bytes w v l) (hl : l.length ≤ 140737488351232) :
    Calls Try.prog 28 #[.int .u32 (num32 s), v] w fun e w' => e = .returned (.int .u32 (num32 (Crc.more s l))) ∧ Below w.heap.size w w' := by
  obtain ⟨a, cap, rfl, -, b, o, HA, HC⟩ := h.opened
  have hz := zero_tab
  go_enter Try.func28, Try.ntmps28
  go_wp2_with (first | (go_at_call 30; refine (table_any _).mono ?_; rintro e w1 ⟨rfl, HB⟩; have HB' := Lib.hid HB; clear HB) | (refine wpList_store_row rfl 50 _ _ rfl w1.heap.size (tabCells 256) rfl rfl 50 (tabCells 0) (heap_alloc_new _ _) (Try.sizeTab _) (by rw [tabCells_size, tabCells_size]) (tabCells_one _) ?_))
  go_loop [6, 14] (fun v j => ∃ n : Nat, n ≤ l.length ∧ j = .int .i64 n ∧ v = .int .u32 (num32 (Crc.eats (~~~s) (l.take n)))) (fun _ j => l.length - (intOf j).toNat)
  case atStart => exact ⟨0, by omega, rfl, by rw [List.take_zero, Crc.eats_nil]; exact congrArg _ (not32 s)⟩
  case round =>
    obtain ⟨n, hn, rfl, rfl⟩ := hrel
    by_cases hlt : n < l.length
    · have hc := HC.out n hlt
      obtain rfl := HA (by intro e; subst e; simp at hlt)
      replace hc := (cell_later HB'.out hc)
      have hlt' : (n : Int) < (l.length : Int) := by omega
      obtain ⟨W, HW⟩ : ∃ W, Hid (Crc.eats (~~~s) (l.take n) = W) := ⟨_, rfl⟩
      obtain ⟨x, HX⟩ : ∃ x, Hid (l.getD n 0 = x) := ⟨_, rfl⟩
      rw [HW.out]
      rw [HX.out] at hc
      obtain ⟨i, hi, HI⟩ : ∃ i : Nat, i < 256 ∧ Hid ((UInt8.ofNat W.toNat ^^^ x).toNat = i) := ⟨_, (UInt8.ofNat W.toNat ^^^ x).toNat_lt, rfl⟩
      have hx : bits .xor .u8 (num32 W % 256) (x.toNat : Int) = (i : Int) := by rw [low8, xor8, HI.out]
      have hi' : (i : Int) < 256 := by omega
      have ht : ((w1.alloc (.cells (tabCells 0) 50)).setRow w1.heap.size (tabCells 256)).cell? ⟨w1.heap.size, i, none⟩ = some (.int .u32 (num32 (Crc.tab i))) := by
        rw [cell_setRow_same _ _ _ _ _ _ _ (heap_alloc_new _ _), tabCells_get 256 i hi]
        simp [tabCell, hi]
      have hs := shr8 W
      have hx2 : bits .xor .u32 (num32 (W >>> 8)) (num32 (Crc.tab i)) = num32 (Crc.look W x) := by rw [xor32]; unfold Crc.look; rw [HI.out]
      have hc' : ((w1.alloc (.cells (tabCells 0) 50)).setRow w1.heap.size (tabCells 256)).cell? ⟨b, o + n, none⟩ = some (.int .u8 (x.toNat : Int)) := by
        rw [cell_setRow_other _ _ _ _ (by have := block_lt_of_cell hc; simp at this ⊢; omega)]
        rw [World.cell?_alloc_past _ _ _ (block_lt_of_cell hc)]
        exact hc
      have HLT := Lib.hid hlt
      clear hc hlt
      go_wp2
      go_round
      case rel => exact ⟨n + 1, by omega, by go_num, by rw [take_snoc l n HLT.out, Crc.eats_snoc, HW.out, HX.out, Crc.look_eq]⟩
      case measure => simp [intOf]; omega
    · obtain rfl : n = l.length := by omega
      have hnot := not32
      go_wp2
      go_ret
      exact ⟨ret_int rfl, below_setRow (HB'.out.alloc HB'.out.size _) HB'.out.size _⟩

set_option maxHeartbeats 400000 in
theorem sum_any (v : Value) (l : List UInt8) (w : World) (h : Bytes w v l) (hl : l.length ≤ 140737488351232) :
    Calls Try.prog 23 #[v] w fun e w' => e = .returned (.int .u32 (num32 (Crc.more 0#32 l))) ∧ Below w.heap.size w w' := by
  have hm := Lib.hid (more_any 0#32 v l w h hl)
  rw [show num32 0#32 = 0 from rfl] at hm
  go_enter Try.func23, Try.ntmps23
  go_wp2_with (first | (go_at_call 28; refine hm.out.mono ?_; rintro e w1 ⟨rfl, HB⟩; have HB' := Lib.hid HB; clear HB))
  go_ret
  exact ⟨rfl, HB'.out⟩

end Go.Proofs.Ytebeohdadihidaa
