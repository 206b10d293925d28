/- Walks of package frame. -/
import Derived.Test.YtebeohdadihidaaCrcRefWalk
import Derived.Test.YtebeohdadihidaaFrmPlain
import Derived.ProofKit
import Derived.Handy
import Derived.StillTailTactics
namespace Go.Proofs.Ytebeohdadihidaa
open Go.RowKit

theorem four_cells (n : BitVec 32) : #[Value.int .u8 (num32 n / 16777216), .int .u8 (num32 n / 65536 % 256), .int .u8 (num32 n / 256 % 256), .int .u8 (num32 n % 256)] = (byteVals (Frm.four n)).toArray := by
  have h := n.isLt
  unfold num32 Frm.four byteVals
  simp
  omega

set_option maxHeartbeats 1000000 in
theorem four_any (n : BitVec 32) (w : World) : Calls Try.prog 22 #[.int .u32 (num32 n)] w fun e w' => e = .returned (.agg (byteVals (Frm.four n)).toArray) ∧ Below w.heap.size w w' := by
  have h0 := u32_nonneg n
  have h1 := u32_lt n
  go_enter Try.func22, Try.ntmps22
  go_wp2_with fail
  refine wp_loop_rounds 5 ?_
  rw [rounds_succ]
  go_wp2
  rw [rounds_succ]
  go_wp2
  rw [rounds_succ]
  go_wp2
  rw [rounds_succ]
  go_wp2
  rw [rounds_succ]
  go_wp2
  have hc := four_cells n
  exact bodyPost_ret (v := .agg (byteVals (Frm.four n)).toArray) (results_cell_row rfl _ _ w.heap.size 40 (byteVals (Frm.four n)).toArray (0, 0) _ rfl (by rw [← hc]; exact heap_alloc_new _ _) Try.underlying40 rfl (by rw [← hc]; kernel_rfl)) rfl ⟨rfl, (Below.refl _ _).alloc (Nat.le_refl _) _⟩


/-- a new slice of bytes, the call's own -/
def NewBytes (w : World) (l : List UInt8) (e : Ending) (w' : World) : Prop := ∃ v, e = .returned v ∧ Bytes w' v l ∧ Below w.heap.size w w' ∧ ∀ k, v.ownBlock = some k → w.heap.size ≤ k

set_option maxHeartbeats 1000000 in
theorem rfour_any (n : BitVec 32) (w : World) : Calls Try.prog 24 #[.int .u32 (num32 n)] w (NewBytes w (Frm.four n)) := by
  have h0 := u32_nonneg n
  have h1 := u32_lt n
  go_enter Try.func24, Try.ntmps24
  go_wp2
  go_ret
  have hc := four_cells n
  refine ⟨_, rfl, ?_, (Below.refl _ _).alloc (Nat.le_refl _) _, fun k hk => ?_⟩
  · refine bytes_block (heap_alloc_new _ _) (Frm.four n) 4 4 rfl (Nat.le_refl _) fun i hi => ?_
    rw [hc]
    rw [List.getElem?_toArray]
    exact byteVals_get _ _ hi
  · simp only [Array.getD] at hk
    simp [Value.ownBlock] at hk
    omega

theorem u32_cut (n : Int) : n % 4294967296 = num32 (BitVec.ofInt 32 n) := by
  unfold num32
  rw [BitVec.toNat_ofInt]
  omega

/-- a cell of a variable holds bytes that the call owns from 'base' on -/
def Owned (w : World) (base g : Nat) (l : List UInt8) : Prop := ∃ v, w.heap[g]? = some (.cells #[v] 23 (0, 0)) ∧ w.ownsRow base 5 1 v l.length (byteVals l) ∧ base ≤ g

theorem own_ne {w : World} {base g n size : Nat} {v : Value} {xs : List Value} {cs : Array Value} {t e : TypeId} {fr : Nat × Nat} (hg : w.heap[g]? = some (.cells cs t fr)) (ho : w.ownsRow base e size v n xs) (hne : e ≠ t) : ∀ k, v.ownBlock = some k → k ≠ g := by
  intro k hk h
  subst h
  rcases ho.2 with ⟨rfl, _⟩ | ⟨g', cap, cur, rfl, _, hg', _⟩
  · cases hk
  · simp only [Value.ownBlock, Option.some.injEq] at hk
    subst hk
    rw [hg'] at hg
    simp only [Option.some.injEq, Obj.cells.injEq] at hg
    exact hne hg.2.1

theorem own_slice {w : World} {base : Nat} {e : TypeId} {size : Nat} {v : Value} {n : Nat} {xs : List Value} (h : w.ownsRow base e size v n xs) : ∃ a cap, v = .slice a n cap := by
  rcases h.2 with ⟨rfl, rfl⟩ | ⟨g, cap, cur, rfl, _⟩
  · exact ⟨none, 0, rfl⟩
  · exact ⟨_, cap, rfl⟩

theorem own_keep {w w' : World} {base : Nat} {e : TypeId} {size : Nat} {v : Value} {n : Nat} {xs : List Value} (h : w.ownsRow base e size v n xs) (hb : ∀ k, v.ownBlock = some k → w'.heap[k]? = w.heap[k]?) : w'.ownsRow base e size v n xs := by
  refine ⟨h.1, ?_⟩
  rcases h.2 with hn | ⟨g, cap, cur, rfl, hb', hgg, rest⟩
  · exact .inl hn
  · refine .inr ⟨g, cap, cur, rfl, hb', ?_, rest⟩
    rw [hb g rfl]
    exact hgg

theorem own_cut {w w' : World} {base : Nat} {e : TypeId} {size : Nat} {v : Value} {n : Nat} {xs : List Value} (h : w.ownsRow base e size v n xs) (hb : Below w.heap.size w w') : w'.ownsRow base e size v n xs :=
  own_keep h fun k hk => hb.block k (h.lt k hk).2

theorem own_lt {w : World} {base : Nat} {e : TypeId} {size : Nat} {v : Value} {n : Nat} {xs : List Value} (h : w.ownsRow base e size v n xs) : ∀ k, v.ownBlock = some k → k < w.heap.size := fun k hk => (h.lt k hk).2

/-- four bytes, each by its name -/
theorem four_lit (n : BitVec 32) (w : World) : Calls Try.prog 22 #[.int .u32 (num32 n)] w fun e w' => ∃ z0 z1 z2 z3 : UInt8, Frm.four n = [z0, z1, z2, z3] ∧ e = .returned (.agg #[.int .u8 (z0.toNat : Int), .int .u8 (z1.toNat : Int), .int .u8 (z2.toNat : Int), .int .u8 (z3.toNat : Int)]) ∧ Below w.heap.size w w' :=
  (four_any n w).mono fun _ _ h => ⟨_, _, _, _, rfl, h.1, h.2⟩

set_option maxHeartbeats 1000000 in
/-- the closure that lays four bytes more: out in block g, what is owned from 'base' on -/
theorem lay_any (base g : Nat) (l : List UInt8) (n : Int) (w : World) (ho : Owned w base g l) (hl : l.length ≤ 100000) (n0 : -9223372036854775808 ≤ n) (n1 : n ≤ 9223372036854775807) :
    Calls Try.prog 21 #[.int .i64 n, .pointer (some ⟨g, 0, none⟩)] w fun e w' => e = .returned (.tuple #[]) ∧ Owned w' base g (l ++ Frm.four (BitVec.ofInt 32 n)) ∧ Below base w w' := by
  obtain ⟨v, hg, ho, hbg⟩ := ho
  have hlt := lt_of_block hg
  have hne := own_ne hg ho (by decide)
  have hb : base ≤ w.heap.size := by omega
  have hcut := u32_cut n
  go_enter Try.func21, Try.ntmps21
  go_wp2_with (first
    | (go_at_call 22; simp only [hcut]; refine (four_lit _ _).mono ?_; rintro e w1 ⟨z0, z1, z2, z3, hz, rfl, HB⟩; have HZ := Lib.hid hz; clear hz; have g1 : w1.heap[g]? = some (.cells #[v] 23 (0, 0)) := (HB.block g hlt).trans hg; have ho1 := own_cut ho HB; have B1 := Lib.hid HB; clear HB))
  have hs1 := B1.out.size
  have hgw : g < w1.heap.size := by omega
  have hload : (w1.alloc (.cells #[.int .u8 (z0.toNat : Int), .int .u8 (z1.toNat : Int), .int .u8 (z2.toNat : Int), .int .u8 (z3.toNat : Int)] 40)).cell? ⟨g, 0, none⟩ = some v := row_cell (by exact (heap_alloc_old _ _ hgw).trans g1) rfl
  have hnew : (w1.alloc (.cells #[.int .u8 (z0.toNat : Int), .int .u8 (z1.toNat : Int), .int .u8 (z2.toNat : Int), .int .u8 (z3.toNat : Int)] 40)).heap[w1.heap.size]? = some (.cells #[.int .u8 (z0.toNat : Int), .int .u8 (z1.toNat : Int), .int .u8 (z2.toNat : Int), .int .u8 (z3.toNat : Int)] 40 (0, 0)) := heap_alloc_new _ _
  have ho2 := ho1.alloc (.cells #[.int .u8 (z0.toNat : Int), .int .u8 (z1.toNat : Int), .int .u8 (z2.toNat : Int), .int .u8 (z3.toNat : Int)] 40)
  have B2 : Hid (Below w.heap.size w (w1.alloc (.cells #[.int .u8 (z0.toNat : Int), .int .u8 (z1.toNat : Int), .int .u8 (z2.toNat : Int), .int .u8 (z3.toNat : Int)] 40))) := B1.out.alloc hs1 _
  revert hload hnew ho2 B2
  generalize w1.alloc (.cells #[.int .u8 (z0.toNat : Int), .int .u8 (z1.toNat : Int), .int .u8 (z2.toNat : Int), .int .u8 (z3.toNat : Int)] 40) = w2
  intro hload hnew ho2 B2
  have hgw2 : w2.heap[g]? = some (.cells #[v] 23 (0, 0)) := (B2.out.block g hlt).trans hg
  have hsrc : Bytes w2.drew (.slice (some ⟨w1.heap.size, 0, none⟩) 4 4) [z0, z1, z2, z3] := bytes_block (fr := (0, 0)) hnew [z0, z1, z2, z3] 4 4 rfl (Nat.le_refl _) fun i hi => by
    simp only [List.length_cons, List.length_nil] at hi
    rcases (by omega : i = 0 ∨ i = 1 ∨ i = 2 ∨ i = 3) with rfl | rfl | rfl | rfl <;> rfl
  obtain ⟨v', w3, hrun, hown, hgr⟩ := append_bytes (P := Try.prog) (w := w2.drew) 23 Try.underlying23 (by rfl) (e := 5) (base := base) (ho2.drew) hsrc (by simp; omega) (by have := B2.out.size; simp; omega)
  have g3 : w3.heap[g]? = some (.cells #[v] 23 (0, 0)) := (hgr.block g (lt_of_block hgw2) (fun e => hne g e.symm rfl)).trans hgw2
  have hb2 : base ≤ w2.drew.heap.size := by have := B2.out.size; simp; omega
  have B3 : Hid (Below base w w3) := ((B2.out.mono hb).drew).trans (own_below (w := w2.drew) ho2.drew hgr hb2)
  have HR := Lib.hid hrun
  rw [List.length_append] at hown
  change w3.ownsRow base _ 1 v' (l.length + 4) _ at hown
  have HO := Lib.hid hown
  obtain ⟨av, cap, rfl⟩ := own_slice hown
  clear hrun hown hgr hsrc
  go_still_tail 2, (by kernel_rfl)
  change wpList _ _ _ _ _ w2.drew
  refine Lib.wpList_append_run _ rfl (.tmp 7) (.tmp 8) _ _ rfl _ _ rfl rfl _ _ HR.out ?_
  have c3 : w3.cell? ⟨g, 0, none⟩ = some v := row_cell g3 rfl
  have f3 : w3.frozen? ⟨g, 0, none⟩ = false := frozen_of_row _ _ _ _ _ g3
  go_wp2
  go_end0
  refine ⟨rfl, ?_, ?_⟩
  · rw [HZ.out]
    refine ⟨_, heap_setCell_same _ g 0 _ _ _ g3, by rw [List.length_append]; exact own_keep HO.out fun k hk => heap_setCell_other _ _ _ _ (own_ne g3 HO.out (by decide) k hk), hbg⟩
  · exact B3.out.setCell hbg _

end Go.Proofs.Ytebeohdadihidaa
