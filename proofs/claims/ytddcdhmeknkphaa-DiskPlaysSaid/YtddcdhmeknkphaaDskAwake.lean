/- tailracelaw04.awake. -/
import Derived.Test.YtddcdhmeknkphaaDskLasts
namespace Go.Proofs.Ytddcdhmeknkphaa
open Go.RowKit

namespace Aw
open Dsk
def s0 : St := St.new 4
def s1 : St := (s0.write 1 [7]).2
def s2 : St := s1.restart []
def s3 : St := s2.fuseAt 1
def s4 : St := (s3.write 1 [8]).2
def s5 : St := (s4.write 2 [9]).2
def s6 : St := s5.restart [1]
theorem e1 : (s0.write 1 [7]).1 = 0 := by rfl
theorem e4 : (s3.write 1 [8]).1 = 0 := by rfl
theorem e5 : (s4.write 2 [9]).1 = 40 := by rfl
theorem u1 : s1.use 1 = 0 := by rfl
theorem u2 : s2.use 1 = 0 := by rfl
theorem u6 : s6.use 1 = 0 := by rfl
theorem l1 : s1.look 1 = [7] := by rfl
theorem l2 : s2.look 1 = [] := by rfl
theorem l6 : s6.look 1 = [8] := by rfl
theorem d5 : s5.down = true := by rfl
theorem z6 : s6.size = 4 := by rfl
end Aw

theorem new_ok (n : Int) (h0 : 2 ≤ n) (h1 : n ≤ 4096) (w : World) : Calls Try.prog 10 #[.int .i64 n] w fun e w' => ∃ d bl bw, e = .returned (.tuple #[.pointer (some ⟨d, 0, none⟩), .int .i64 0]) ∧ DskAt w' d bl bw (Dsk.St.new n.toNat) ∧ Below w.heap.size w w' ∧ w.heap.size ≤ d ∧ w.heap.size ≤ bl ∧ w.heap.size ≤ bw :=
  (new_any n ⟨by omega, by omega⟩ w).mono fun e w' h => by
    unfold NewDisk at h
    rw [if_pos ⟨h0, h1⟩] at h
    exact ⟨_, _, _, h.1, h.2.1, h.2.2, by omega, by omega, by omega⟩

theorem dsk_byte (w : World) (x : UInt8) (e : TypeId) : Bytes (w.alloc (.cells #[.int .u8 (x.toNat : Int)] e)) (.slice (some ⟨w.heap.size, 0, none⟩) 1 1) [x] :=
  bytes_block (heap_alloc_new _ _) [x] 1 1 rfl (Nat.le_refl _) fun i hi => by
    simp only [List.length_cons, List.length_nil] at hi
    obtain rfl : i = 0 := by omega
    rfl

theorem one_int (w : World) (x : Int) (e : TypeId) : Row (w.alloc (.cells #[.int .i64 x] e)) (.slice (some ⟨w.heap.size, 0, none⟩) 1 1) (intVals [x]) :=
  row_block (heap_alloc_new _ _) (intVals [x]) 1 1 rfl (Nat.le_refl _) fun i u hu => by rw [List.getElem?_toArray]; exact hu

theorem alloc_below (w : World) (o : Obj) : Below w.heap.size w (w.alloc o) := (Below.refl _ _).alloc (Nat.le_refl _) _

/-- what changed since the begin -/
theorem bel_chg {w a b : World} {fs : List Nat} (h : Hid (Below w.heap.size w a)) (hc : Chg fs a b) (hs : ∀ k ∈ fs, w.heap.size ≤ k) : Hid (Below w.heap.size w b) :=
  h.out.trans (hc.below h.out.size hs)

set_option maxRecDepth 100000 in
set_option maxHeartbeats 4000000 in
theorem awake4_any (w : World) : Calls Try.prog 9 #[] w fun e w' => e = .returned (.bool true) ∧ Below w.heap.size w w' := by
  go_enter Try.func9, Try.ntmps9
  go_wp2_with fail
  refine (new_ok 4 (by omega) (by omega) w).mono ?_
  rintro e w0 ⟨d, bl, bw, rfl, D0, hB, hd, hl, hw⟩
  have hfs : Hid (∀ k ∈ [d, bl, bw], w.heap.size ≤ k) := by
    intro k hk
    simp only [List.mem_cons, List.not_mem_nil, or_false] at hk
    rcases hk with rfl | rfl | rfl <;> assumption
  have B0 := Lib.hid hB
  change DskAt w0 d bl bw Aw.s0 at D0
  clear hB hd hl hw
  go_wp2_with fail
  have D0' := D0.below (alloc_below w0 (.cells #[.int .u8 7] 5))
  have B0' := hid_trans B0 (alloc_below w0 (.cells #[.int .u8 7] 5))
  refine (write_any D0' 1 _ [7] (dsk_byte w0 7 _)).mono ?_
  rintro e w1 ⟨rfl, D1, hC⟩
  have B1 := bel_chg B0' hC hfs.out
  rw [Aw.e1]
  change DskAt w1 d bl bw Aw.s1 at D1
  clear D0 D0' B0 B0' hC
  go_wp2_with fail
  have hr1 := read_any D1 1
  rw [if_pos Aw.u1, Aw.u1] at hr1
  refine hr1.mono ?_
  rintro e w2 ⟨a2, c2, rfl, hb2, hB⟩
  change Bytes w2 (.slice a2 (Aw.s1.look 1).length c2) (Aw.s1.look 1) at hb2
  change Calls _ _ _ _ _ at hr1
  rw [show Aw.s1.look (1 : Int).toNat = [7] from Aw.l1]
  rw [Aw.l1] at hb2
  have D2 := D1.below hB
  have B2 := hid_trans B1 hB
  clear D1 B1 hB hr1
  go_wp2_with fail
  refine (restart_any D2 (.slice none 0 0) [] (Row.nil _) (fun _ h => by cases h) (by simp) (fun h => absurd rfl h)).mono ?_
  rintro e w3 ⟨rfl, D3, hC⟩
  have hb3 := hb2.off hC D2.no
  have B3 := bel_chg B2 hC hfs.out
  change DskAt w3 d bl bw Aw.s2 at D3
  clear D2 B2 hC hb2
  go_wp2_with fail
  have hr2 := read_any D3 1
  rw [if_pos Aw.u2, Aw.u2] at hr2
  refine hr2.mono ?_
  rintro e w4 ⟨a4, c4, rfl, -, hB⟩
  rw [show Aw.s2.look (1 : Int).toNat = [] from Aw.l2]
  have hb4 := hb3.below hB
  have D4 := D3.below hB
  have B4 := hid_trans B3 hB
  clear D3 B3 hB hr2 hb3
  go_wp2_with fail
  refine (fuse_any D4 1 ⟨by omega, by omega⟩).mono ?_
  rintro e w5 ⟨rfl, D5, hC⟩
  have hb5 := hb4.off hC D4.no
  have B5 := bel_chg B4 hC hfs.out
  change DskAt w5 d bl bw Aw.s3 at D5
  clear D4 B4 hC hb4
  go_wp2_with fail
  have D5' := D5.below (alloc_below w5 (.cells #[.int .u8 8] 5))
  have B5' := hid_trans B5 (alloc_below w5 (.cells #[.int .u8 8] 5))
  have hb5' := hb5.below (alloc_below w5 (.cells #[.int .u8 8] 5))
  refine (write_any D5' 1 _ [8] (dsk_byte w5 8 _)).mono ?_
  rintro e w6 ⟨rfl, D6, hC⟩
  have hb6 := hb5'.off hC D5'.no
  have B6 := bel_chg B5' hC hfs.out
  rw [Aw.e4]
  change DskAt w6 d bl bw Aw.s4 at D6
  clear D5 D5' B5 B5' hC hb5 hb5'
  go_wp2_with fail
  have D6' := D6.below (alloc_below w6 (.cells #[.int .u8 9] 5))
  have B6' := hid_trans B6 (alloc_below w6 (.cells #[.int .u8 9] 5))
  have hb6' := hb6.below (alloc_below w6 (.cells #[.int .u8 9] 5))
  refine (write_any D6' 2 _ [9] (dsk_byte w6 9 _)).mono ?_
  rintro e w7 ⟨rfl, D7, hC⟩
  have hb7 := hb6'.off hC D6'.no
  have B7 := bel_chg B6' hC hfs.out
  rw [Aw.e5]
  change DskAt w7 d bl bw Aw.s5 at D7
  clear D6 D6' B6 B6' hC hb6 hb6'
  go_wp2_with fail
  refine (down_any D7).mono ?_
  rintro e w7' ⟨rfl, rfl⟩
  rw [Aw.d5]
  go_wp2_with fail
  have D7' := D7.below (alloc_below w7 (.cells #[.int .i64 1] 3))
  have B7' := hid_trans B7 (alloc_below w7 (.cells #[.int .i64 1] 3))
  have hb7' := hb7.below (alloc_below w7 (.cells #[.int .i64 1] 3))
  refine (restart_any D7' _ [1] (one_int w7 1 _) (fun n h => by simp at h; subst h; exact ⟨by omega, by omega⟩) (by simp) (fun _ k h hk => by
    simp only [Value.ownBlock, Option.some.injEq] at h
    subst h
    have := D7.lt _ hk
    omega)).mono ?_
  rintro e w8 ⟨rfl, D8, hC⟩
  have hb8 := hb7'.off hC D7'.no
  have B8 := bel_chg B7' hC hfs.out
  change DskAt w8 d bl bw Aw.s6 at D8
  clear D7 D7' B7 B7' hC hb7 hb7'
  go_wp2_with fail
  have hr6 := read_any D8 1
  rw [if_pos Aw.u6, Aw.u6] at hr6
  refine hr6.mono ?_
  rintro e w9 ⟨a9, c9, rfl, hb9, hB⟩
  rw [show Aw.s6.look (1 : Int).toNat = [8] from Aw.l6] at hb9 ⊢
  have hb8' := hb8.below hB
  have D9 := D8.below hB
  have B9 := hid_trans B8 hB
  clear D8 B8 hB hr6 hb8
  obtain ⟨a2', c2', he, -, b2, o2, hA2, hC2⟩ := hb8'.opened
  rw [Value.slice.injEq] at he
  obtain ⟨rfl, -, rfl⟩ := he
  obtain rfl := hA2 (by decide)
  have k2 : w9.cell? ⟨b2, o2, none⟩ = some (.int .u8 7) := hC2.out 0 (by decide)
  obtain ⟨a9', c9', he, -, b9, o9, hA9, hC9⟩ := hb9.opened
  rw [Value.slice.injEq] at he
  obtain ⟨rfl, -, rfl⟩ := he
  obtain rfl := hA9 (by decide)
  have k9 : w9.cell? ⟨b9, o9, none⟩ = some (.int .u8 8) := hC9.out 0 (by decide)
  simp only [List.length_cons, List.length_nil]
  clear hb8' hb9 hA2 hC2 hA9 hC9
  go_wp2_with fail
  refine (size_any D9).mono ?_
  rintro e w9' ⟨rfl, rfl⟩
  rw [Aw.z6]
  go_wp2_with fail
  go_ret
  exact ⟨rfl, B9.out⟩

end Go.Proofs.Ytddcdhmeknkphaa
