/- frame.Pack. -/
import Derived.Test.YtebeohdadihidaaFrmWalk
import Derived.Lib.AppendZeros
namespace Go.Proofs.Ytebeohdadihidaa
open Go.RowKit

theorem Try.info8 : (Try.prog.info? 5).map (fun i => (i.zero, i.size, i.bytes)) = some (some (.int .u8 0), 1, 1) := by kernel_rfl

theorem Owned.alloc {w : World} {base g : Nat} {l : List UInt8} (h : Owned w base g l) (o : Obj) : Owned (w.alloc o) base g l := by
  obtain ⟨v, hg, ho, hb⟩ := h
  exact ⟨v, (heap_alloc_old _ _ (lt_of_block hg)).trans hg, ho.alloc o, hb⟩

theorem Owned.cut {w w' : World} {base g : Nat} {l : List UInt8} (h : Owned w base g l) (hb : Below w.heap.size w w') : Owned w' base g l := by
  obtain ⟨v, hg, ho, hb'⟩ := h
  exact ⟨v, (hb.block g (lt_of_block hg)).trans hg, own_cut ho hb, hb'⟩

/-- 'out = append(out, src...)', out a variable's cell; the world may have got a block more since out was read -/
theorem owned_append {w w1 : World} {base g : Nat} {l : List UInt8} (h : Owned w base g l) (hw : Below w.heap.size w w1) {src : Value} {m : List UInt8} (hsrc : Bytes w1 src m) (hl : l.length + m.length ≤ 1000000) :
    ∃ v av L cap w3, w.cell? ⟨g, 0, none⟩ = some v ∧ Hid ((Builtin.append_ #[23, 23] 23 #[v, src]).run Try.prog w1 = .ok (.slice av L cap) w3) ∧
      w3.cell? ⟨g, 0, none⟩ = some v ∧ w3.frozen? ⟨g, 0, none⟩ = false ∧ (w3.setCell ⟨g, 0, none⟩ (.slice av L cap)).cell? ⟨g, 0, none⟩ = some (.slice av L cap) ∧
      Hid (Owned (w3.setCell ⟨g, 0, none⟩ (.slice av L cap)) base g (l ++ m)) ∧ Hid (Below base w (w3.setCell ⟨g, 0, none⟩ (.slice av L cap))) := by
  obtain ⟨v, hg, ho, hb⟩ := h
  have hlt := lt_of_block hg
  have hbase : base ≤ w.heap.size := by omega
  have ho1 := own_cut ho hw
  have hg1 : w1.heap[g]? = some (.cells #[v] 23 (0, 0)) := (hw.block g hlt).trans hg
  obtain ⟨v', w3, hrun, hown, hgr⟩ := append_bytes (P := Try.prog) 23 Try.underlying23 Try.info8 ho1 hsrc (by omega) (by have := hw.size; omega)
  have g3 : w3.heap[g]? = some (.cells #[v] 23 (0, 0)) := (hgr.block g (lt_of_block hg1) (fun e => own_ne hg ho (by decide) g e.symm rfl)).trans hg1
  rw [List.length_append] at hown
  obtain ⟨av, cap, rfl⟩ := own_slice hown
  have hset := heap_setCell_same w3 g 0 #[v] _ (.slice av (l.length + m.length) cap) g3
  refine ⟨v, av, _, cap, w3, row_cell hg rfl, hrun, row_cell g3 rfl, frozen_of_row _ _ _ _ _ g3, row_cell hset rfl, ⟨_, hset, ?_, hb⟩, ?_⟩
  · rw [List.length_append]; exact own_keep hown fun k hk => heap_setCell_other _ _ _ _ (own_ne g3 hown (by decide) k hk)
  · exact (((hw.mono hbase)).trans (own_below (w := w1) ho1 hgr (by have := hw.size; omega))).setCell hb _

theorem owned_start (w : World) (x : UInt8) : Owned ((w.alloc (.cells #[.int .u8 (x.toNat : Int)] 5)).alloc (.cells #[.slice (some ⟨w.heap.size, 0, none⟩) 1 1] 23)) w.heap.size (w.heap.size + 1) [x] := by
  have h1 : (w.alloc (.cells #[.int .u8 (x.toNat : Int)] 5)).heap.size = w.heap.size + 1 := by simp
  refine ⟨_, by rw [← h1]; exact heap_alloc_new _ _, ?_, by omega⟩
  exact (World.ownsRow_lit (base := w.heap.size) (size := 1) (e := 5) w #[.int .u8 (x.toNat : Int)] 1 (Nat.le_refl _) (by unfold maxLen; omega) rfl).alloc _

theorem two_bytes (w : World) (data : List UInt8) (e : TypeId) : Bytes (w.alloc (.cells #[.int .u8 ((data.length : Int) / 256 % 256), .int .u8 ((data.length : Int) % 256)] e)) (.slice (some ⟨w.heap.size, 0, none⟩) 2 2) (Frm.lens data) := by
  refine bytes_block (heap_alloc_new _ _) _ 2 2 rfl (Nat.le_refl _) fun i hi => ?_
  simp only [Frm.lens, List.length_cons, List.length_nil] at hi
  have e1 : ((UInt8.ofNat (data.length / 256)).toNat : Int) = (data.length : Int) / 256 % 256 := by simp
  have e2 : ((UInt8.ofNat data.length).toNat : Int) = (data.length : Int) % 256 := by simp
  rcases (by omega : i = 0 ∨ i = 1) with rfl | rfl
  · exact congrArg (fun z => some (Value.int .u8 z)) e1.symm
  · exact congrArg (fun z => some (Value.int .u8 z)) e2.symm

theorem hid_trans' {B : Nat} {w a b : World} (h : Hid (Below B w a)) (k : Below a.heap.size a b) (hB : B ≤ w.heap.size := by omega) : Hid (Below B w b) := h.out.trans (k.mono (Nat.le_trans hB h.out.size))
theorem u32_back (x : BitVec 32) : BitVec.ofInt 32 (num32 x) = x := by unfold num32; simp

/-- Pack's answer -/
def Packed (kind place : Int) (data : List UInt8) (w : World) (e : Ending) (w' : World) : Prop :=
  ∃ r, e = .returned (.tuple #[r, .int .i64 (if Frm.good kind place data then 0 else 1)]) ∧ Bytes w' r (if Frm.good kind place data then Frm.pack kind place data else []) ∧ (∀ k, r.ownBlock = some k → w.heap.size ≤ k) ∧ Below w.heap.size w w'

theorem packed_bad {kind place : Int} {data : List UInt8} {w w' : World} (hg : Frm.good kind place data = false) (hb : Below w.heap.size w w') : Packed kind place data w (.returned (.tuple #[.slice none 0 0, .int .i64 1])) w' := by
  refine ⟨.slice none 0 0, by rw [hg]; rfl, by rw [hg]; exact .nil _, ?_, hb⟩
  intro k hk
  cases hk

set_option maxRecDepth 100000 in
set_option maxHeartbeats 2000000 in
theorem pack_any (kind place : Int) (v : Value) (data : List UInt8) (w : World) (h : Bytes w v data) (k0 : -9223372036854775808 ≤ kind) (k1 : kind ≤ 9223372036854775807) (p0 : -9223372036854775808 ≤ place) (p1 : place ≤ 9223372036854775807) (hd : data.length ≤ 100000) :
    Calls Try.prog 12 #[.int .i64 kind, .int .i64 place, v] w (Packed kind place data w) := by
  by_cases c1 : kind < 1
  · have hg : Frm.good kind place data = false := by simp [Frm.good]; omega
    obtain ⟨a, cap, rfl, -, -⟩ := h.opened
    go_enter Try.func12, Try.ntmps12
    go_wp2_with fail
    go_ret2
    exact packed_bad hg (Below.refl _ _)
  by_cases c2 : 4 < kind
  · have hg : Frm.good kind place data = false := by simp [Frm.good]; omega
    obtain ⟨a, cap, rfl, -, -⟩ := h.opened
    have d1 : decide (kind < 1) = false := decide_eq_false (by omega)
    go_enter Try.func12, Try.ntmps12
    go_wp2_with fail
    go_ret2
    exact packed_bad hg (Below.refl _ _)
  by_cases c3 : place < 0
  · have hg : Frm.good kind place data = false := by simp [Frm.good]; omega
    obtain ⟨a, cap, rfl, -, -⟩ := h.opened
    have d1 : decide (kind < 1) = false := decide_eq_false (by omega)
    have d2 : decide (4 < kind) = false := decide_eq_false (by omega)
    go_enter Try.func12, Try.ntmps12
    go_wp2_with fail
    go_ret2
    exact packed_bad hg (Below.refl _ _)
  by_cases c4 : 2147483647 < place
  · have hg : Frm.good kind place data = false := by simp [Frm.good]; omega
    obtain ⟨a, cap, rfl, -, -⟩ := h.opened
    have d1 : decide (kind < 1) = false := decide_eq_false (by omega)
    have d2 : decide (4 < kind) = false := decide_eq_false (by omega)
    have d3 : decide (place < 0) = false := decide_eq_false (by omega)
    go_enter Try.func12, Try.ntmps12
    go_wp2_with fail
    go_ret2
    exact packed_bad hg (Below.refl _ _)
  have d1 : decide (kind < 1) = false := decide_eq_false (by omega)
  have d2 : decide (4 < kind) = false := decide_eq_false (by omega)
  have d3 : decide (place < 0) = false := decide_eq_false (by omega)
  have d4 : decide (2147483647 < place) = false := decide_eq_false (by omega)
  by_cases c5 : 1000 < data.length
  · have hg : Frm.good kind place data = false := by simp [Frm.good]; omega
    obtain ⟨a, cap, rfl, -, -⟩ := h.opened
    have d5 : (1000 : Int) < (data.length : Int) := by omega
    go_enter Try.func12, Try.ntmps12
    go_wp2_with fail
    go_ret2
    exact packed_bad hg (Below.refl _ _)
  have d5 : decide ((1000 : Int) < (data.length : Int)) = false := decide_eq_false (by omega)
  obtain ⟨kb, rfl⟩ : ∃ kb : UInt8, kind = (kb.toNat : Int) := ⟨UInt8.ofNat kind.toNat, by simp; omega⟩
  have hg : Frm.good kb.toNat place data = true := by simp [Frm.good]; omega
  obtain ⟨a, cap, rfl, -, -⟩ := h.opened
  have HD := Lib.hid h
  clear c1 c2 c3 c4 c5 h
  have kb0 : (0 : Int) ≤ (kb.toNat : Int) := by omega
  have kb1 : (kb.toNat : Int) < 256 := by have := kb.toNat_lt; omega
  go_enter Try.func12, Try.ntmps12
  go_wp2_with fail
  refine (lay_any w.heap.size (w.heap.size + 1) [kb] place _ (owned_start w kb) (by simp) p0 p1).mono ?_
  rintro e w1 ⟨rfl, HO, HB⟩
  have O1 := Lib.hid HO
  have B1 : Hid (Below w.heap.size w w1) := (((Below.refl w.heap.size w).alloc (Nat.le_refl _) _).alloc (by simp) _).trans HB
  clear HO HB
  have hsrc : Bytes (w1.alloc (.cells #[.int .u8 ((data.length : Int) / 256 % 256), .int .u8 ((data.length : Int) % 256)] 5)) (.slice (some ⟨w1.heap.size, 0, none⟩) 2 2) (Frm.lens data) := two_bytes _ _ _
  obtain ⟨v1, av1, L1, cap1, w3, hd1, HR1, hc3, hf3, hc4, O2, B2⟩ := owned_append O1.out ((Below.refl _ _).alloc (Nat.le_refl _) _) hsrc (by simp [Frm.four, Frm.lens])
  have hw1 := B1.out.size
  replace B2 : Hid (Below w.heap.size w _) := B1.out.trans B2.out
  clear hc4
  have hsrc2 := HD.out.below B2.out
  obtain ⟨v2, av2, L2, cap2, w4, hd2, HR2, hc5, hf5, hc6, O3, B3⟩ := owned_append O2.out (Below.refl _ _) hsrc2 (by simp [Frm.four, Frm.lens]; omega)
  replace B3 : Hid (Below w.heap.size w _) := B2.out.trans B3.out
  clear hsrc hsrc2
  have HL := Lib.hid O3.out
  obtain ⟨v3, hg3, ho3, -⟩ := HL.out
  have hd3 := row_cell (i := 0) hg3 rfl
  have HB3 := Lib.hid (own_bytes ho3)
  clear hg3 ho3 hc6
  go_wp2_with (first
    | (at_builtin; refine Lib.wpList_append_run _ rfl (.tmp 36) (.tmp 44) _ _ rfl _ _ rfl rfl _ _ HR1.out ?_)
    | (at_builtin; refine Lib.wpList_append_run _ rfl (.tmp 46) (.tmp 47) _ _ rfl _ _ rfl rfl _ _ HR2.out ?_)
    | (go_at_call 23; fail))
  have hll : ([kb] ++ Frm.four (BitVec.ofInt 32 place) ++ Frm.lens data ++ data).length ≤ 100000 := by
    simp [Frm.four, Frm.lens] at *
    omega
  have hsum := sum_any _ _ _ HB3.out (by omega)
  obtain ⟨S, HS⟩ : ∃ S, Hid (Crc.more 0#32 ([kb] ++ Frm.four (BitVec.ofInt 32 place) ++ Frm.lens data ++ data) = S) := ⟨_, rfl⟩
  rw [HS.out] at hsum
  have u0 := u32_nonneg S
  have u1 := u32_lt S
  refine hsum.mono ?_
  clear hsum
  rintro e w5 ⟨rfl, HB⟩
  have O4 := Lib.hid (O3.out.cut HB)
  have B4 := hid_trans' B3 HB
  clear HB
  go_wp2_with (first
    | (go_at_call 21; fail))
  refine (lay_any w.heap.size (w.heap.size + 1) _ _ _ O4.out hll (by omega) (by omega)).mono ?_
  rintro e w6 ⟨rfl, HO, HB⟩
  have O5 := Lib.hid HO
  have B5 : Hid (Below w.heap.size w w6) := B4.out.trans HB
  clear HO HB
  have HL5 := Lib.hid O5.out
  obtain ⟨v5, hg5, ho5, -⟩ := HL5.out
  have hd5 := row_cell (i := 0) hg5 rfl
  have HB5 := Lib.hid ho5
  clear hg5 ho5
  go_wp2_with fail
  go_ret2
  refine ⟨v5, by rw [hg]; rfl, ?_, own_base HB5.out, B5.out⟩
  rw [hg]
  have hx := own_bytes HB5.out
  have hb : [kb] ++ Frm.four (BitVec.ofInt 32 place) ++ Frm.lens data ++ data = Frm.body kb.toNat place data := by simp [Frm.body]
  rw [u32_back, ← HS.out, hb] at hx
  exact hx

end Go.Proofs.Ytebeohdadihidaa
