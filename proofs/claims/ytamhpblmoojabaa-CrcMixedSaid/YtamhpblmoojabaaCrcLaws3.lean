/- Walks of the statements' own functions over package crc: CrcTurns, CrcRows, CrcMixed. -/
import Derived.Test.YtamhpblmoojabaaCrcLaws2
import Derived.Deep.RegionHeld3
import Derived.Deep.DrawnRows
namespace Go.Proofs.Ytamhpblmoojabaa
open Go.RowKit

theorem set_getD_self (l : List UInt8) (i : Nat) (h : i < l.length) : l.set i (l.getD i 0) = l := by
  apply List.ext_getElem?
  intro j
  rw [List.getElem?_set]
  by_cases e : i = j
  · subst e; simp [h, List.getD]
  · simp [e]

theorem set_turn (l : List UInt8) (i : Nat) (x : UInt8) (h : i < l.length) (s : BitVec 32) (he : Crc.more s l = Crc.more s (l.set i (l.getD i 0 ^^^ x))) : x = 0 := by
  have e1 : l = l.take i ++ l.getD i 0 :: l.drop (i + 1) := by
    conv => lhs; rw [← set_getD_self l i h]
    rw [List.set_eq_take_append_cons_drop, if_pos h]
  have e2 : l.set i (l.getD i 0 ^^^ x) = l.take i ++ (l.getD i 0 ^^^ x) :: l.drop (i + 1) := by
    rw [List.set_eq_take_append_cons_drop, if_pos h]
  have h1 := Crc.more_turn s (l.take i) (l.getD i 0) (l.getD i 0 ^^^ x) (l.drop (i + 1)) (by rw [← e1, ← e2]; exact he)
  have h2 : l.getD i 0 ^^^ l.getD i 0 = l.getD i 0 ^^^ (l.getD i 0 ^^^ x) := by rw [← h1]
  rw [← UInt8.xor_assoc, UInt8.xor_self, UInt8.zero_xor] at h2
  exact h2.symm

set_option maxHeartbeats 1000000 in
theorem crcTurns_walk (v : Value) (l : List UInt8) (t : Int) (by_ : UInt8) (x y : BitVec 32) (w : World) (h : Bytes w v l) (ht0 : -9223372036854775808 ≤ t) (ht1 : t ≤ 9223372036854775807) :
    Calls Try.prog 6 #[v, .int .i64 t, .int .u8 (by_.toNat : Int), .int .u32 (num32 x), .int .u32 (num32 y)] w fun e w' => e = .returned (.bool true) ∧ Below w.heap.size w w' := by
  obtain ⟨a, ca, rfl, -, -⟩ := h.opened
  by_cases hbig : l.length ≤ 2000
  · have hb1 : (l.length : Int) ≤ 2000 := by omega
    have hl : l.length ≤ 140737488351232 := by omega
    by_cases hz : 0 < l.length
    · have hz1 : (0 : Int) < (l.length : Int) := by omega
      have hne : ((l.length : Int) == 0) = false := beq_eq_false_iff_ne.2 (by omega)
      have hd : decide ((2000 : Int) < (l.length : Int)) = false := decide_eq_false (by omega)
      obtain ⟨i, hi, hcase⟩ : ∃ i : Nat, i < l.length ∧ ((t < 0 ∧ -((t + 1).tmod (l.length : Int)) = (i : Int)) ∨ (¬ t < 0 ∧ t.tmod (l.length : Int) = (i : Int))) := by
        by_cases hneg : t < 0
        · have h1 : 0 ≤ -((t + 1).tmod (l.length : Int)) := by
            rw [← Int.neg_tmod]; exact Int.tmod_nonneg _ (by omega)
          have h2 : -((t + 1).tmod (l.length : Int)) < (l.length : Int) := by
            rw [← Int.neg_tmod]; exact Int.tmod_lt_of_pos _ hz1
          exact ⟨(-((t + 1).tmod (l.length : Int))).toNat, by omega, .inl ⟨hneg, by omega⟩⟩
        · have h1 : 0 ≤ t.tmod (l.length : Int) := Int.tmod_nonneg _ (by omega)
          have h2 : t.tmod (l.length : Int) < (l.length : Int) := Int.tmod_lt_of_pos _ hz1
          exact ⟨(t.tmod (l.length : Int)).toNat, by omega, .inr ⟨hneg, by omega⟩⟩
      have hi' : (i : Int) < (l.length : Int) := by omega
      obtain ⟨β, E1, E2⟩ : ∃ β : Bool, (num32 (Crc.more 0#32 l) == num32 (Crc.more 0#32 (l.set i (l.getD i 0 ^^^ by_)))) = β ∧ ((by_.toNat : Int) == 0) = β := by
        refine ⟨_, rfl, ?_⟩
        rw [Bool.eq_iff_iff, beq_iff_eq, beq_iff_eq, u32_inj]
        constructor
        · intro h0
          have : by_ = 0 := by apply UInt8.toNat_inj.mp; simp; omega
          subst this
          rw [UInt8.xor_zero, set_getD_self l i hi]
        · intro h0
          have := set_turn l i by_ hi 0#32 h0
          subst this; rfl
      obtain ⟨γ, E3, E4⟩ : ∃ γ : Bool, (num32 (Crc.more x l) == num32 (Crc.more y l)) = γ ∧ (num32 x == num32 y) = γ := by
        refine ⟨_, rfl, ?_⟩
        rw [Bool.eq_iff_iff, beq_iff_eq, beq_iff_eq, u32_inj, u32_inj]
        exact (Crc.more_inj l).symm
      obtain ⟨z, HZ⟩ : ∃ z, Hid (l.getD i 0 = z) := ⟨_, rfl⟩
      rw [HZ.out] at E1
      obtain ⟨z', HZ'⟩ : ∃ z', Hid (z ^^^ by_ = z') := ⟨_, rfl⟩
      rw [HZ'.out] at E1
      obtain ⟨l', HL'⟩ : ∃ l', Hid (l.set i z' = l') := ⟨_, rfl⟩
      rw [HL'.out] at E1
      have hx8 := xor8 z by_
      rw [HZ'.out] at hx8
      have HI := Lib.hid hi
      rcases hcase with ⟨hneg, hidx⟩ | ⟨hneg, hidx⟩
      all_goals
        clear hi hz hbig
        go_enter Try.func6, Try.ntmps6
        go_wp2_with fail
        refine (awake_any _).mono ?_
        rintro e w1 ⟨rfl, HB⟩
        have a1 := h.below HB
        have B1 := Lib.hid HB
        clear HB
        obtain ⟨v1, W1, r1, o1, g1⟩ := copy_bytes (P := Try.prog) w1 26 Try.underlying26 Try.info8 a1 (by omega)
        obtain ⟨g, cap, rfl, hg1, hg2, hcap⟩ := own_shape o1 (by omega)
        have HR1 := Lib.hid r1
        clear r1
        have hc : W1.cell? ⟨g, i, none⟩ = some (.int .u8 (z.toNat : Int)) := by rw [o1.cellAt i (by have := HI.out; omega), byteVals_get l i HI.out, HZ.out]
        have hf : W1.frozen? ⟨g, i, none⟩ = false := o1.frozenAt i
        have O1 := Lib.hid o1
        have G1 := Lib.hid g1
        clear o1 g1
        go_wp2_with (first
          | (at_builtin; refine Lib.wpList_append_run _ rfl (.tmp 32) (.tmp 33) _ _ rfl _ _ rfl rfl _ _ HR1.out ?_))
        have o2 := (O1.out.stored i (.int .u8 (z'.toNat : Int))).1
        rw [← byteVals_set, HL'.out] at o2
        have hll : l.length = l'.length := by rw [← HL'.out]; simp
        have o3 := o2
        rw [hll] at o3
        have c1 := own_bytes o3
        rw [← hll] at c1
        have bel := G1.out.setCell hg1 (.int .u8 (z'.toNat : Int)) (p := ⟨g, i, none⟩)
        have B2 := hid_trans B1 bel
        have b1 := a1.below bel
        have hl2 : l'.length ≤ 140737488351232 := by omega
        have HLL := Lib.hid hll
        clear o2 o3 bel a1 B1 hll O1 G1
        refine (sum_any _ _ _ b1 hl).mono ?_
        rintro e w3 ⟨rfl, HB⟩
        replace b1 := b1.below HB
        replace c1 := c1.below HB
        have B3 := hid_trans B2 HB
        clear B2 HB
        go_wp2_with fail
        refine (sum_any _ _ _ c1 hl2).mono ?_
        rintro e w4 ⟨rfl, HB⟩
        replace b1 := b1.below HB
        have B4 := hid_trans B3 HB
        clear B3 HB
        go_wp2_with fail
        refine (more_any x _ _ _ b1 hl).mono ?_
        rintro e w5 ⟨rfl, HB⟩
        replace b1 := b1.below HB
        have B5 := hid_trans B4 HB
        clear B4 HB
        go_wp2_with fail
        refine (more_any y _ _ _ b1 hl).mono ?_
        rintro e w6 ⟨rfl, HB⟩
        have B6 := hid_trans B5 HB
        clear B5 HB
        go_wp2_with fail
        go_ret
        exact ⟨rfl, B6.out⟩
    · have hz1 : l.length = 0 := by omega
      have hne : ((l.length : Int) == 0) = true := beq_iff_eq.2 (by omega)
      have hd : decide ((2000 : Int) < (l.length : Int)) = false := decide_eq_false (by omega)
      have HZ1 := Lib.hid hz1
      clear hz1 hz
      go_enter Try.func6, Try.ntmps6
      go_wp2_with (first
        | (go_at_call 9; refine (awake_any _).mono ?_; rintro e w1 ⟨rfl, HB⟩; have B1 := Lib.hid HB; clear HB))
      go_ret
      exact ⟨rfl, B1.out⟩
  · have hb1 : (2000 : Int) < (l.length : Int) := by omega
    go_enter Try.func6, Try.ntmps6
    go_wp2_with (first
      | (go_at_call 9; refine (awake_any _).mono ?_; rintro e w1 ⟨rfl, HB⟩; have B1 := Lib.hid HB; clear HB))
    go_ret
    exact ⟨rfl, B1.out⟩


/-- the cells of the table in a block -/
theorem tab_load {w : World} {g : Nat} (h : w.heap[g]? = some (.cells (tabCells 256) 24 (0, 0))) (x : UInt8) : w.cell? ⟨g, x.toNat, none⟩ = some (.int .u32 (num32 (Crc.tab x.toNat))) :=
  row_cell h (tabCells_val x.toNat x.toNat_lt)

theorem bytes_one {w : World} {g : Nat} {t : TypeId} {fr : Nat × Nat} (a : UInt8) (h : w.heap[g]? = some (.cells #[.int .u8 (a.toNat : Int)] t fr)) : Bytes w (.slice (some ⟨g, 0, none⟩) 1 1) [a] :=
  bytes_block h [a] 1 1 rfl (Nat.le_refl _) (fun i hi => by
    obtain rfl : i = 0 := by simpa using hi
    rfl)

attribute [local go_sem ↓] Go.wp_at_zero Go.wp_at_succ

set_option maxRecDepth 100000 in
set_option maxHeartbeats 4000000 in
theorem crcRows_walk (a b : UInt8) (s : BitVec 32) (w : World) :
    Calls Try.prog 7 #[.int .u8 (a.toNat : Int), .int .u8 (b.toNat : Int), .int .u32 (num32 s)] w fun e w' => e = .returned (.bool true) ∧ Below w.heap.size w w' := by
  have hz := zero_tab
  obtain ⟨ab, HAB⟩ : ∃ ab, Hid (a ^^^ b = ab) := ⟨_, rfl⟩
  obtain ⟨ns, HNS⟩ : ∃ ns, Hid (~~~s = ns) := ⟨_, rfl⟩
  obtain ⟨ix, HIX⟩ : ∃ ix, Hid (UInt8.ofNat ns.toNat ^^^ a = ix) := ⟨_, rfl⟩
  obtain ⟨L, HL⟩ : ∃ L, Hid (Crc.look ns a = L) := ⟨_, rfl⟩
  obtain ⟨M, HM⟩ : ∃ M, Hid (Crc.more s [a] = M) := ⟨_, rfl⟩
  have x1 := xor8 a b
  rw [HAB.out] at x1
  have x2 := not32 s
  rw [HNS.out] at x2
  have x3 : bits .xor .u8 (num32 ns % 256) (a.toNat : Int) = (ix.toNat : Int) := by rw [low8, xor8, HIX.out]
  have x3' : bits .xor .u8 (IntKind.u8.wrap (num32 ns)) (a.toNat : Int) = (ix.toNat : Int) := by
    rw [← x3]; congr 1
  have x4 : bits .xor .u32 (num32 (Crc.tab a.toNat)) (num32 (Crc.tab b.toNat)) = num32 (Crc.tab ab.toNat) := by rw [xor32, ← Crc.tab_xor, HAB.out]
  have x5 := shr8 ns
  have x6 : bits .xor .u32 (num32 (ns >>> 8)) (num32 (Crc.tab ix.toNat)) = num32 L := by rw [xor32, ← HL.out]; unfold Crc.look; rw [HIX.out]
  have x7 : bits .xor .u32 IntKind.u32.max (num32 L) = num32 M := by
    rw [not32, ← HM.out, ← HL.out, ← HNS.out, Crc.look_eq]; rfl
  have n1 : (0 : Int) ≤ (a.toNat : Int) := by omega
  have n2 : (0 : Int) ≤ (b.toNat : Int) := by omega
  have n3 : (0 : Int) ≤ (ab.toNat : Int) := by omega
  have n4 : (0 : Int) ≤ (ix.toNat : Int) := by omega
  have m1 : (a.toNat : Int) < 256 := by have := a.toNat_lt; omega
  have m2 : (b.toNat : Int) < 256 := by have := b.toNat_lt; omega
  have m3 : (ab.toNat : Int) < 256 := by have := ab.toNat_lt; omega
  have m4 : (ix.toNat : Int) < 256 := by have := ix.toNat_lt; omega
  go_enter Try.func7, Try.ntmps7
  go_wp2_with (first
        | (go_at_call 9; refine (awake_any _).mono ?_; rintro e w1 ⟨rfl, HB⟩; have B1 := Lib.hid HB; clear HB)
        | (go_at_call 10; refine (table_any _).mono ?_; rintro e w2 ⟨rfl, HB⟩; have B2 := hid_trans B1 HB; clear HB)
        | (refine wpList_store_row rfl 24 _ _ rfl w2.heap.size (tabCells 256) rfl rfl 24 (tabCells 0) (heap_alloc_new _ _) (Try.sizeTab _) (by rw [tabCells_size, tabCells_size]) (tabCells_one _) ?_))
  have T := setRow_heap _ _ _ (tabCells 256) _ _ (heap_alloc_new w2 (.cells (tabCells 0) 24))
  have B3 : Hid (Below w.heap.size w ((w2.alloc (.cells (tabCells 0) 24)).setRow w2.heap.size (tabCells 256))) := below_setRow (B2.out.alloc B2.out.size _) B2.out.size _
  have hsz : ((w2.alloc (.cells (tabCells 0) 24)).setRow w2.heap.size (tabCells 256)).heap.size = w2.heap.size + 1 := by simp
  generalize (w2.alloc (.cells (tabCells 0) 24)).setRow w2.heap.size (tabCells 256) = W at *
  generalize w2.heap.size = G at *
  have c1 := tab_load T a
  have c2 := tab_load T b
  have c3 := tab_load T ab
  have c4 := tab_load T ix
  have HSZ := Lib.hid hsz
  have T' := Lib.hid T
  clear hsz T hz
  go_region_held3 (fun w' => w'.cell? ⟨G, a.toNat, none⟩ = some (.int .u32 (num32 (Crc.tab a.toNat))) ∧ w'.cell? ⟨G, b.toNat, none⟩ = some (.int .u32 (num32 (Crc.tab b.toNat))) ∧ w'.cell? ⟨G, ab.toNat, none⟩ = some (.int .u32 (num32 (Crc.tab ab.toNat))) ∧ w'.cell? ⟨G, ix.toNat, none⟩ = some (.int .u32 (num32 (Crc.tab ix.toNat))))
    (first | (exact ⟨tab_load T3 a, tab_load T3 b, tab_load T3 ab, tab_load T3 ix⟩) | go_keep) (first | (go_at_call 12; refine (more_any s _ [a] ((W.alloc (.cells #[.int .u8 (a.toNat : Int)] 5)).drew) (bytes_one (g := W.heap.size) (t := 5) (fr := (0, 0)) a (heap_alloc_new W _)) (by simp)).mono ?_; rintro e w3 ⟨rfl, HB⟩; rw [HM.out]; have T3 := (HB.block G (Nat.lt_trans (lt_of_block T'.out) (by simp))).trans ((heap_alloc_old W _ (lt_of_block T'.out)).trans T'.out); have B4 := hid_trans B3 (((Below.refl _ _).alloc (Nat.le_refl _) (.cells #[.int .u8 (a.toNat : Int)] 5)).drew.trans (HB.mono (by simp))); clear HB))
  go_wp2
  go_ret
  exact ⟨rfl, B4.out⟩

end Go.Proofs.Ytamhpblmoojabaa
