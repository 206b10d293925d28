/- Walks of the reference's disk: Write. -/
import Derived.Test.YtddcdhmeknkphaaRdskSettle
namespace Go.Proofs.Ytddcdhmeknkphaa
open Go.RowKit

/-- what waits is laid: first what, then whether -/
theorem RDskAt.setW' {w : World} {r bL bW bI : Nat} {s : Dsk.St} (h : RDskAt w r bL bW bI s) {i : Nat} (hi : i < s.size) (b : List UInt8) {a : Option Addr} {c : Nat} (hv : Bytes w (.slice a b.length c) b) (hl : b.length ≤ 1024) :
    RDskAt ((w.setCell ⟨bW, i, none⟩ (.slice a b.length c)).setCell ⟨bI, i, none⟩ (.bool true)) r bL bW bI { s with W := Dsk.St.upd s.W i (some b) } ∧ Chg [r, bL, bW, bI] w ((w.setCell ⟨bW, i, none⟩ (.slice a b.length c)).setCell ⟨bI, i, none⟩ (.bool true)) := by
  have h1 : Chg [bW] w (w.setCell ⟨bW, i, none⟩ (.slice a b.length c)) := (Chg.refl _ _).setCell (.inl (by simp)) _
  have n1 : ∀ k ∈ [bW], NoU8 w k := by intro k hk; simp only [List.mem_singleton] at hk; subst hk; exact h.rowW.no
  have rW1 := h.rowW.set (i := i) hv
  have rL1 : BRow (w.setCell ⟨bW, i, none⟩ (.slice a b.length c)) bL s.size s.L := h.rowL.kept h1 n1 (by simpa using h.ne)
  have i0 : (w.setCell ⟨bW, i, none⟩ (.slice a b.length c)).heap[bI]? = some (.cells (boolCells s.size fun i => (s.W i).isSome) 4 (0, 0)) := (h1.block bI (lt_of_block h.rowI) (by simpa using h.ne_WI.symm)).trans h.rowI
  have h2 : Chg [bI] (w.setCell ⟨bW, i, none⟩ (.slice a b.length c)) ((w.setCell ⟨bW, i, none⟩ (.slice a b.length c)).setCell ⟨bI, i, none⟩ (.bool true)) := (Chg.refl _ _).setCell (.inl (by simp)) _
  have n2 : ∀ k ∈ [bI], NoU8 (w.setCell ⟨bW, i, none⟩ (.slice a b.length c)) k := by
    intro k hk; simp only [List.mem_singleton] at hk; subst hk
    refine noU8_cells i0 fun j x e => ?_
    have hj : j < s.size := by
      have := (Array.getElem?_eq_some_iff.1 e).1
      rw [boolCells_size] at this; exact this
    rw [boolCells_get hj] at e
    cases e
  have t1 := (h1.block r (lt_of_block h.top) (by simpa using h.ne_rW)).trans h.top
  refine ⟨⟨(h2.block r (lt_of_block t1) (by simpa using h.ne_rI)).trans t1, rL1.kept h2 n2 (by simpa using h.ne_LI), ?_, ?_, ?_, h.ne⟩, (h1.mono (by simp)).trans (h2.mono (by simp))⟩
  · show BRow _ bW s.size (fun j => (Dsk.St.upd s.W i (some b) j).getD [])
    rw [upd_getD]
    exact rW1.kept h2 n2 (by simpa using h.ne_WI)
  · show _ = some (Obj.cells (boolCells s.size fun j => (Dsk.St.upd s.W i (some b) j).isSome) _ _)
    rw [upd_isSome, heap_setCell_same _ _ _ _ _ _ i0, boolCells_set]; rfl
  · refine ⟨h.ok.lo, h.ok.hi, h.ok.f0, h.ok.f1, h.ok.f2, h.ok.offL, fun k hk => ?_, h.ok.lenL, fun k c hc => ?_⟩
    · have hk' : s.size ≤ k := hk
      show Dsk.St.upd s.W i (some b) k = none
      rw [Dsk.St.upd_other _ _ _ _ (by omega)]; exact h.ok.offW k hk'
    · have hc' : Dsk.St.upd s.W i (some b) k = some c := hc
      by_cases e : k = i
      · subst e
        rw [Dsk.St.upd_same] at hc'
        cases hc'
        exact hl
      · rw [Dsk.St.upd_other _ _ _ _ e] at hc'; exact h.ok.lenW k c hc'

/-- what the slots hold while a sector is written -/
def rwSpec (r bW n : Nat) (i0 : Nat) (arg : Value) (b : List UInt8) (base : Nat) (L : Nat → Bool) (i : Nat) (v : Value) (w : World) : Prop :=
  match i with
  | 0 => v = .pointer (some ⟨r, 0, none⟩)
  | 1 => v = .pointer (some ⟨r, 0, none⟩)
  | 2 => v = .pointer (some ⟨r, 1, none⟩)
  | 3 => v = .slice (some ⟨bW, 0, none⟩) n n
  | 4 => v = .int .i64 (i0 : Int)
  | 5 => L 7 = true ∨ ∃ a c, v = .slice a ([] : List UInt8).length c ∧ w.ownsRow base 5 1 v ([] : List UInt8).length (byteVals [])
  | 6 => v = arg
  | 7 => L 9 = true ∨ ∃ a c, v = .slice a b.length c ∧ Bytes w (.slice a b.length c) b
  | 8 => v = .pointer (some ⟨bW, i0, none⟩)
  | _ => True

def rwJ (bW i0 : Nat) (b : List UInt8) (w0 : World) (L : Nat → Bool) (w : World) : Prop :=
  if L 9 = true then ∃ wx a c, Below w0.heap.size w0 wx ∧ Bytes wx (.slice a b.length c) b ∧ w = wx.setCell ⟨bW, i0, none⟩ (.slice a b.length c) else Below w0.heap.size w0 w

theorem rwSpec_new {r bW n i0 : Nat} {arg : Value} {b : List UInt8} {base : Nat} {L : Nat → Bool} {i j : Nat} {u : Value} {w w' : World} (hb : Below w.heap.size w w') (h : rwSpec r bW n i0 arg b base L j u w) : rwSpec r bW n i0 arg b base (fun k => k == i || L k) j u w' := by
  match j, h with
  | 0, h => exact h
  | 1, h => exact h
  | 2, h => exact h
  | 3, h => exact h
  | 4, h => exact h
  | 5, h =>
    rcases h with h | ⟨a, c, e, ho⟩
    · exact .inl (by simp [h])
    · exact .inr ⟨a, c, e, Dk.own_cut ho hb⟩
  | 6, h => exact h
  | 7, h =>
    rcases h with h | ⟨a, c, e, hb'⟩
    · exact .inl (by simp [h])
    · exact .inr ⟨a, c, e, hb'.below hb⟩
  | 8, h => exact h
  | k + 9, h => trivial

theorem rwSpec_app {r bW n i0 : Nat} {arg : Value} {b : List UInt8} {base : Nat} {L : Nat → Bool} {j : Nat} {u : Value} {w w' : World} (hj : j ≠ 7) (h : rwSpec r bW n i0 arg b base L j u w) : rwSpec r bW n i0 arg b base (fun k => k == 7 || L k) j u w' := by
  match j, hj, h with
  | 0, _, h => exact h
  | 1, _, h => exact h
  | 2, _, h => exact h
  | 3, _, h => exact h
  | 4, _, h => exact h
  | 5, _, h => exact .inl (by simp)
  | 6, _, h => exact h
  | 7, hj, h => exact absurd rfl hj
  | 8, _, h => exact h
  | k + 9, _, h => trivial

theorem rwSpec_end {r bW n i0 : Nat} {arg : Value} {b : List UInt8} {base : Nat} {L : Nat → Bool} {j : Nat} {u : Value} {w w' : World} (h7 : L 7 = true) (h : rwSpec r bW n i0 arg b base L j u w) : rwSpec r bW n i0 arg b base (fun k => k == 9 || L k) j u w' := by
  match j, h with
  | 0, h => exact h
  | 1, h => exact h
  | 2, h => exact h
  | 3, h => exact h
  | 4, h => exact h
  | 5, h => exact .inl (by simp [h7])
  | 6, h => exact h
  | 7, h => exact .inl (by simp)
  | 8, h => exact h
  | k + 9, h => trivial

theorem rwJ_new {bW i0 : Nat} {b : List UInt8} {w0 : World} {L : Nat → Bool} {i : Nat} {w w' : World} (hi : i ≠ 9) (h9 : L 9 = false) (h : rwJ bW i0 b w0 L w) (hb : Below w0.heap.size w w') : rwJ bW i0 b w0 (fun k => k == i || L k) w' := by
  unfold rwJ at *
  have e : ((9 : Nat) == i || L 9) = false := by rw [beq_eq_false_iff_ne.2 (Ne.symm hi), Bool.false_or, h9]
  rw [h9] at h
  simp only [e]
  exact Below.trans h hb

set_option maxRecDepth 100000 in
set_option maxHeartbeats 4000000 in
theorem rwrite_any {w : World} {r bL bW bI : Nat} {s : Dsk.St} (h : RDskAt w r bL bW bI s) (n : Int) (v : Value) (b : List UInt8) (hb : Bytes w v b) :
    Calls Try.prog 33 #[.pointer (some ⟨r, 0, none⟩), .int .i64 n, v] w (RTurns w r bL bW bI (s.write n b).2 (.int .i64 (s.write n b).1)) := by
  obtain ⟨a, cap, rfl, -, -⟩ := hb.opened
  obtain ⟨-, -, -, c3, -, -⟩ := h.cells
  have hI := ris_any h n
  cases hdn : s.down with
  | true =>
    rw [hdn] at c3
    have e : s.write n b = (40, s) := by unfold Dsk.St.write; rw [hdn]; rfl
    rw [e]
    have H := Lib.hid h
    clear h e hb hdn
    go_enter Try.func33, Try.ntmps33
    go_wp2_with fail
    go_ret
    exact ⟨rfl, H.out, Chg.refl _ _⟩
  | false =>
    rw [hdn] at c3
    by_cases hbad : s.inside n = false ∨ 1024 < b.length
    · have e : s.write n b = (41, s) := by
        unfold Dsk.St.write
        rcases hbad with h1 | h1
        · rw [hdn, h1]; rfl
        · rw [hdn, decide_eq_true h1]; simp
      rw [e]
      have H := Lib.hid h
      have hcase : s.inside n = false ∨ (s.inside n = true ∧ (1024 : Int) < (b.length : Int)) := by
        cases hin : s.inside n with
        | false => exact .inl rfl
        | true =>
          refine .inr ⟨rfl, ?_⟩
          rcases hbad with h1 | h1
          · rw [hin] at h1; cases h1
          · omega
      generalize s.inside n = isn at *
      clear h e hb hdn hbad
      rcases hcase with rfl | ⟨rfl, hl⟩
      all_goals
        go_enter Try.func33, Try.ntmps33
        go_wp2_with fail
        refine hI.mono ?_
        rintro e w' ⟨rfl, rfl⟩
        go_wp2_with fail
        go_ret
        exact ⟨rfl, H.out, Chg.refl _ _⟩
    · have hin : s.inside n = true := by
        cases hin : s.inside n with
        | true => rfl
        | false => exact absurd (.inl hin) hbad
      have hl : ¬ 1024 < b.length := fun h1 => hbad (.inr h1)
      have hl1 : ¬ (1024 : Int) < (b.length : Int) := by omega
      rw [hin] at hI
      have hA := ract_any h
      cases hbk : s.blocked with
      | true =>
        have e : s.write n b = (40, s.act) := by unfold Dsk.St.write; rw [hdn, hin, hbk]; simp [hl]
        rw [e]
        rw [hbk] at hA
        simp only [Bool.not_true] at hA
        clear h e hin hdn hl hb hbk hbad
        go_enter Try.func33, Try.ntmps33
        go_wp2_with fail
        refine hI.mono ?_
        rintro e w' ⟨rfl, rfl⟩
        go_wp2_with fail
        refine hA.mono ?_
        rintro e w1 ⟨rfl, hD, hC⟩
        have D1 := Lib.hid hD
        have C1 := Lib.hid hC
        clear hA hI hD hC
        go_wp2_with fail
        go_ret
        exact ⟨rfl, D1.out, C1.out⟩
      | false =>
        have e : s.write n b = (0, { s.act with W := Dsk.St.upd s.W n.toNat (some b) }) := by unfold Dsk.St.write; rw [hdn, hin, hbk]; simp [hl]
        rw [e]
        rw [hbk] at hA
        simp only [Bool.not_false] at hA
        have ht : ({ s.act with W := Dsk.St.upd s.W n.toNat (some b) } : Dsk.St) = { s.act with W := Dsk.St.upd s.act.W n.toNat (some b) } := by rw [Dsk.St.act_W]
        obtain ⟨n0, n1⟩ := Dsk.St.inside_iff.1 hin
        obtain ⟨i, rfl⟩ := Int.eq_ofNat_of_zero_le n0
        rw [Int.toNat_natCast] at *
        have hi2 : i < s.act.size := by rw [Dsk.St.act_size]; omega
        have hz : (s.act.size : Int) ≤ 4096 := by have := (Dsk.St.ok_act h.ok).hi; omega
        have HB := Lib.hid hb
        have HN := Lib.hid h.no
        simp only [ht]
        generalize s.act = s1 at *
        obtain ⟨t, HT⟩ : ∃ t : Dsk.St, Hid (({ s1 with W := Dsk.St.upd s1.W i (some b) } : Dsk.St) = t) := ⟨_, rfl⟩
        rw [HT.out]
        have HL := Lib.hid hl
        have HI2 := Lib.hid hi2
        have l0 : (0 : Int) ≤ (i : Int) := by omega
        have l1 : (i : Int) < (s1.size : Int) := by omega
        clear h e hin hdn hl hb hbk ht hbad n1 hi2
        go_enter Try.func33, Try.ntmps33
        go_wp2_with fail
        refine hI.mono ?_
        rintro e w' ⟨rfl, rfl⟩
        go_wp2_with fail
        refine hA.mono ?_
        rintro e w1 ⟨rfl, hD, hC⟩
        have D1 := Lib.hid hD
        have C1 := Lib.hid hC
        have hb1 := Lib.hid (HB.out.off hC HN.out)
        clear hA hI hD hC
        go_wp2_with fail
        refine wp_region_spec (by kernel_rfl) (low_of_check (by kernel_rfl)) (rwSpec r bW s1.size i (.slice a b.length cap) b w1.heap.size) (rwJ bW i b w1) (by kernel_rfl) (by exact (Below.refl _ _).drew) ?_ ?_
        · intro L st wx k o g ho hl he
          have hi : k < 10 := (Array.getElem?_eq_some_iff.1 ho).1
          have hbelk : L 9 = false → Below w1.heap.size w1 wx := by
            intro n9
            have := g.world
            unfold rwJ at this
            rw [n9] at this
            exact this
          rcases (by omega : k = 0 ∨ k = 1 ∨ k = 2 ∨ k = 3 ∨ k = 4 ∨ k = 5 ∨ k = 6 ∨ k = 7 ∨ k = 8 ∨ k = 9) with rfl | rfl | rfl | rfl | rfl | rfl | rfl | rfl | rfl | rfl
          · obtain rfl := Option.some.inj ho
            have n9 := g.not 12 9 0 hl (by kernel_rfl)
            have e0 : st.eval (.tmp 0) = .pointer (some ⟨r, 0, none⟩) := (g.far 0 (by kernel_rfl)).trans rfl
            have f0 := slot_get e0
            exact way_val (wanted_none rfl) (.pointer (some ⟨r, 0, none⟩)) (by simp [execOp, go_sem, Act.eval, f0]) rfl (fun _ _ _ _ h => rwSpec_new (Below.refl _ _) h) (rwJ_new (by decide) n9 g.world (Below.refl _ _))
          · obtain rfl := Option.some.inj ho
            have n9 := g.not 12 9 1 hl (by kernel_rfl)
            have e27 : st.eval (.tmp 27) = .pointer (some ⟨r, 0, none⟩) := g.val 0 _ 27 rfl rfl (edge he 0 (by kernel_rfl))
            have f27 := slot_get e27
            exact way_val (wanted_none rfl) (.pointer (some ⟨r, 0, none⟩)) (by simp [execOp, go_sem, Act.eval, f27]) rfl (fun _ _ _ _ h => rwSpec_new (Below.refl _ _) h) (rwJ_new (by decide) n9 g.world (Below.refl _ _))
          · obtain rfl := Option.some.inj ho
            have n9 := g.not 12 9 2 hl (by kernel_rfl)
            have e28 : st.eval (.tmp 28) = .pointer (some ⟨r, 0, none⟩) := g.val 1 _ 28 rfl rfl (edge he 1 (by kernel_rfl))
            have f28 := slot_get e28
            exact way_val (wanted_none rfl) (.pointer (some ⟨r, 1, none⟩)) (by simp [execOp, go_sem, Act.eval, f28]) rfl (fun _ _ _ _ h => rwSpec_new (Below.refl _ _) h) (rwJ_new (by decide) n9 g.world (Below.refl _ _))
          · obtain rfl := Option.some.inj ho
            have n9 := g.not 12 9 3 hl (by kernel_rfl)
            have e29 : st.eval (.tmp 29) = .pointer (some ⟨r, 1, none⟩) := g.val 2 _ 29 rfl rfl (edge he 2 (by kernel_rfl))
            have f29 := slot_get e29
            have c1 := (D1.out.below (hbelk n9)).cells.2.1
            exact way_val (wanted_none rfl) (.slice (some ⟨bW, 0, none⟩) s1.size s1.size) (by simp [execOp, go_sem, Act.eval, f29, c1]) rfl (fun _ _ _ _ h => rwSpec_new (Below.refl _ _) h) (rwJ_new (by decide) n9 g.world (Below.refl _ _))
          · obtain rfl := Option.some.inj ho
            have n9 := g.not 12 9 4 hl (by kernel_rfl)
            have e1 : st.eval (.tmp 1) = .int .i64 (i : Int) := (g.far 1 (by kernel_rfl)).trans rfl
            have f1 := slot_get e1
            exact way_val (wanted_none rfl) (.int .i64 (i : Int)) (by simp [execOp, go_sem, Act.eval, f1]) rfl (fun _ _ _ _ h => rwSpec_new (Below.refl _ _) h) (rwJ_new (by decide) n9 g.world (Below.refl _ _))
          · obtain rfl := Option.some.inj ho
            have n9 := g.not 12 9 5 hl (by kernel_rfl)
            have hbel := hbelk n9
            refine .inl ⟨wanted_none rfl, wp_val (v := .slice (some ⟨wx.heap.size, 0, none⟩) 0 0) (w' := wx.alloc (.cells #[] 5)) (by simp [execOp, go_sem]) ⟨_, rfl, .inr ⟨_, _, rfl, ?_⟩, fun _ _ _ _ h => rwSpec_new ((Below.refl _ _).alloc (Nat.le_refl _) _) h, rwJ_new (by decide) n9 g.world ((Below.refl _ _).alloc hbel.size _)⟩⟩
            have := Dk.own_none8 wx 5
            exact Dk.own_mono this hbel.size
          · obtain rfl := Option.some.inj ho
            have n9 := g.not 12 9 6 hl (by kernel_rfl)
            have e2 : st.eval (.tmp 2) = (.slice a b.length cap) := (g.far 2 (by kernel_rfl)).trans rfl
            have f2 := slot_get e2
            exact way_val (wanted_none rfl) (.slice a b.length cap) (by simp [execOp, go_sem, Act.eval, f2]) rfl (fun _ _ _ _ h => rwSpec_new (Below.refl _ _) h) (rwJ_new (by decide) n9 g.world (Below.refl _ _))
          · obtain rfl := Option.some.inj ho
            have n9 := g.not 12 9 7 hl (by kernel_rfl)
            have hbel := hbelk n9
            have e33 : st.eval (.tmp 33) = (.slice a b.length cap) := g.val 6 _ 33 rfl rfl (edge he 6 (by kernel_rfl))
            rcases g.val 5 _ 32 rfl rfl (edge he 5 (by kernel_rfl)) with h7 | ⟨a5, c5, e32, ho5⟩
            · rw [hl] at h7; cases h7
            rw [e32] at ho5
            obtain ⟨av, L7, cap7, w7, hL7, hr7, ho7, hb7⟩ := Dk.own_append ho5 (Below.refl _ _) (hb1.out.below hbel) (by have := HL.out; simp; omega) hbel.size
            subst hL7
            have hr := hr7.out
            simp only [List.nil_append] at hr ho7
            exact .inl ⟨wanted_none rfl, Lib.wp_append_run _ (.tmp 32) (.tmp 33) _ _ rfl _ _ e32 e33 _ _ hr ⟨_, rfl, .inr ⟨av, cap7, rfl, own_bytes ho7⟩, fun j _ _ hj h => rwSpec_app hj h, rwJ_new (by decide) n9 g.world hb7.out⟩⟩
          · obtain rfl := Option.some.inj ho
            have n9 := g.not 12 9 8 hl (by kernel_rfl)
            have e30 : st.eval (.tmp 30) = (.slice (some ⟨bW, 0, none⟩) s1.size s1.size) := g.val 3 _ 30 rfl rfl (edge he 3 (by kernel_rfl))
            have f30 := slot_get e30
            have e31 : st.eval (.tmp 31) = (.int .i64 (i : Int)) := g.val 4 _ 31 rfl rfl (edge he 4 (by kernel_rfl))
            have f31 := slot_get e31
            exact way_val (wanted_none rfl) (.pointer (some ⟨bW, i, none⟩)) (by simp [execOp, go_sem, Act.eval, f30, f31, l0, l1]) rfl (fun _ _ _ _ h => rwSpec_new (Below.refl _ _) h) (rwJ_new (by decide) n9 g.world (Below.refl _ _))
          · obtain rfl := Option.some.inj ho
            have e35 : st.eval (.tmp 35) = .pointer (some ⟨bW, i, none⟩) := g.val 8 _ 35 rfl rfl (edge he 8 (by kernel_rfl))
            have f35 := slot_get e35
            rcases g.val 7 _ 34 rfl rfl (edge he 7 (by kernel_rfl)) with h9 | ⟨a7, c7, e34, b34⟩
            · rw [hl] at h9; cases h9
            have f34 := slot_get e34
            have hbel := hbelk hl
            obtain ⟨aW, cW, gW, fW, -⟩ := (D1.out.below hbel).rowW.cell HI2.out
            refine .inl ⟨wanted_none rfl, ?_⟩
            unfold Oper.wp
            simp [execOp, go_sem, Act.eval, f35, f34, gW, fW]
            exact ⟨⟨undef, trivial⟩, fun j u _ _ h => rwSpec_end (edge he 7 (by kernel_rfl)) h, by unfold rwJ; rw [if_pos (by simp)]; exact ⟨wx, a7, c7, hbel, b34, rfl⟩⟩
        · intro L st wz g hall
          have hJ := g.world
          unfold rwJ at hJ
          rw [if_pos (hall 9 (by decide))] at hJ
          obtain ⟨wx, a7, c7, hbel, b34, rfl⟩ := hJ
          have DX := D1.out.below hbel
          obtain ⟨x1, x2⟩ := DX.setW' HI2.out b b34 (by have := HL.out; omega)
          rw [HT.out] at x1
          have X1 := Lib.hid x1
          have X2 := Lib.hid ((Chg.of_below (fs := [r, bL, bW, bI]) hbel).trans x2)
          obtain ⟨-, -, k2, -, -, -⟩ := DX.cells
          obtain ⟨g1, fI⟩ := DX.isAt HI2.out
          have ne3 := DX.ne_WI
          have ne5 := DX.ne_rW
          have ne6 := DX.ne_rI
          obtain ⟨f, hf, rfl⟩ := g.shape_fn (by kernel_rfl)
          rw [show dsts _ = [27, 28, 29, 30, 31, 32, 33, 34, 35] from by kernel_rfl]
          clear g hall hf hbel DX x1 x2
          simp only [List.map_cons, List.map_nil, lay2, Act.put, List.setIfInBounds_toArray, List.set_cons_succ, List.set_cons_zero]
          go_wp2_with fail
          go_ret
          exact ⟨rfl, X1.out, C1.out.trans X2.out⟩

end Go.Proofs.Ytddcdhmeknkphaa
