/- Walks of package disk: Read, Write. -/
import Derived.Test.YtddcdhmeknkphaaDskWalk
import Derived.Test.YtddcdhmeknkphaaClone
import Derived.Test.YtddcdhmeknkphaaRegSp
namespace Go.Proofs.Ytddcdhmeknkphaa
open Go.RowKit

/-- an answer of bytes and an error's number -/
def BytesAns (l : List UInt8) (n : Int) (w : World) (e : Ending) (w' : World) : Prop :=
  ∃ a c, e = .returned (.tuple #[.slice a l.length c, .int .i64 n]) ∧ Bytes w' (.slice a l.length c) l ∧ Below w.heap.size w w'

set_option maxHeartbeats 1000000 in
theorem read_any {w : World} {d bl bw : Nat} {s : Dsk.St} (h : DskAt w d bl bw s) (n : Int) :
    Calls Try.prog 17 #[.pointer (some ⟨d, 0, none⟩), .int .i64 n] w (BytesAns (if s.use n = 0 then s.look n.toNat else []) (s.use n) w) := by
  by_cases hu : s.use n = 0
  · have hin : s.inside n = true := by
      unfold Dsk.St.use at hu
      split at hu
      · cases hu
      · split at hu
        · assumption
        · cases hu
    rw [if_pos hu, hu]
    have hU := use_any h n
    rw [hu] at hU
    have hH := holds_any h hin
    have hl := Dsk.St.look_len h.ok n.toNat
    generalize (if (s.W n.toNat).isSome = true then bw else bl) = bm at hH
    generalize s.look n.toNat = l at *
    have HL := Lib.hid hl
    clear h hu hin hl
    go_enter Try.func17, Try.ntmps17
    go_wp2_with fail
    refine hU.mono ?_
    rintro e w' ⟨rfl, rfl⟩
    go_wp2_with fail
    refine hH.mono ?_
    rintro e w1 ⟨v, rfl, hb, hB⟩
    have B1 := Lib.hid hB
    clear hB hH hU
    go_wp2_with fail
    refine (Dk.clone_any v l w1 hb (by have := HL.out; omega)).mono ?_
    rintro e w2 ⟨a2, c2, rfl, hb2, -, hB⟩
    have B2 := hid_trans B1 hB
    clear hB
    go_wp2_with fail
    go_ret2
    exact ⟨a2, c2, rfl, hb2, B2.out⟩
  · rw [if_neg hu]
    have hU := use_any h n
    generalize s.use n = u at *
    have nz : (u == 0) = false := beq_eq_false_iff_ne.2 hu
    clear h
    go_enter Try.func17, Try.ntmps17
    go_wp2_with fail
    refine hU.mono ?_
    rintro e w' ⟨rfl, rfl⟩
    go_wp2_with fail
    go_ret2
    exact ⟨none, 0, rfl, .nil _, Below.refl _ _⟩

/-- what the slots hold while a sector is written -/
def wrSpec (d bw : Nat) (n : Int) (arg : Value) (b : List UInt8) (base : Nat) (L : Nat → Bool) (i : Nat) (v : Value) (w : World) : Prop :=
  match i with
  | 0 => v = .pointer (some ⟨d, 0, none⟩)
  | 1 => v = .pointer (some ⟨d, 0, none⟩)
  | 2 => v = .pointer (some ⟨d, 2, none⟩)
  | 3 => v = .map (some bw)
  | 4 => v = .int .i64 n
  | 5 => L 7 = true ∨ ∃ a c, v = .slice a ([] : List UInt8).length c ∧ w.ownsRow base 5 1 v ([] : List UInt8).length (byteVals [])
  | 6 => v = arg
  | 7 => ∃ a c, v = .slice a b.length c ∧ Bytes w (.slice a b.length c) b
  | _ => True

def wrJ (d bl bw : Nat) (t : Dsk.St) (w0 : World) (L : Nat → Bool) (w : World) : Prop :=
  if L 8 = true then DskAt w d bl bw t ∧ Chg [d, bl, bw] w0 w else Below w0.heap.size w0 w

theorem wrSpec_new {d bw : Nat} {n : Int} {arg : Value} {b : List UInt8} {base : Nat} {L : Nat → Bool} {i j : Nat} {u : Value} {w w' : World} (hb : Below w.heap.size w w') (h : wrSpec d bw n arg b base L j u w) : wrSpec d bw n arg b base (fun k => k == i || L k) j u w' := by
  match j, h with
  | 0, h => exact h
  | 1, h => exact h
  | 2, h => exact h
  | 3, h => exact h
  | 4, h => exact h
  | 5, h =>
    rcases h with h | ⟨a, c, e, ho⟩
    · exact .inl (by simp [h])
    · exact .inr ⟨a, c, e, Dk.own_cut ho hb⟩
  | 6, h => exact h
  | 7, h =>
    obtain ⟨a, c, e, hb'⟩ := h
    exact ⟨a, c, e, hb'.below hb⟩
  | k + 8, h => trivial

theorem wrSpec_app {d bw : Nat} {n : Int} {arg : Value} {b : List UInt8} {base : Nat} {L : Nat → Bool} {j : Nat} {u : Value} {w w' : World} (hj : j ≠ 7) (h : wrSpec d bw n arg b base L j u w) : wrSpec d bw n arg b base (fun k => k == 7 || L k) j u w' := by
  match j, hj, h with
  | 0, _, h => exact h
  | 1, _, h => exact h
  | 2, _, h => exact h
  | 3, _, h => exact h
  | 4, _, h => exact h
  | 5, _, h => exact .inl (by simp)
  | 6, _, h => exact h
  | 7, hj, h => exact absurd rfl hj
  | k + 8, _, h => trivial

theorem wrSpec_end {d bw : Nat} {n : Int} {arg : Value} {b : List UInt8} {base : Nat} {L : Nat → Bool} {i j : Nat} {u : Value} {w w' : World} {fs : List Nat} (hc : Chg fs w w') (hn : ∀ k ∈ fs, NoU8 w k) (h7 : L 7 = true) (h : wrSpec d bw n arg b base L j u w) : wrSpec d bw n arg b base (fun k => k == i || L k) j u w' := by
  match j, h with
  | 0, h => exact h
  | 1, h => exact h
  | 2, h => exact h
  | 3, h => exact h
  | 4, h => exact h
  | 5, h => exact .inl (by simp [h7])
  | 6, h => exact h
  | 7, h =>
    obtain ⟨a, c, e, hb'⟩ := h
    exact ⟨a, c, e, hb'.off hc hn⟩
  | k + 8, h => trivial

theorem wrJ_keep {d bl bw : Nat} {t : Dsk.St} {w0 : World} {L : Nat → Bool} {i : Nat} {w : World} (hi : i ≠ 8) (h : wrJ d bl bw t w0 L w) : wrJ d bl bw t w0 (fun k => k == i || L k) w := by
  unfold wrJ at *
  have e : ((8 : Nat) == i || L 8) = L 8 := by rw [beq_eq_false_iff_ne.2 (Ne.symm hi), Bool.false_or]
  simp only [e]
  exact h
theorem wrJ_new {d bl bw : Nat} {t : Dsk.St} {w0 : World} {L : Nat → Bool} {i : Nat} {w w' : World} (hi : i ≠ 8) (h8 : L 8 = false) (h : wrJ d bl bw t w0 L w) (hb : Below w0.heap.size w w') : wrJ d bl bw t w0 (fun k => k == i || L k) w' := by
  unfold wrJ at *
  have e : ((8 : Nat) == i || L 8) = false := by rw [beq_eq_false_iff_ne.2 (Ne.symm hi), Bool.false_or, h8]
  rw [h8] at h
  simp only [e]
  exact Below.trans h hb

/-- what waits is laid anew -/
theorem DskAt.lay {w : World} {d bl bw : Nat} {s : Dsk.St} (h : DskAt w d bl bw s) {n : Int} (hn : s.inside n = true) {v : Value} {b : List UInt8} (hv : Bytes w v b) (hb : b.length ≤ 1024) :
    ∃ w', (Instr.mapUpdate 59 (.map (some bw)) (.int .i64 n) v).run Try.prog w = .ok () w' ∧ DskAt w' d bl bw { s with W := Dsk.St.upd s.W n.toNat (some b) } ∧ Chg [bw] w w' := by
  obtain ⟨n0, n1⟩ := Dsk.St.inside_iff.1 hn
  have hi := h.ok.hi
  obtain ⟨w', r, m, c⟩ := h.waits.store n0 (by omega) hv
  rw [ext_upd _ n0] at m
  have hno : ∀ k ∈ [bw], NoU8 w k := fun k hk => h.no k (by simp only [List.mem_singleton] at hk; subst hk; simp)
  obtain ⟨F, hF, h1, h2⟩ := h.lasts
  refine ⟨w', r, ⟨(c.block d (lt_of_block h.top) (by simpa using h.ne_w)).trans h.top, ⟨F, hF.kept c hno (by simpa using h.ne), h1, h2⟩, m, ?_, h.ne⟩, c⟩
  refine ⟨h.ok.lo, h.ok.hi, h.ok.f0, h.ok.f1, h.ok.f2, h.ok.offL, fun k hk => ?_, h.ok.lenL, fun k c hc => ?_⟩
  · simp only at hk ⊢
    rw [Dsk.St.upd_other _ _ _ _ (by omega)]; exact h.ok.offW k hk
  · simp only at hc
    unfold Dsk.St.upd at hc
    split at hc
    · cases hc; exact hb
    · exact h.ok.lenW k c hc

set_option maxRecDepth 100000 in
set_option maxHeartbeats 4000000 in
theorem write_any {w : World} {d bl bw : Nat} {s : Dsk.St} (h : DskAt w d bl bw s) (n : Int) (v : Value) (b : List UInt8) (hb : Bytes w v b) :
    Calls Try.prog 12 #[.pointer (some ⟨d, 0, none⟩), .int .i64 n, v] w (Turns w d bl bw (s.write n b).2 (.int .i64 (s.write n b).1)) := by
  obtain ⟨a, cap, rfl, -, -⟩ := hb.opened
  have hU := use_any h n
  by_cases hu : s.use n = 0
  · have hdn : s.down = false := by
      unfold Dsk.St.use at hu
      split at hu
      · cases hu
      · rename_i hd; simpa using hd
    have hin : s.inside n = true := by
      unfold Dsk.St.use at hu
      rw [hdn] at hu
      simp only [Bool.false_eq_true, if_false] at hu
      split at hu
      · assumption
      · cases hu
    rw [hu] at hU
    by_cases hl : 1024 < b.length
    · have e : s.write n b = (41, s) := by unfold Dsk.St.write; rw [hdn, hin]; simp [hl]
      rw [e]
      have hl1 : (1024 : Int) < (b.length : Int) := by omega
      have H := Lib.hid h
      clear h e hu hin hdn hl hb
      go_enter Try.func12, Try.ntmps12
      go_wp2_with fail
      refine hU.mono ?_
      rintro e w' ⟨rfl, rfl⟩
      go_wp2_with fail
      go_ret
      exact ⟨rfl, H.out, Chg.refl _ _⟩
    · have hl1 : ¬ (1024 : Int) < (b.length : Int) := by omega
      have hA := act_any h
      cases hbk : s.blocked with
      | true =>
        have e : s.write n b = (40, s.act) := by unfold Dsk.St.write; rw [hdn, hin, hbk]; simp [hl]
        rw [e]
        rw [hbk] at hA
        clear h e hu hin hdn hl hb hbk
        go_enter Try.func12, Try.ntmps12
        go_wp2_with fail
        refine hU.mono ?_
        rintro e w' ⟨rfl, rfl⟩
        go_wp2_with fail
        refine hA.mono ?_
        rintro e w1 ⟨rfl, hD, hC⟩
        have D1 := Lib.hid hD
        have C1 := Lib.hid hC
        clear hA hU hD hC
        go_wp2_with fail
        go_ret
        exact ⟨rfl, D1.out, C1.out⟩
      | false =>
        have e : s.write n b = (0, { s.act with W := Dsk.St.upd s.W n.toNat (some b) }) := by unfold Dsk.St.write; rw [hdn, hin, hbk]; simp [hl]
        rw [e]
        rw [hbk] at hA
        have ht : ({ s.act with W := Dsk.St.upd s.W n.toNat (some b) } : Dsk.St) = { s.act with W := Dsk.St.upd s.act.W n.toNat (some b) } := by rw [Dsk.St.act_W]
        have hin2 : s.act.inside n = true := by
          rw [Dsk.St.inside_iff] at hin ⊢
          rw [Dsk.St.act_size]; exact hin
        have HB := Lib.hid hb
        have HN := Lib.hid h.no
        simp only [ht]
        generalize s.act = s1 at *
        obtain ⟨t, HT⟩ : ∃ t : Dsk.St, Hid (({ s1 with W := Dsk.St.upd s1.W n.toNat (some b) } : Dsk.St) = t) := ⟨_, rfl⟩
        rw [HT.out]
        have HL := Lib.hid hl
        clear h e hu hin hdn hl hb hbk ht
        go_enter Try.func12, Try.ntmps12
        go_wp2_with fail
        refine hU.mono ?_
        rintro e w' ⟨rfl, rfl⟩
        go_wp2_with fail
        refine hA.mono ?_
        rintro e w1 ⟨rfl, hD, hC⟩
        have D1 := Lib.hid hD
        have C1 := Lib.hid hC
        have hb1 := Lib.hid (HB.out.off hC HN.out)
        clear hA hU hD hC
        go_wp2_with fail
        refine wp_region_spec (by kernel_rfl) (low_of_check (by kernel_rfl)) (wrSpec d bw n (.slice a b.length cap) b w1.heap.size) (wrJ d bl bw t w1) (by kernel_rfl) (by exact (Below.refl _ _).drew) ?_ ?_
        · intro L st wx i o g ho hl he
          have hi : i < 9 := (Array.getElem?_eq_some_iff.1 ho).1
          rcases (by omega : i = 0 ∨ i = 1 ∨ i = 2 ∨ i = 3 ∨ i = 4 ∨ i = 5 ∨ i = 6 ∨ i = 7 ∨ i = 8) with rfl | rfl | rfl | rfl | rfl | rfl | rfl | rfl | rfl
          · obtain rfl := Option.some.inj ho
            have e0 : st.eval (.tmp 0) = (.pointer (some ⟨d, 0, none⟩)) := (g.far 0 (by kernel_rfl)).trans rfl
            have f0 := slot_get e0
            exact way_val (wanted_none rfl) (.pointer (some ⟨d, 0, none⟩)) (by simp [execOp, go_sem, Act.eval, f0]) rfl (fun _ _ _ _ h => wrSpec_new (Below.refl _ _) h) (wrJ_keep (by decide) g.world)
          · obtain rfl := Option.some.inj ho
            have e23 : st.eval (.tmp 23) = (.pointer (some ⟨d, 0, none⟩)) := g.val 0 _ 23 rfl rfl (edge he 0 (by kernel_rfl))
            have f23 := slot_get e23
            exact way_val (wanted_none rfl) (.pointer (some ⟨d, 0, none⟩)) (by simp [execOp, go_sem, Act.eval, f23]) rfl (fun _ _ _ _ h => wrSpec_new (Below.refl _ _) h) (wrJ_keep (by decide) g.world)
          · obtain rfl := Option.some.inj ho
            have e24 : st.eval (.tmp 24) = (.pointer (some ⟨d, 0, none⟩)) := g.val 1 _ 24 rfl rfl (edge he 1 (by kernel_rfl))
            have f24 := slot_get e24
            exact way_val (wanted_none rfl) (.pointer (some ⟨d, 2, none⟩)) (by simp [execOp, go_sem, Act.eval, f24]) rfl (fun _ _ _ _ h => wrSpec_new (Below.refl _ _) h) (wrJ_keep (by decide) g.world)
          · obtain rfl := Option.some.inj ho
            have e25 : st.eval (.tmp 25) = (.pointer (some ⟨d, 2, none⟩)) := g.val 2 _ 25 rfl rfl (edge he 2 (by kernel_rfl))
            have f25 := slot_get e25
            have n8 := g.not 10 8 3 hl (by kernel_rfl)
            have hbel : Below w1.heap.size w1 wx := by
              have := g.world
              unfold wrJ at this
              rw [n8] at this
              exact this
            have c2 : wx.cell? ⟨d, 2, none⟩ = some (.map (some bw)) := (D1.out.below hbel).cells.2.2.1
            exact way_val (wanted_none rfl) (.map (some bw)) (by simp [execOp, go_sem, Act.eval, f25, c2]) rfl (fun _ _ _ _ h => wrSpec_new (Below.refl _ _) h) (wrJ_keep (by decide) g.world)
          · obtain rfl := Option.some.inj ho
            have e1 : st.eval (.tmp 1) = (.int .i64 n) := (g.far 1 (by kernel_rfl)).trans rfl
            have f1 := slot_get e1
            exact way_val (wanted_none rfl) (.int .i64 n) (by simp [execOp, go_sem, Act.eval, f1]) rfl (fun _ _ _ _ h => wrSpec_new (Below.refl _ _) h) (wrJ_keep (by decide) g.world)
          · obtain rfl := Option.some.inj ho
            have n8 := g.not 10 8 5 hl (by kernel_rfl)
            have hbel : Below w1.heap.size w1 wx := by
              have := g.world
              unfold wrJ at this
              rw [n8] at this
              exact this
            refine .inl ⟨wanted_none rfl, wp_val (v := .slice (some ⟨wx.heap.size, 0, none⟩) 0 0) (w' := wx.alloc (.cells #[] 5)) (by simp [execOp, go_sem]) ⟨_, rfl, .inr ⟨_, _, rfl, ?_⟩, fun _ _ _ _ h => wrSpec_new ((Below.refl _ _).alloc (Nat.le_refl _) _) h, wrJ_new (by decide) n8 g.world ((Below.refl _ _).alloc hbel.size _)⟩⟩
            have := Dk.own_none8 wx 5
            exact Dk.own_mono this hbel.size
          · obtain rfl := Option.some.inj ho
            have e2 : st.eval (.tmp 2) = (.slice a b.length cap) := (g.far 2 (by kernel_rfl)).trans rfl
            have f2 := slot_get e2
            exact way_val (wanted_none rfl) (.slice a b.length cap) (by simp [execOp, go_sem, Act.eval, f2]) rfl (fun _ _ _ _ h => wrSpec_new (Below.refl _ _) h) (wrJ_keep (by decide) g.world)
          · obtain rfl := Option.some.inj ho
            have e29 : st.eval (.tmp 29) = (.slice a b.length cap) := g.val 6 _ 29 rfl rfl (edge he 6 (by kernel_rfl))
            have f29 := slot_get e29
            have n8 := g.not 10 8 7 hl (by kernel_rfl)
            have hbel : Below w1.heap.size w1 wx := by
              have := g.world
              unfold wrJ at this
              rw [n8] at this
              exact this
            have n7 : L 7 = false := hl
            rcases g.val 5 _ 28 rfl rfl (edge he 5 (by kernel_rfl)) with h7 | ⟨a5, c5, e28, ho5⟩
            · rw [n7] at h7; cases h7
            have f28 := slot_get e28
            rw [e28] at ho5
            obtain ⟨av, L7, cap7, w7, hL7, hr7, ho7, hb7⟩ := Dk.own_append ho5 (Below.refl _ _) (hb1.out.below hbel) (by simp; omega) hbel.size
            subst hL7
            have hr := hr7.out
            simp only [List.nil_append] at hr ho7
            exact .inl ⟨wanted_none rfl, Lib.wp_append_run _ (.tmp 28) (.tmp 29) _ _ rfl _ _ e28 e29 _ _ hr ⟨_, rfl, ⟨av, cap7, rfl, own_bytes ho7⟩, fun j _ _ hj h => wrSpec_app hj h, wrJ_new (by decide) n8 g.world hb7.out⟩⟩
          · obtain rfl := Option.some.inj ho
            have e26 : st.eval (.tmp 26) = (.map (some bw)) := g.val 3 _ 26 rfl rfl (edge he 3 (by kernel_rfl))
            have f26 := slot_get e26
            have e27 : st.eval (.tmp 27) = (.int .i64 n) := g.val 4 _ 27 rfl rfl (edge he 4 (by kernel_rfl))
            have f27 := slot_get e27
            obtain ⟨a7, c7, e30, b30⟩ := g.val 7 _ 30 rfl rfl (edge he 7 (by kernel_rfl))
            have f30 := slot_get e30
            have hbel : Below w1.heap.size w1 wx := by
              have := g.world
              unfold wrJ at this
              rw [hl] at this
              exact this
            have DX := D1.out.below hbel
            obtain ⟨w8, hr, hD8, hC8⟩ := DX.lay hin2 b30 (by have := HL.out; omega)
            rw [HT.out] at hD8
            exact .inl ⟨wanted_none rfl, wp_mapUpdate_run (.tmp 26) (.tmp 27) (.tmp 30) _ rfl e26 e27 e30 hr ⟨_, rfl, trivial, fun j _ _ _ h => wrSpec_end hC8 (fun k hk => DX.no k (by simp only [List.mem_singleton] at hk; subst hk; simp)) (edge he 7 (by kernel_rfl)) h, by unfold wrJ; rw [if_pos (by simp)]; exact ⟨hD8, (Chg.of_below hbel).trans (hC8.mono (by simp))⟩⟩⟩
        · intro L st wx g hall
          have hJ := g.world
          unfold wrJ at hJ
          rw [if_pos (hall 8 (by decide))] at hJ
          have DX := Lib.hid hJ.1
          have CX := Lib.hid hJ.2
          obtain ⟨f, hf, rfl⟩ := g.shape_fn (by kernel_rfl)
          rw [show dsts _ = [23, 24, 25, 26, 27, 28, 29, 30] from by kernel_rfl]
          clear g hall hJ hf
          simp only [List.map_cons, List.map_nil, lay2, Act.put, List.setIfInBounds_toArray, List.set_cons_succ, List.set_cons_zero]
          go_wp2_with fail
          go_ret
          exact ⟨rfl, DX.out, C1.out.trans CX.out⟩
  · have e : s.write n b = (s.use n, s) := by
      unfold Dsk.St.use at hu ⊢
      unfold Dsk.St.write
      cases hd : s.down with
      | true => rfl
      | false =>
        rw [hd] at hu
        cases hin : s.inside n with
        | true => rw [hin] at hu; exact absurd rfl hu
        | false => rfl
    rw [e]
    have H := Lib.hid h
    generalize s.use n = u at *
    have nz : (u == 0) = false := beq_eq_false_iff_ne.2 hu
    clear h e hb
    go_enter Try.func12, Try.ntmps12
    go_wp2_with fail
    refine hU.mono ?_
    rintro e w' ⟨rfl, rfl⟩
    go_wp2_with fail
    go_ret
    exact ⟨rfl, H.out, Chg.refl _ _⟩

end Go.Proofs.Ytddcdhmeknkphaa
