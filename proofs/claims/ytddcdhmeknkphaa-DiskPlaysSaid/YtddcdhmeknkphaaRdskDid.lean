/- The walk of 'Did' of the disk's statements: the program's disk and the reference's answer the same, and stand as the plain step says. -/
import Derived.Test.YtddcdhmeknkphaaRdskSame
import Derived.Test.YtddcdhmeknkphaaDskDone
import Derived.Deep.RegionHeld3
namespace Go.Proofs.Ytddcdhmeknkphaa
open Go.RowKit

/-- the two disks, both in this state -/
structure BothD (w : World) (d bl bw r bL bW bI : Nat) (s : Dsk.St) : Prop where
  a : DskAt w d bl bw s
  b : RDskAt w r bL bW bI s
  off : ∀ k ∈ [d, bl, bw], k ∉ [r, bL, bW, bI]

theorem BothD.off' {w : World} {d bl bw r bL bW bI : Nat} {s : Dsk.St} (h : BothD w d bl bw r bL bW bI s) : ∀ k ∈ [r, bL, bW, bI], k ∉ [d, bl, bw] := fun k hk hd => h.off k hd hk
theorem BothD.below {w w' : World} {d bl bw r bL bW bI : Nat} {s : Dsk.St} (h : BothD w d bl bw r bL bW bI s) (hb : Below w.heap.size w w') : BothD w' d bl bw r bL bW bI s := ⟨h.a.below hb, h.b.below hb, h.off⟩
theorem BothD.lt {w : World} {d bl bw r bL bW bI : Nat} {s : Dsk.St} (h : BothD w d bl bw r bL bW bI s) : ∀ k ∈ [d, bl, bw, r, bL, bW, bI], k < w.heap.size := by
  intro k hk
  simp only [List.mem_cons, List.not_mem_nil, or_false] at hk
  rcases hk with rfl | rfl | rfl | hk
  · exact lt_of_block h.a.top
  · exact h.a.lt _ (by simp)
  · exact h.a.lt _ (by simp)
  · exact h.b.lt k (by simpa using hk)

theorem chg7 {w a b c : World} {d bl bw r bL bW bI : Nat} (h0 : Below w.heap.size w a) (h1 : Chg [d, bl, bw] a b) (h2 : Chg [r, bL, bW, bI] b c) : Chg [d, bl, bw, r, bL, bW, bI] w c := by
  refine ((Chg.of_below h0).trans (h1.mono ?_)).trans (h2.mono ?_)
  · intro k hk; simp only [List.mem_cons, List.not_mem_nil, or_false] at hk ⊢; rcases hk with h | h | h <;> simp [h]
  · intro k hk; simp only [List.mem_cons, List.not_mem_nil, or_false] at hk ⊢; rcases hk with h | h | h | h <;> simp [h]

/-- what a call leaves -/
def DidD (w : World) (d bl bw r bL bW bI : Nat) (s : Dsk.St) (e : Ending) (w' : World) : Prop := e = .returned (.bool true) ∧ BothD w' d bl bw r bL bW bI s ∧ Chg [d, bl, bw, r, bL, bW, bI] w w'

set_option maxRecDepth 100000 in
set_option maxHeartbeats 8000000 in
theorem did4_any {w : World} {d bl bw r bL bW bI : Nat} {s : Dsk.St} (h : BothD w d bl bw r bL bW bI s) (k n : Int) (a2 : Option Addr) (b : List UInt8) (c2 : Nat) (a3 : Option Addr) (l : List Int) (c3 : Nat) (t : Int) (x : UInt8)
    (hb : Bytes w (.slice a2 b.length c2) b) (hl : Row w (.slice a3 l.length c3) (intVals l)) (hoff : l ≠ [] → ∀ j, (Value.slice a3 l.length c3).ownBlock = some j → j ∉ [d, bl, bw, r, bL, bW, bI]) (hl60 : l.length ≤ 60) (wf : CallWf ⟨k, n, b, l, t, x⟩) :
    Calls Try.prog 22 #[.pointer (some ⟨d, 0, none⟩), .pointer (some ⟨r, 0, none⟩), .agg #[.int .i64 k, .int .i64 n, .slice a2 b.length c2, .slice a3 l.length c3, .int .i64 t, .int .u8 (x.toNat : Int)]] w (DidD w d bl bw r bL bW bI (s.did ⟨k, n, b, l, t, x⟩)) := by
  have hlt := h.lt
  obtain ⟨W, HW⟩ : ∃ W, Hid (W = w.alloc (.cells #[.int .i64 k, .int .i64 n, .slice a2 b.length c2, .slice a3 l.length c3, .int .i64 t, .int .u8 (x.toNat : Int)] 48)) := ⟨_, rfl⟩
  have W0 : Below w.heap.size w W := by rw [HW.out]; exact (Below.refl _ _).alloc (Nat.le_refl _) _
  have K0 : W.heap[w.heap.size]? = some (.cells #[.int .i64 k, .int .i64 n, .slice a2 b.length c2, .slice a3 l.length c3, .int .i64 t, .int .u8 (x.toNat : Int)] 48 (0, 0)) := by rw [HW.out]; exact heap_alloc_new _ _
  have A0 := h.a.below W0
  have B0 := h.b.below W0
  have hbb := hb.below W0
  have hll := hl.below W0
  have nk1 : w.heap.size ∉ [d, bl, bw] := fun hm => by
    have := hlt w.heap.size (by simp only [List.mem_cons, List.not_mem_nil, or_false] at hm ⊢; rcases hm with h | h | h <;> simp [h])
    omega
  have nk2 : w.heap.size ∉ [r, bL, bW, bI] := fun hm => by
    have := hlt w.heap.size (by simp only [List.mem_cons, List.not_mem_nil, or_false] at hm ⊢; rcases hm with h | h | h | h <;> simp [h])
    omega
  have OFF := Lib.hid h.off
  have OFF' := Lib.hid h.off'
  have hoff1 : l ≠ [] → ∀ j, (Value.slice a3 l.length c3).ownBlock = some j → j ∉ [d, bl, bw] := fun hne j hj hm => hoff hne j hj (by simp only [List.mem_cons, List.not_mem_nil, or_false] at hm ⊢; rcases hm with h | h | h <;> simp [h])
  have hoff2 : l ≠ [] → ∀ j, (Value.slice a3 l.length c3).ownBlock = some j → j ∉ [r, bL, bW, bI] := fun hne j hj hm => hoff hne j hj (by simp only [List.mem_cons, List.not_mem_nil, or_false] at hm ⊢; rcases hm with h | h | h | h <;> simp [h])
  -- behind the program's call
  have step1 : Hid (∀ (u : World), Chg [d, bl, bw] W u → RDskAt u r bL bW bI s ∧ Bytes u (.slice a2 b.length c2) b ∧ Row u (.slice a3 l.length c3) (intVals l) ∧ u.heap[w.heap.size]? = some (.cells #[.int .i64 k, .int .i64 n, .slice a2 b.length c2, .slice a3 l.length c3, .int .i64 t, .int .u8 (x.toNat : Int)] 48 (0, 0))) := by
    intro u hc
    refine ⟨B0.kept hc A0.no OFF'.out, hbb.off hc A0.no, ?_, (hc.block _ (lt_of_block K0) nk1).trans K0⟩
    by_cases hne : l = []
    · subst hne
      rcases hll with h1 | ⟨y, cap, h1, h2, h3, -⟩
      · exact .inl h1
      · exact .inr ⟨y, cap, h1, h2, h3, fun i v hv => by simp [intVals] at hv⟩
    · exact hll.kept fun j hj hlt2 => hc.block j hlt2 (hoff1 hne j hj)
  -- behind the reference's
  have step2 : Hid (∀ (u u' : World) (s' t' : Dsk.St), u.heap[w.heap.size]? = some (.cells #[.int .i64 k, .int .i64 n, .slice a2 b.length c2, .slice a3 l.length c3, .int .i64 t, .int .u8 (x.toNat : Int)] 48 (0, 0)) → DskAt u d bl bw s' → RDskAt u r bL bW bI t' → Chg [d, bl, bw] W u → Chg [r, bL, bW, bI] u u' → RDskAt u' r bL bW bI s' → BothD u' d bl bw r bL bW bI s' ∧ Chg [d, bl, bw, r, bL, bW, bI] w u' ∧ u'.heap[w.heap.size]? = some (.cells #[.int .i64 k, .int .i64 n, .slice a2 b.length c2, .slice a3 l.length c3, .int .i64 t, .int .u8 (x.toNat : Int)] 48 (0, 0))) := by
    intro u u' s' t' hk hu hr h1 h2 hr'
    exact ⟨⟨hu.kept h2 hr.no OFF.out, hr', OFF.out⟩, chg7 W0 h1 h2, (h2.block _ (lt_of_block hk) nk2).trans hk⟩
  have q0 : W.cell? ⟨w.heap.size, 0, none⟩ = some (.int .i64 k) := row_cell K0 rfl
  have q1 : W.cell? ⟨w.heap.size, 1, none⟩ = some (.int .i64 n) := row_cell K0 rfl
  have q2 : W.cell? ⟨w.heap.size, 2, none⟩ = some (.slice a2 b.length c2) := row_cell K0 rfl
  have q3 : W.cell? ⟨w.heap.size, 3, none⟩ = some (.slice a3 l.length c3) := row_cell K0 rfl
  have q4 : W.cell? ⟨w.heap.size, 4, none⟩ = some (.int .i64 t) := row_cell K0 rfl
  have q5 : W.cell? ⟨w.heap.size, 5, none⟩ = some (.int .u8 (x.toNat : Int)) := row_cell K0 rfl
  have HBB := Lib.hid hbb
  have HLL := Lib.hid hll
  have HO1 := Lib.hid hoff1
  have HO2 := Lib.hid hoff2
  have HK0 := Lib.hid K0
  have HA0 := Lib.hid A0
  have HB0 := Lib.hid B0
  have HW0 := Lib.hid W0
  have HH := Lib.hid h
  have WF := Lib.hid wf
  have HL60 := Lib.hid hl60
  clear hlt K0 A0 B0 hbb hll nk1 nk2 h hb hl hoff hoff1 hoff2 wf W0 hl60
  by_cases k1 : k = 1
  · subst k1
    have E : Hid (s.did ⟨1, n, b, l, t, x⟩ = (s.write n b).2) := rfl
    rw [E.out]
    go_enter Try.func22, Try.ntmps22
    go_wp2_with fail
    rw [← HW.out]
    have hdr : Chg [d, bl, bw] W W.drew := Chg.of_below (Below.refl _ _).drew
    have HDR := Lib.hid hdr
    have hwr := write_any (HA0.out.below (Below.refl _ _).drew) n _ b (HBB.out.below (Below.refl _ _).drew)
    have HWR := Lib.hid hwr
    clear hdr hwr q0 q1 q2 q3 q4 q5
    go_region_held3 (fun w' => w'.cell? ⟨w.heap.size, 1, none⟩ = some (.int .i64 n) ∧ w'.cell? ⟨w.heap.size, 2, none⟩ = some (.slice a2 b.length c2))
      (first | (exact ⟨row_cell HK2.out rfl, row_cell HK2.out rfl⟩) | (exact ⟨row_cell HK1.out rfl, row_cell HK1.out rfl⟩) | (exact ⟨row_cell HK0.out rfl, row_cell HK0.out rfl⟩))
      (first
        | (go_at_call 12; refine HWR.out.mono ?_; rintro e w1 ⟨rfl, A1, C1⟩; have C01 := HDR.out.trans C1; obtain ⟨R1, bb1, -, HK1⟩ := step1.out w1 C01; have HK1 := Lib.hid HK1; have HC1 := Lib.hid C01; have HA1 := Lib.hid A1; have HR1 := Lib.hid R1; have HBB1 := Lib.hid bb1; clear C1 C01 A1 R1 bb1)
        | (go_at_call 33; refine (rwrite_any HR1.out n _ b HBB1.out).mono ?_; rintro e w2 ⟨rfl, R2, C2⟩; obtain ⟨HB2, HC2, HK2⟩ := step2.out w1 w2 _ _ HK1.out HA1.out HR1.out HC1.out C2 R2; have HK2 := Lib.hid HK2; have HB2 := Lib.hid HB2; have HC2 := Lib.hid HC2; clear C2 R2))
    go_wp2
    go_ret
    exact ⟨rfl, HB2.out, HC2.out⟩
  have n1 : (k == 1) = false := beq_eq_false_iff_ne.2 k1
  by_cases k2 : k = 2
  · subst k2
    have E : Hid (s.did ⟨2, n, b, l, t, x⟩ = s) := rfl
    rw [E.out]
    have hr1 := read_any HA0.out n
    have hr2 : ∀ u, RDskAt u r bL bW bI s → _ := fun u hu => rread_any hu n
    generalize (if s.use n = 0 then s.look n.toNat else []) = z at *
    generalize s.use n = e1 at *
    have HR1 := Lib.hid hr1
    have HR2 := Lib.hid hr2
    clear n1 k1 hr1 hr2
    go_enter Try.func22, Try.ntmps22
    go_wp2_with fail
    rw [← HW.out]
    refine HR1.out.mono ?_
    rintro e w1 ⟨a5, c5, rfl, hx, hB⟩
    have C1 : Chg [d, bl, bw] W w1 := Chg.of_below hB
    obtain ⟨R1, bb1, ll1, hk1⟩ := step1.out w1 C1
    have p1 : w1.cell? ⟨w.heap.size, 1, none⟩ = some (.int .i64 n) := row_cell hk1 rfl
    have HX := Lib.hid hx
    have A1 := HA0.out.below hB
    have HA1 := Lib.hid A1
    have HC1 := Lib.hid C1
    have HRA := Lib.hid R1
    have HK1 := Lib.hid hk1
    clear q0 q1 q2 q3 q4 q5 C1 A1 R1 bb1 ll1 hk1 hx hB
    go_wp2_with fail
    refine (HR2.out w1 HRA.out).mono ?_
    rintro e w2 ⟨a6, c6, rfl, hy, hB⟩
    obtain ⟨HB2, HC2, HK2⟩ := step2.out w1 w2 _ _ HK1.out HA1.out HRA.out HC1.out (Chg.of_below hB) (HRA.out.below hB)
    have HB2 := Lib.hid HB2
    have HC2 := Lib.hid HC2
    have s1 := str_bytes (HX.out.below hB)
    have s2 := str_bytes hy
    generalize strOf z = zz at *
    clear hy hB HK2
    go_wp2_with fail
    go_ret
    exact ⟨rfl, HB2.out, HC2.out⟩
  have n2 : (k == 2) = false := beq_eq_false_iff_ne.2 k2
  by_cases k3 : k = 3
  · subst k3
    have E : Hid (s.did ⟨3, n, b, l, t, x⟩ = (s.flush).2) := rfl
    rw [E.out]
    clear n1 k1 n2 k2
    go_enter Try.func22, Try.ntmps22
    go_wp2_with fail
    rw [← HW.out]
    refine (flush_any HA0.out).mono ?_
    rintro e w1 ⟨rfl, A1, C1⟩
    obtain ⟨R1, bb1, ll1, hk1⟩ := step1.out w1 C1
    have HK1 := Lib.hid hk1
    have p1 : w1.cell? ⟨w.heap.size, 1, none⟩ = some (.int .i64 n) := row_cell hk1 rfl
    have p3 : w1.cell? ⟨w.heap.size, 3, none⟩ = some (.slice a3 l.length c3) := row_cell hk1 rfl
    have HC1 := Lib.hid C1
    have HA1 := Lib.hid A1
    have HR1 := Lib.hid R1
    have HLL1 := Lib.hid ll1
    clear q0 q1 q2 q3 q4 q5 C1 A1 R1 bb1 ll1 hk1
    go_wp2_with fail
    refine (rflush_any HR1.out).mono ?_
    rintro e w2 ⟨rfl, R2, C2⟩
    obtain ⟨HB2, HC2, HK2⟩ := step2.out w1 w2 _ _ HK1.out HA1.out HR1.out HC1.out C2 R2
    have HB2 := Lib.hid HB2
    have HC2 := Lib.hid HC2
    clear C2 R2 HK2
    go_wp2_with fail
    go_ret
    exact ⟨rfl, HB2.out, HC2.out⟩
  have n3 : (k == 3) = false := beq_eq_false_iff_ne.2 k3
  by_cases k4 : k = 4
  · subst k4
    have E : Hid (s.did ⟨4, n, b, l, t, x⟩ = s.fuseAt n) := rfl
    rw [E.out]
    clear n1 k1 n2 k2 n3 k3
    go_enter Try.func22, Try.ntmps22
    go_wp2_with fail
    rw [← HW.out]
    refine (fuse_any HA0.out n WF.out.n).mono ?_
    rintro e w1 ⟨rfl, A1, C1⟩
    obtain ⟨R1, bb1, ll1, hk1⟩ := step1.out w1 C1
    have HK1 := Lib.hid hk1
    have p1 : w1.cell? ⟨w.heap.size, 1, none⟩ = some (.int .i64 n) := row_cell hk1 rfl
    have p3 : w1.cell? ⟨w.heap.size, 3, none⟩ = some (.slice a3 l.length c3) := row_cell hk1 rfl
    have HC1 := Lib.hid C1
    have HA1 := Lib.hid A1
    have HR1 := Lib.hid R1
    have HLL1 := Lib.hid ll1
    clear q0 q1 q2 q3 q4 q5 C1 A1 R1 bb1 ll1 hk1
    go_wp2_with fail
    refine (rfuse_any HR1.out n WF.out.n).mono ?_
    rintro e w2 ⟨rfl, R2, C2⟩
    obtain ⟨HB2, HC2, HK2⟩ := step2.out w1 w2 _ _ HK1.out HA1.out HR1.out HC1.out C2 R2
    have HB2 := Lib.hid HB2
    have HC2 := Lib.hid HC2
    clear C2 R2 HK2
    go_wp2_with fail
    go_ret
    exact ⟨rfl, HB2.out, HC2.out⟩
  have n4 : (k == 4) = false := beq_eq_false_iff_ne.2 k4
  by_cases k5 : k = 5
  · subst k5
    have E : Hid (s.did ⟨5, n, b, l, t, x⟩ = s.restart l) := rfl
    rw [E.out]
    clear n1 k1 n2 k2 n3 k3 n4 k4
    go_enter Try.func22, Try.ntmps22
    go_wp2_with fail
    rw [← HW.out]
    refine (restart_any HA0.out _ l HLL.out WF.out.keep (by have := HL60.out; omega) HO1.out).mono ?_
    rintro e w1 ⟨rfl, A1, C1⟩
    obtain ⟨R1, bb1, ll1, hk1⟩ := step1.out w1 C1
    have HK1 := Lib.hid hk1
    have p1 : w1.cell? ⟨w.heap.size, 1, none⟩ = some (.int .i64 n) := row_cell hk1 rfl
    have p3 : w1.cell? ⟨w.heap.size, 3, none⟩ = some (.slice a3 l.length c3) := row_cell hk1 rfl
    have HC1 := Lib.hid C1
    have HA1 := Lib.hid A1
    have HR1 := Lib.hid R1
    have HLL1 := Lib.hid ll1
    clear q0 q1 q2 q3 q4 q5 C1 A1 R1 bb1 ll1 hk1
    go_wp2_with fail
    refine (rrestart_any HR1.out _ l HLL1.out WF.out.keep (by have := HL60.out; omega) HO2.out).mono ?_
    rintro e w2 ⟨rfl, R2, C2⟩
    obtain ⟨HB2, HC2, HK2⟩ := step2.out w1 w2 _ _ HK1.out HA1.out HR1.out HC1.out C2 R2
    have HB2 := Lib.hid HB2
    have HC2 := Lib.hid HC2
    clear C2 R2 HK2
    go_wp2_with fail
    go_ret
    exact ⟨rfl, HB2.out, HC2.out⟩
  have n5 : (k == 5) = false := beq_eq_false_iff_ne.2 k5
  by_cases k6 : k = 6
  · subst k6
    have E : Hid (s.did ⟨6, n, b, l, t, x⟩ = (s.turn n t x).2) := rfl
    rw [E.out]
    clear n1 k1 n2 k2 n3 k3 n4 k4 n5 k5
    go_enter Try.func22, Try.ntmps22
    go_wp2_with fail
    rw [← HW.out]
    have HDR : Hid (Chg [d, bl, bw] W W.drew) := Chg.of_below (Below.refl _ _).drew
    have HTR : Hid (Calls Try.prog 25 #[.pointer (some ⟨d, 0, none⟩), .int .i64 n, .int .i64 t, .int .u8 (x.toNat : Int)] W.drew (Turns W.drew d bl bw (s.turn n t x).2 (.int .i64 (s.turn n t x).1))) := turn_any (HA0.out.below (Below.refl _ _).drew) n t x WF.out.at_
    clear q0 q1 q2 q3 q4 q5
    go_region_held3 (fun w' => w'.cell? ⟨w.heap.size, 1, none⟩ = some (.int .i64 n) ∧ w'.cell? ⟨w.heap.size, 4, none⟩ = some (.int .i64 t) ∧ w'.cell? ⟨w.heap.size, 5, none⟩ = some (.int .u8 (x.toNat : Int)))
      (first | (exact ⟨row_cell HK2.out rfl, row_cell HK2.out rfl, row_cell HK2.out rfl⟩) | (exact ⟨row_cell HK1.out rfl, row_cell HK1.out rfl, row_cell HK1.out rfl⟩) | (exact ⟨row_cell HK0.out rfl, row_cell HK0.out rfl, row_cell HK0.out rfl⟩))
      (first
        | (go_at_call 25; refine HTR.out.mono ?_; rintro e w1 ⟨rfl, A1, C1⟩; have C01 := HDR.out.trans C1; obtain ⟨R1, bb1, -, HK1⟩ := step1.out w1 C01; have HK1 := Lib.hid HK1; have HC1 := Lib.hid C01; have HA1 := Lib.hid A1; have HR1 := Lib.hid R1; have HBB1 := Lib.hid bb1; clear C1 C01 A1 R1 bb1)
        | (go_at_call 38; refine (rturn_any HR1.out n t x WF.out.at_).mono ?_; rintro e w2 ⟨rfl, R2, C2⟩; obtain ⟨HB2, HC2, HK2⟩ := step2.out w1 w2 _ _ HK1.out HA1.out HR1.out HC1.out C2 R2; have HK2 := Lib.hid HK2; have HB2 := Lib.hid HB2; have HC2 := Lib.hid HC2; clear C2 R2))
    go_wp2
    go_ret
    exact ⟨rfl, HB2.out, HC2.out⟩
  · have n6 : (k == 6) = false := beq_eq_false_iff_ne.2 k6
    have E : Hid (s.did ⟨k, n, b, l, t, x⟩ = s) := by unfold Hid Dsk.St.did; simp [k1, k3, k4, k5, k6]
    rw [E.out]
    clear k1 k2 k3 k4 k5 k6
    go_enter Try.func22, Try.ntmps22
    go_wp2_with fail
    rw [← HW.out]
    go_ret
    exact ⟨rfl, HH.out.below HW0.out, Chg.of_below HW0.out⟩

end Go.Proofs.Ytddcdhmeknkphaa
