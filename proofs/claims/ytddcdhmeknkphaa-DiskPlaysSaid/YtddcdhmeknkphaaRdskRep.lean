/- How disks lie in memory: the reference's. -/
import Derived.Test.YtddcdhmeknkphaaDskRep
import Derived.Test.YtddcdhmeknkphaaDskPlain2
namespace Go.Proofs.Ytddcdhmeknkphaa
open Go.RowKit

namespace Dsk.St
/-- what waits in a sector lasts, or is gone -/
def settle (s : St) (n : Nat) (l : Bool) : St := { s with L := if l then (match s.W n with | some b => upd s.L n b | none => s.L) else s.L, W := upd s.W n none }

theorem settle_L (s : St) (n : Nat) (l : Bool) : (s.settle n l).L = s.L ∨ ∃ b, s.W n = some b ∧ (s.settle n l).L = upd s.L n b := by
  unfold settle
  cases l with
  | false => exact .inl rfl
  | true =>
    cases hw : s.W n with
    | none => exact .inl (by simp)
    | some b => exact .inr ⟨b, rfl, by simp⟩

theorem ok_settle {s : St} (h : Ok s) (n : Nat) (hn : n < s.size) (l : Bool) : Ok (s.settle n l) := by
  have hL := settle_L s n l
  refine ⟨h.lo, h.hi, h.f0, h.f1, h.f2, fun k hk => ?_, fun k hk => ?_, fun k => ?_, fun k c hc => ?_⟩
  · have hk' : s.size ≤ k := hk
    rcases hL with e | ⟨b, hb, e⟩
    · rw [e]; exact h.offL k hk'
    · rw [e, upd_other _ _ _ _ (by omega)]; exact h.offL k hk'
  · have hk' : s.size ≤ k := hk
    show upd s.W n none k = none
    rw [upd_other _ _ _ _ (by omega)]; exact h.offW k hk'
  · rcases hL with e | ⟨b, hb, e⟩
    · rw [e]; exact h.lenL k
    · rw [e]
      by_cases e2 : k = n
      · subst e2; rw [upd_same]; exact h.lenW _ _ hb
      · rw [upd_other _ _ _ _ e2]; exact h.lenL k
  · have hc' : upd s.W n none k = some c := hc
    by_cases e2 : k = n
    · subst e2; rw [upd_same] at hc'; cases hc'
    · rw [upd_other _ _ _ _ e2] at hc'; exact h.lenW k c hc'

theorem keep1_settle {s : St} {n : Int} (hn : s.inside n = true) : s.keep1 n = s.settle n.toNat true := by
  unfold keep1 settle
  rw [hn]
  simp only [if_true]
  cases hw : s.W n.toNat with
  | some b => rfl
  | none =>
    simp only
    have : upd s.W n.toNat none = s.W := by
      funext k
      unfold upd
      split
      · rename_i e; rw [e, hw]
      · rfl
    rw [this]

/-- settled, sector by sector -/
def part (s : St) (l : Bool) (i : Nat) : St := { s with L := fun j => if j < i then (if l then s.look j else s.L j) else s.L j, W := fun j => if j < i then none else s.W j }
theorem part_zero (s : St) (l : Bool) : s.part l 0 = s := by
  unfold part
  have e1 : (fun j => if j < 0 then (if l then s.look j else s.L j) else s.L j) = s.L := by funext j; rw [if_neg (by omega)]
  have e2 : (fun j => if j < 0 then none else s.W j) = s.W := by funext j; rw [if_neg (by omega)]
  rw [e1, e2]
theorem part_succ (s : St) (l : Bool) (i : Nat) : (s.part l i).settle i l = s.part l (i + 1) := by
  unfold settle part
  have hwi : (if i < i then none else s.W i) = s.W i := by rw [if_neg (by omega)]
  simp only [hwi]
  congr 1
  · funext j
    cases l with
    | false =>
      simp only [Bool.false_eq_true, if_false]
      split <;> split <;> rfl
    | true =>
      simp only [if_true]
      cases hw : s.W i with
      | none =>
        simp only
        by_cases h1 : j < i
        · rw [if_pos h1, if_pos (by omega)]
        · rw [if_neg h1]
          by_cases h2 : j < i + 1
          · obtain rfl : j = i := by omega
            rw [if_pos h2]
            unfold look
            rw [hw]; rfl
          · rw [if_neg h2]
      | some b =>
        simp only
        unfold upd
        by_cases h0 : j = i
        · subst h0
          rw [if_pos rfl, if_pos (by omega)]
          unfold look
          rw [hw]; rfl
        · rw [if_neg h0]
          simp only
          by_cases h1 : j < i
          · rw [if_pos h1, if_pos (by omega)]
          · rw [if_neg h1, if_neg (by omega)]
  · funext j
    unfold upd
    by_cases h0 : j = i
    · subst h0
      rw [if_pos rfl, if_pos (by omega)]
    · rw [if_neg h0]
      simp only
      by_cases h1 : j < i
      · rw [if_pos h1, if_pos (by omega)]
      · rw [if_neg h1, if_neg (by omega)]
theorem part_all {s : St} (h : Ok s) (l : Bool) : s.part l s.size = { s with L := if l then s.look else s.L, W := fun _ => none } := by
  unfold part
  congr 1
  · funext j
    by_cases h1 : j < s.size
    · rw [if_pos h1]; cases l <;> rfl
    · rw [if_neg h1]
      cases l with
      | false => rfl
      | true =>
        simp only [if_true]
        unfold look
        rw [h.offW j (by omega)]; rfl
  · funext j
    by_cases h1 : j < s.size
    · rw [if_pos h1]
    · rw [if_neg h1]; exact h.offW j (by omega)
theorem part_size (s : St) (l : Bool) (i : Nat) : (s.part l i).size = s.size := rfl
end Dsk.St

/-- a block of slices of bytes -/
def BRow (w : World) (b n : Nat) (F : Nat → List UInt8) : Prop :=
  ∃ cl : Array Value, w.heap[b]? = some (.cells cl 29 (0, 0)) ∧ cl.size = n ∧ ∀ i, i < n → ∃ a c, cl[i]? = some (.slice a (F i).length c) ∧ Bytes w (.slice a (F i).length c) (F i)

theorem BRow.no {w : World} {b n : Nat} {F : Nat → List UInt8} (h : BRow w b n F) : NoU8 w b := by
  obtain ⟨cl, hb, hs, hc⟩ := h
  refine noU8_cells hb fun i x e => ?_
  have hi : i < n := by rw [← hs]; exact (Array.getElem?_eq_some_iff.1 e).1
  obtain ⟨a, c, h1, -⟩ := hc i hi
  rw [h1] at e
  cases e

theorem BRow.lt {w : World} {b n : Nat} {F : Nat → List UInt8} (h : BRow w b n F) : b < w.heap.size := by
  obtain ⟨cl, hb, -⟩ := h; exact lt_of_block hb

theorem BRow.kept {fs : List Nat} {w w' : World} {b n : Nat} {F : Nat → List UInt8} (h : BRow w b n F) (hc : Chg fs w w') (hn : ∀ k ∈ fs, NoU8 w k) (hb : b ∉ fs) : BRow w' b n F := by
  obtain ⟨cl, hbl, hs, hcl⟩ := h
  refine ⟨cl, (hc.block b (lt_of_block hbl) hb).trans hbl, hs, fun i hi => ?_⟩
  obtain ⟨a, c, h1, h2⟩ := hcl i hi
  exact ⟨a, c, h1, h2.off hc hn⟩

theorem BRow.cell {w : World} {b n : Nat} {F : Nat → List UInt8} (h : BRow w b n F) {i : Nat} (hi : i < n) : ∃ a c, w.cell? ⟨b, i, none⟩ = some (.slice a (F i).length c) ∧ w.frozen? ⟨b, i, none⟩ = false ∧ Bytes w (.slice a (F i).length c) (F i) := by
  obtain ⟨cl, hbl, hs, hcl⟩ := h
  obtain ⟨a, c, h1, h2⟩ := hcl i hi
  exact ⟨a, c, row_cell hbl h1, frozen_of_row _ _ _ _ _ hbl, h2⟩

theorem BRow.set {w : World} {b n : Nat} {F : Nat → List UInt8} (h : BRow w b n F) {i : Nat} {l : List UInt8} {a : Option Addr} {c : Nat} (hv : Bytes w (.slice a l.length c) l) : BRow (w.setCell ⟨b, i, none⟩ (.slice a l.length c)) b n (Dsk.St.upd F i l) := by
  have hno := h.no
  have hc : Chg [b] w (w.setCell ⟨b, i, none⟩ (.slice a l.length c)) := (Chg.refl _ _).setCell (.inl (by simp)) _
  have hn : ∀ k ∈ [b], NoU8 w k := by intro k hk; simp only [List.mem_singleton] at hk; subst hk; exact hno
  obtain ⟨cl, hbl, hs, hcl⟩ := h
  refine ⟨cl.setIfInBounds i (.slice a l.length c), heap_setCell_same _ _ _ _ _ _ hbl, by simp [hs], fun j hj => ?_⟩
  by_cases e : j = i
  · subst e
    refine ⟨a, c, ?_, ?_⟩
    · rw [Dsk.St.upd_same]; simp [hs, hj]
    · rw [Dsk.St.upd_same]; exact hv.off hc hn
  · obtain ⟨a', c', h1, h2⟩ := hcl j hj
    rw [Dsk.St.upd_other _ _ _ _ e]
    exact ⟨a', c', by rw [Array.getElem?_setIfInBounds_ne (fun x => e x.symm)]; exact h1, h2.off hc hn⟩

def boolCells (n : Nat) (G : Nat → Bool) : Array Value := ((List.range n).map fun i => Value.bool (G i)).toArray
theorem boolCells_get {n : Nat} {G : Nat → Bool} {i : Nat} (h : i < n) : (boolCells n G)[i]? = some (.bool (G i)) := by simp [boolCells, h]
theorem boolCells_size (n : Nat) (G : Nat → Bool) : (boolCells n G).size = n := by simp [boolCells]
theorem boolCells_set (n : Nat) (G : Nat → Bool) (i : Nat) (x : Bool) : (boolCells n G).setIfInBounds i (.bool x) = boolCells n (Dsk.St.upd G i x) := by
  apply Array.ext_getElem?
  intro j
  rw [Array.getElem?_setIfInBounds]
  by_cases hj : j < n
  · rw [boolCells_get hj]
    by_cases e : i = j
    · subst e
      rw [if_pos rfl, if_pos (by rw [boolCells_size]; exact hj), boolCells_get hj, Dsk.St.upd_same]
    · rw [if_neg e, boolCells_get hj, Dsk.St.upd_other _ _ _ _ (fun x => e x.symm)]
  · have e1 : (boolCells n G)[j]? = none := Array.getElem?_eq_none (by rw [boolCells_size]; omega)
    have e2 : (boolCells n (Dsk.St.upd G i x))[j]? = none := Array.getElem?_eq_none (by rw [boolCells_size]; omega)
    rw [e1, e2, boolCells_size]
    split
    · rw [if_neg (by omega)]
    · rfl
attribute [irreducible] boolCells

def rTop (bL bW bI : Nat) (s : Dsk.St) : Array Value := #[.slice (some ⟨bL, 0, none⟩) s.size s.size, .slice (some ⟨bW, 0, none⟩) s.size s.size, .slice (some ⟨bI, 0, none⟩) s.size s.size, .bool s.down, .bool s.fused, .int .i64 s.fuse]

/-- the reference's disk: its struct in block r, its rows in blocks bL, bW, bI -/
structure RDskAt (w : World) (r bL bW bI : Nat) (s : Dsk.St) : Prop where
  top : w.heap[r]? = some (.cells (rTop bL bW bI s) 72 (0, 0))
  rowL : BRow w bL s.size s.L
  rowW : BRow w bW s.size (fun i => (s.W i).getD [])
  rowI : w.heap[bI]? = some (.cells (boolCells s.size fun i => (s.W i).isSome) 4 (0, 0))
  ok : s.Ok
  ne : bL ≠ bW

theorem RDskAt.topNo {w : World} {r bL bW bI : Nat} {s : Dsk.St} (h : RDskAt w r bL bW bI s) : NoU8 w r := by
  refine noU8_cells h.top fun i x => ?_
  unfold rTop
  match i with
  | 0 => simp
  | 1 => simp
  | 2 => simp
  | 3 => simp
  | 4 => simp
  | 5 => simp
  | n + 6 => simp

theorem RDskAt.boolNo {w : World} {r bL bW bI : Nat} {s : Dsk.St} (h : RDskAt w r bL bW bI s) : NoU8 w bI := by
  refine noU8_cells h.rowI fun i x e => ?_
  have hi : i < s.size := by
    have := (Array.getElem?_eq_some_iff.1 e).1
    rw [boolCells_size] at this; exact this
  rw [boolCells_get hi] at e
  cases e

theorem RDskAt.no {w : World} {r bL bW bI : Nat} {s : Dsk.St} (h : RDskAt w r bL bW bI s) : ∀ k ∈ [r, bL, bW, bI], NoU8 w k := by
  intro k hk
  simp only [List.mem_cons, List.not_mem_nil, or_false] at hk
  rcases hk with rfl | rfl | rfl | rfl
  · exact h.topNo
  · exact h.rowL.no
  · exact h.rowW.no
  · exact h.boolNo

theorem RDskAt.lt {w : World} {r bL bW bI : Nat} {s : Dsk.St} (h : RDskAt w r bL bW bI s) : ∀ k ∈ [r, bL, bW, bI], k < w.heap.size := by
  intro k hk
  simp only [List.mem_cons, List.not_mem_nil, or_false] at hk
  rcases hk with rfl | rfl | rfl | rfl
  · exact lt_of_block h.top
  · exact h.rowL.lt
  · exact h.rowW.lt
  · exact lt_of_block h.rowI

theorem RDskAt.ne_rL {w : World} {r bL bW bI : Nat} {s : Dsk.St} (h : RDskAt w r bL bW bI s) : r ≠ bL := by
  intro e
  obtain ⟨cl, hb, -⟩ := h.rowL
  rw [← e, h.top] at hb
  simp at hb
theorem RDskAt.ne_rW {w : World} {r bL bW bI : Nat} {s : Dsk.St} (h : RDskAt w r bL bW bI s) : r ≠ bW := by
  intro e
  obtain ⟨cl, hb, -⟩ := h.rowW
  rw [← e, h.top] at hb
  simp at hb
theorem RDskAt.ne_rI {w : World} {r bL bW bI : Nat} {s : Dsk.St} (h : RDskAt w r bL bW bI s) : r ≠ bI := by
  intro e
  have hb := h.rowI
  rw [← e, h.top] at hb
  simp at hb
theorem RDskAt.ne_LI {w : World} {r bL bW bI : Nat} {s : Dsk.St} (h : RDskAt w r bL bW bI s) : bL ≠ bI := by
  intro e
  obtain ⟨cl, hb, -⟩ := h.rowL
  rw [e, h.rowI] at hb
  simp at hb
theorem RDskAt.ne_WI {w : World} {r bL bW bI : Nat} {s : Dsk.St} (h : RDskAt w r bL bW bI s) : bW ≠ bI := by
  intro e
  obtain ⟨cl, hb, -⟩ := h.rowW
  rw [e, h.rowI] at hb
  simp at hb

theorem RDskAt.kept {fs : List Nat} {w w' : World} {r bL bW bI : Nat} {s : Dsk.St} (h : RDskAt w r bL bW bI s) (hc : Chg fs w w') (hn : ∀ k ∈ fs, NoU8 w k) (hd : ∀ k ∈ [r, bL, bW, bI], k ∉ fs) : RDskAt w' r bL bW bI s :=
  ⟨(hc.block r (lt_of_block h.top) (hd r (by simp))).trans h.top, h.rowL.kept hc hn (hd bL (by simp)), h.rowW.kept hc hn (hd bW (by simp)), (hc.block bI (lt_of_block h.rowI) (hd bI (by simp))).trans h.rowI, h.ok, h.ne⟩

theorem RDskAt.below {w w' : World} {r bL bW bI : Nat} {s : Dsk.St} (h : RDskAt w r bL bW bI s) (hb : Below w.heap.size w w') : RDskAt w' r bL bW bI s :=
  h.kept (Chg.of_below (fs := []) hb) (fun _ hk => by cases hk) (by simp)

/-- its struct is written -/
theorem RDskAt.reTop {w w' : World} {r bL bW bI : Nat} {s t : Dsk.St} (h : RDskAt w r bL bW bI s) (hc : Chg [r] w w') (ht : w'.heap[r]? = some (.cells (rTop bL bW bI t) 72 (0, 0))) (ok : t.Ok) (hL : t.L = s.L) (hW : t.W = s.W) (hs : t.size = s.size) :
    RDskAt w' r bL bW bI t ∧ Chg [r, bL, bW, bI] w w' := by
  have hn : ∀ k ∈ [r], NoU8 w k := by
    intro k hk
    simp only [List.mem_singleton] at hk
    subst hk; exact h.topNo
  refine ⟨⟨ht, by rw [hL, hs]; exact h.rowL.kept hc hn (by simpa using h.ne_rL.symm), by rw [hW, hs]; exact h.rowW.kept hc hn (by simpa using h.ne_rW.symm), ?_, ok, h.ne⟩, hc.mono (by simp)⟩
  rw [hW, hs]
  exact (hc.block bI (lt_of_block h.rowI) (by simpa using h.ne_rI.symm)).trans h.rowI

theorem RDskAt.cells {w : World} {r bL bW bI : Nat} {s : Dsk.St} (h : RDskAt w r bL bW bI s) :
    w.cell? ⟨r, 0, none⟩ = some (.slice (some ⟨bL, 0, none⟩) s.size s.size) ∧ w.cell? ⟨r, 1, none⟩ = some (.slice (some ⟨bW, 0, none⟩) s.size s.size) ∧ w.cell? ⟨r, 2, none⟩ = some (.slice (some ⟨bI, 0, none⟩) s.size s.size) ∧ w.cell? ⟨r, 3, none⟩ = some (.bool s.down) ∧ w.cell? ⟨r, 4, none⟩ = some (.bool s.fused) ∧ w.cell? ⟨r, 5, none⟩ = some (.int .i64 s.fuse) :=
  ⟨row_cell h.top rfl, row_cell h.top rfl, row_cell h.top rfl, row_cell h.top rfl, row_cell h.top rfl, row_cell h.top rfl⟩

theorem RDskAt.isAt {w : World} {r bL bW bI : Nat} {s : Dsk.St} (h : RDskAt w r bL bW bI s) {i : Nat} (hi : i < s.size) : w.cell? ⟨bI, i, none⟩ = some (.bool (s.W i).isSome) ∧ w.frozen? ⟨bI, i, none⟩ = false :=
  ⟨row_cell h.rowI (boolCells_get hi), frozen_of_row _ _ _ _ _ h.rowI⟩

end Go.Proofs.Ytddcdhmeknkphaa
