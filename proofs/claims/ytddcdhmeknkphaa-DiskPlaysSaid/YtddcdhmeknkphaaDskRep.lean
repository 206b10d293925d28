/- How disks lie in memory: the program's. -/
import Derived.Test.YtddcdhmeknkphaaDskPlain
import Derived.Test.YtddcdhmeknkphaaMap
namespace Go.Proofs.Ytddcdhmeknkphaa
open Go.RowKit

/-- what waits, by any int -/
def ext (W : Nat → Option (List UInt8)) : Int → Option (List UInt8) := fun k => if 0 ≤ k then W k.toNat else none

theorem ext_nat (W : Nat → Option (List UInt8)) (n : Nat) : ext W (n : Int) = W n := by unfold ext; rw [if_pos (by omega)]; simp
theorem ext_pos (W : Nat → Option (List UInt8)) {n : Int} (h : 0 ≤ n) : ext W n = W n.toNat := by unfold ext; rw [if_pos h]
theorem ext_upd (W : Nat → Option (List UInt8)) {n : Int} (h : 0 ≤ n) (x : Option (List UInt8)) : updI (ext W) n x = ext (Dsk.St.upd W n.toNat x) := by
  funext k
  unfold updI ext Dsk.St.upd
  by_cases e : k = n
  · subst e; simp [h]
  · rw [if_neg e]
    split
    · rw [if_neg (by omega)]
    · rfl
theorem ext_none : ext (fun _ => none) = fun _ => none := by funext k; unfold ext; split <;> rfl
theorem ext_dom {s : Dsk.St} (h : s.Ok) : ∀ k l, ext s.W k = some l → 0 ≤ k ∧ k < s.size := by
  intro k l hk
  unfold ext at hk
  split at hk
  · refine ⟨by assumption, ?_⟩
    rcases Nat.lt_or_ge k.toNat s.size with h1 | h1
    · omega
    · rw [h.offW _ h1] at hk; cases hk
  · cases hk

def topCells (bl bw : Nat) (s : Dsk.St) : Array Value := #[.int .i64 (s.size : Int), .map (some bl), .map (some bw), .bool s.down, .bool s.fused, .int .i64 s.fuse]

/-- the program's disk: its struct in block d, its maps in blocks bl, bw -/
structure DskAt (w : World) (d bl bw : Nat) (s : Dsk.St) : Prop where
  top : w.heap[d]? = some (.cells (topCells bl bw s) 61 (0, 0))
  lasts : ∃ F, MapAt w bl F ∧ (∀ n : Nat, s.L n = (F n).getD []) ∧ ∀ k l, F k = some l → 0 ≤ k ∧ k < s.size
  waits : MapAt w bw (ext s.W)
  ok : s.Ok
  ne : bl ≠ bw

theorem DskAt.topNo {w : World} {d bl bw : Nat} {s : Dsk.St} (h : DskAt w d bl bw s) : NoU8 w d := by
  refine noU8_cells h.top fun i x => ?_
  unfold topCells
  match i with
  | 0 => simp
  | 1 => simp
  | 2 => simp
  | 3 => simp
  | 4 => simp
  | 5 => simp
  | n + 6 => simp

theorem DskAt.no {w : World} {d bl bw : Nat} {s : Dsk.St} (h : DskAt w d bl bw s) : ∀ k ∈ [d, bl, bw], NoU8 w k := by
  intro k hk
  simp only [List.mem_cons, List.not_mem_nil, or_false] at hk
  rcases hk with rfl | rfl | rfl
  · exact h.topNo
  · obtain ⟨F, hF, -⟩ := h.lasts
    obtain ⟨es, c, hb⟩ := hF.block
    exact noU8_map hb
  · obtain ⟨es, c, hb⟩ := h.waits.block
    exact noU8_map hb

theorem DskAt.ne_l {w : World} {d bl bw : Nat} {s : Dsk.St} (h : DskAt w d bl bw s) : d ≠ bl := by
  intro e
  obtain ⟨F, hF, -⟩ := h.lasts
  obtain ⟨es, c, hb⟩ := hF.block
  rw [← e, h.top] at hb
  cases hb
theorem DskAt.ne_w {w : World} {d bl bw : Nat} {s : Dsk.St} (h : DskAt w d bl bw s) : d ≠ bw := by
  intro e
  obtain ⟨es, c, hb⟩ := h.waits.block
  rw [← e, h.top] at hb
  cases hb

theorem DskAt.lt {w : World} {d bl bw : Nat} {s : Dsk.St} (h : DskAt w d bl bw s) : ∀ k ∈ [d, bl, bw], k < w.heap.size := by
  intro k hk
  simp only [List.mem_cons, List.not_mem_nil, or_false] at hk
  rcases hk with rfl | rfl | rfl
  · exact lt_of_block h.top
  · obtain ⟨F, hF, -⟩ := h.lasts; exact hF.lt
  · exact h.waits.lt

theorem DskAt.kept {fs : List Nat} {w w' : World} {d bl bw : Nat} {s : Dsk.St} (h : DskAt w d bl bw s) (hc : Chg fs w w') (hn : ∀ k ∈ fs, NoU8 w k) (hd : ∀ k ∈ [d, bl, bw], k ∉ fs) : DskAt w' d bl bw s := by
  obtain ⟨F, hF, h1, h2⟩ := h.lasts
  exact ⟨(hc.block d (lt_of_block h.top) (hd d (by simp))).trans h.top, ⟨F, hF.kept hc hn (hd bl (by simp)), h1, h2⟩, h.waits.kept hc hn (hd bw (by simp)), h.ok, h.ne⟩

theorem DskAt.below {w w' : World} {d bl bw : Nat} {s : Dsk.St} (h : DskAt w d bl bw s) (hb : Below w.heap.size w w') : DskAt w' d bl bw s :=
  h.kept (Chg.of_below (fs := []) hb) (fun _ hk => by cases hk) (by simp)

/-- its struct is written -/
theorem DskAt.setTop {w : World} {d bl bw : Nat} {s t : Dsk.St} (h : DskAt w d bl bw s) (i : Nat) (v : Value) (hv : (topCells bl bw s).setIfInBounds i v = topCells bl bw t) (ok : t.Ok) (hL : t.L = s.L) (hW : t.W = s.W) (hs : t.size = s.size) :
    DskAt (w.setCell ⟨d, i, none⟩ v) d bl bw t ∧ Chg [d, bl, bw] w (w.setCell ⟨d, i, none⟩ v) := by
  have hc : Chg [d] w (w.setCell ⟨d, i, none⟩ v) := (Chg.refl _ _).setCell (.inl (by simp)) v
  have hn : ∀ k ∈ [d], NoU8 w k := by
    intro k hk
    simp only [List.mem_singleton] at hk
    subst hk; exact h.topNo
  obtain ⟨F, hF, h1, h2⟩ := h.lasts
  refine ⟨⟨?_, ⟨F, hF.kept hc hn (by simpa using h.ne_l.symm), by rw [hL]; exact h1, by rw [hs]; exact h2⟩, by rw [hW]; exact h.waits.kept hc hn (by simpa using h.ne_w.symm), ok, h.ne⟩, hc.mono (by simp)⟩
  rw [heap_setCell_same _ _ _ _ _ _ h.top, hv]

theorem DskAt.reTop {w w' : World} {d bl bw : Nat} {s t : Dsk.St} (h : DskAt w d bl bw s) (hc : Chg [d] w w') (ht : w'.heap[d]? = some (.cells (topCells bl bw t) 61 (0, 0))) (ok : t.Ok) (hL : t.L = s.L) (hW : t.W = s.W) (hs : t.size = s.size) :
    DskAt w' d bl bw t ∧ Chg [d, bl, bw] w w' := by
  have hn : ∀ k ∈ [d], NoU8 w k := by
    intro k hk
    simp only [List.mem_singleton] at hk
    subst hk; exact h.topNo
  obtain ⟨F, hF, h1, h2⟩ := h.lasts
  exact ⟨⟨ht, ⟨F, hF.kept hc hn (by simpa using h.ne_l.symm), by rw [hL]; exact h1, by rw [hs]; exact h2⟩, by rw [hW]; exact h.waits.kept hc hn (by simpa using h.ne_w.symm), ok, h.ne⟩, hc.mono (by simp)⟩

theorem DskAt.cells {w : World} {d bl bw : Nat} {s : Dsk.St} (h : DskAt w d bl bw s) :
    w.cell? ⟨d, 0, none⟩ = some (.int .i64 (s.size : Int)) ∧ w.cell? ⟨d, 1, none⟩ = some (.map (some bl)) ∧ w.cell? ⟨d, 2, none⟩ = some (.map (some bw)) ∧ w.cell? ⟨d, 3, none⟩ = some (.bool s.down) ∧ w.cell? ⟨d, 4, none⟩ = some (.bool s.fused) ∧ w.cell? ⟨d, 5, none⟩ = some (.int .i64 s.fuse) :=
  ⟨row_cell h.top rfl, row_cell h.top rfl, row_cell h.top rfl, row_cell h.top rfl, row_cell h.top rfl, row_cell h.top rfl⟩

/-- what waits in a sector, and what lasts: in whatever world holds these maps -/
theorem DskAt.look {w : World} {d bl bw : Nat} {s : Dsk.St} (h : DskAt w d bl bw s) {n : Int} (hn : s.inside n = true) :
    ∃ v u, (∀ w' : World, w'.heap = w.heap → (Instr.lookup 59 (.map (some bw)) (.int .i64 n) true).run Try.prog w' = .ok (.tuple #[v, .bool (s.W n.toNat).isSome]) w') ∧ Bytes w v ((s.W n.toNat).getD []) ∧
      (∀ w' : World, w'.heap = w.heap → (Instr.lookup 59 (.map (some bl)) (.int .i64 n) false).run Try.prog w' = .ok u w') ∧ Bytes w u (s.L n.toNat) := by
  obtain ⟨n0, n1⟩ := Dsk.St.inside_iff.1 hn
  have hi := h.ok.hi
  have hk : inI64 n := ⟨by omega, by omega⟩
  obtain ⟨v, r1, b1⟩ := h.waits.look hk
  rw [ext_pos _ n0] at r1 b1
  obtain ⟨F, hF, e, -⟩ := h.lasts
  obtain ⟨u, r2, b2⟩ := hF.look hk
  refine ⟨v, u, fun w' hw => (r1 w' (by rw [hw])).1, b1, fun w' hw => (r2 w' (by rw [hw])).2, ?_⟩
  have := e n.toNat
  rw [show ((n.toNat : Nat) : Int) = n by omega] at this
  rw [this]
  exact b2

end Go.Proofs.Ytddcdhmeknkphaa
