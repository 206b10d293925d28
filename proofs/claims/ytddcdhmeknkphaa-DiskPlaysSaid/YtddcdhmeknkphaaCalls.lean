/- What is done to a disk, as it came in: a slice of structs of six fields, two of which are slices. -/
import Derived.Test.YtddcdhmeknkphaaOpen
import Derived.Test.YtddcdhmeknkphaaOpenInts
import Derived.Test.YtddcdhmeknkphaaDskPlain2
import Derived.Deep.Slices
import Derived.ChangeSame
namespace Go.Proofs.Ytddcdhmeknkphaa
open Go.ChangeShapes Go.WideShapes Go.ChangeAt Go.RowKit

/-- the six cells of a call -/
def CallCells (w : World) (f : Nat → Option Value) (c : CallD) : Prop :=
  f 0 = some (.int .i64 c.kind) ∧ f 1 = some (.int .i64 c.n) ∧ (∃ u, f 2 = some u ∧ Bytes w u c.b) ∧ (∃ u, f 3 = some u ∧ Row w u (intVals c.keep)) ∧ f 4 = some (.int .i64 c.at_) ∧ f 5 = some (.int .u8 (c.by_.toNat : Int)) ∧ CallWf c

/-- a script -/
def Calls4 (w : World) (v : Value) (l : List CallD) : Prop :=
  ∃ a cap b o, v = .slice a l.length cap ∧ (l ≠ [] → a = some ⟨b, o, none⟩) ∧ ∀ i, i < l.length → CallCells w (fun j => w.cell? ⟨b, o + (i * 6 + j), none⟩) (l.getD i default)

theorem Row.old {w : World} {v : Value} {vals : List Value} (h : Row w v vals) (hn : vals ≠ []) : ∀ k, v.ownBlock = some k → k < w.heap.size := by
  intro k hk
  rcases h with ⟨rfl, rfl⟩ | ⟨x, cap, rfl, hc, hs, h⟩
  · exact absurd rfl hn
  · simp only [Value.ownBlock, Option.some.injEq] at hk
    subst hk
    have hv : vals[0]? = some (vals[0]'(List.length_pos_iff.2 hn)) := List.getElem?_eq_getElem _
    have := block_lt_of_cell (h 0 _ hv)
    rw [Addr.add_block] at this
    exact this

theorem CallCells.below {w w' : World} {f g : Nat → Option Value} {c : CallD} (h : CallCells w f c) (hb : Below w.heap.size w w') (hg : ∀ j v, f j = some v → g j = some v) : CallCells w' g c := by
  obtain ⟨h0, h1, ⟨u2, h2, b2⟩, ⟨u3, h3, b3⟩, h4, h5, h6⟩ := h
  exact ⟨hg _ _ h0, hg _ _ h1, ⟨u2, hg _ _ h2, b2.below hb⟩, ⟨u3, hg _ _ h3, b3.below hb⟩, hg _ _ h4, hg _ _ h5, h6⟩

theorem Calls4.below {w w' : World} {v : Value} {l : List CallD} (h : Calls4 w v l) (hb : Below w.heap.size w w') : Calls4 w' v l := by
  obtain ⟨a, cap, b, o, e, ha, hc⟩ := h
  exact ⟨a, cap, b, o, e, ha, fun i hi => (hc i hi).below hb fun j u hu => (hb.cell (block_lt_of_cell hu)).trans hu⟩

theorem bytes_cell {H : Type} {enc : TypeId × Value → H} {P : Program} {W : World} {t e : TypeId} (ht : P.underlying t = some (.slice e)) (he : P.underlying e = some (.int .u8)) (hc : P.cellsOf e = 1)
    {base : Nat} {spare : Nat → Bool} {held : Bool} {v : Value} {n : Nat} {z : DataW H × List MemPlace} (h : DataW.trod enc P W base spare held n t [v] = some z) : ∃ l, Bytes W v l := by
  rcases open_ints ht he hc h with ⟨hcs, _⟩ | ⟨x, l, c, zs, hcs, _, hl, hm, hz, _, hcell, hwz⟩
  · simp at hcs
    subst hcs
    exact ⟨[], .inl ⟨rfl, rfl⟩⟩
  · simp at hcs
    subst hcs
    exact ⟨_, bytes_row hl (by rw [hz]; split <;> omega) hcell hwz⟩

theorem ints_cell {H : Type} {enc : TypeId × Value → H} {P : Program} {W : World} {t e : TypeId} (ht : P.underlying t = some (.slice e)) (he : P.underlying e = some (.int .i64)) (hc : P.cellsOf e = 1)
    {base : Nat} {spare : Nat → Bool} {held : Bool} {v : Value} {n : Nat} {z : DataW H × List MemPlace} (h : DataW.trod enc P W base spare held n t [v] = some z) : ∃ l : List Int, Row W v (intVals l) ∧ ∀ k ∈ l, inI64 k := by
  rcases open_ints ht he hc h with ⟨hcs, _⟩ | ⟨x, l, c, zs, hcs, _, hl, hm, hz, _, hcell, hwz⟩
  · simp at hcs
    subst hcs
    exact ⟨[], .inl ⟨rfl, rfl⟩, fun _ h => by cases h⟩
  · simp at hcs
    subst hcs
    exact ⟨_, nums_row hl (by rw [hz]; split <;> omega) hcell, fun k hk => i64_of_wf (hwz k (List.mem_of_mem_take hk))⟩

theorem int_cell {H : Type} {enc : TypeId × Value → H} {P : Program} {W : World} {t : TypeId} {q : IntKind} (ht : P.underlying t = some (.int q))
    {base : Nat} {spare : Nat → Bool} {held : Bool} {v : Value} {n : Nat} {z : DataW H × List MemPlace} (h : DataW.trod enc P W base spare held n t [v] = some z) : ∃ a, v = .int q a ∧ (Lit.int q a).wf = true := by
  obtain ⟨a, e, -, hw⟩ := DataW.trod_int ht h
  simp at e
  exact ⟨a, e, hw⟩

set_option maxRecDepth 100000 in
/-- the cells of a call, opened -/
theorem call_cells {H : Type} {enc : TypeId × Value → H} {W : World} {base : Nat} {spare : Nat → Bool} {held : Bool} {n : Nat} {cs : List Value} {z : DataW H × List MemPlace} (hl : cs.length = 6)
    (h : DataW.trod enc Try.prog W base spare held n 48 cs = some z) : ∃ c : CallD, CallCells W (fun j => cs[j]?) c := by
  obtain ⟨xs, k, hk, hxy, _, hxl, hf⟩ := DataW.trod_struct Try.underlying48 h
  match cs, hl with
  | [v0, v1, v2, v3, v4, v5], _ =>
    have hx : ∀ i, i < 6 → ∃ x, xs[i]? = some x := fun i hi => ⟨xs[i]'(by rw [hxl]; exact hi), List.getElem?_eq_getElem _⟩
    obtain ⟨x0, y0⟩ := hx 0 (by omega)
    have g0 : DataW.trod enc Try.prog W base spare held k 3 [v0] = some x0 := (hf 0 _ rfl).trans y0
    obtain ⟨x1, y1⟩ := hx 1 (by omega)
    have g1 : DataW.trod enc Try.prog W base spare held k 3 [v1] = some x1 := (hf 1 _ rfl).trans y1
    obtain ⟨x2, y2⟩ := hx 2 (by omega)
    have g2 : DataW.trod enc Try.prog W base spare held k 29 [v2] = some x2 := (hf 2 _ rfl).trans y2
    obtain ⟨x3, y3⟩ := hx 3 (by omega)
    have g3 : DataW.trod enc Try.prog W base spare held k 39 [v3] = some x3 := (hf 3 _ rfl).trans y3
    obtain ⟨x4, y4⟩ := hx 4 (by omega)
    have g4 : DataW.trod enc Try.prog W base spare held k 3 [v4] = some x4 := (hf 4 _ rfl).trans y4
    obtain ⟨x5, y5⟩ := hx 5 (by omega)
    have g5 : DataW.trod enc Try.prog W base spare held k 5 [v5] = some x5 := (hf 5 _ rfl).trans y5
    obtain ⟨c0, rfl, -⟩ := int_cell Try.underlying3 g0
    obtain ⟨c1, rfl, w1⟩ := int_cell Try.underlying3 g1
    obtain ⟨c2, b2⟩ := bytes_cell Try.underlying29 Try.underlying5 (by kernel_rfl) g2
    obtain ⟨c3, b3, k3⟩ := ints_cell Try.underlying39 Try.underlying3 (by kernel_rfl) g3
    obtain ⟨c4, rfl, w4⟩ := int_cell Try.underlying3 g4
    obtain ⟨c5, rfl, w5⟩ := int_cell Try.underlying5 g5
    obtain ⟨c5, rfl⟩ := u8_of_wf w5
    exact ⟨⟨c0, c1, c2, c3, c4, c5⟩, rfl, rfl, ⟨_, rfl, b2⟩, ⟨_, rfl, b3⟩, rfl, rfl, ⟨i64_of_wf w1, i64_of_wf w4, k3⟩⟩

theorem choose_calls {m : Nat} {p : Nat → CallD → Prop} (h : ∀ i, i < m → ∃ c, p i c) : ∃ l : List CallD, l.length = m ∧ ∀ i, i < m → p i (l.getD i default) := by
  induction m with
  | zero => exact ⟨[], rfl, fun i hi => by omega⟩
  | succ m ih =>
    obtain ⟨l, hl, hp⟩ := ih fun i hi => h i (by omega)
    obtain ⟨c, hc⟩ := h m (by omega)
    refine ⟨l ++ [c], by simp [hl], fun i hi => ?_⟩
    by_cases e : i < m
    · have : (l ++ [c]).getD i default = l.getD i default := by simp [List.getD, List.getElem?_append_left (show i < l.length by omega)]
      rw [this]; exact hp i e
    · obtain rfl : i = m := by omega
      have : (l ++ [c]).getD i default = c := by rw [← hl]; simp [List.getD]
      rw [this]; exact hc

set_option maxRecDepth 100000 in
theorem open_calls {H : Type} {enc : TypeId × Value → H} {W : World} {base : Nat} {spare : Nat → Bool} {held : Bool} {v : Value} {d : DataW H} {p : List MemPlace} (hv : ∃ a len cap, v = .slice a len cap) (h : DataW.Trod enc Try.prog W base spare held 33 v d p) : ∃ l, Calls4 W v l := by
  obtain ⟨a, len, cap, rfl⟩ := hv
  obtain ⟨fuel, hf⟩ := h
  rcases Go.Deep.open_slice Try.underlying33 hf with ⟨hcs, _⟩ | ⟨x, len', cap', m, n, D, Pl, hcs, hb, hl, hm, hmm, _, hx⟩
  · simp [Value.cells] at hcs
    obtain ⟨rfl, rfl, rfl⟩ := hcs
    exact ⟨[], none, 0, 0, 0, rfl, fun h => absurd rfl h, fun i hi => by simp at hi⟩
  · simp [Value.cells] at hcs
    obtain ⟨rfl, rfl, rfl⟩ := hcs
    have hle : len ≤ m := by rw [hmm]; split <;> omega
    obtain ⟨b, o, sp⟩ := x
    have ce : Try.prog.cellsOf 48 = 6 := by kernel_rfl
    have hsp : 0 < len → sp = none := by
      intro h0
      obtain ⟨cs, h1, -⟩ := hx 0 (by omega)
      rw [ce] at h1
      obtain ⟨_, hlen, hcell⟩ := World.cells?_some h1
      have := hcell 0 (by omega)
      have h0 : cs[0]? = some (cs[0]'(by omega)) := List.getElem?_eq_getElem _
      rw [h0] at this
      have := World.cell?_spot this
      simpa [Go.Addr.add] using this
    have each : ∀ i, i < len → ∃ c, CallCells W (fun j => W.cell? ⟨b, o + (i * 6 + j), none⟩) c := by
      intro i hi
      obtain ⟨cs, h1, h2⟩ := hx i (by omega)
      rw [ce] at h1
      obtain ⟨_, hlen, hcell⟩ := World.cells?_some h1
      obtain ⟨c, hc⟩ := call_cells hlen h2
      obtain rfl := hsp (by omega)
      refine ⟨c, ?_⟩
      obtain ⟨g0, g1, ⟨u2, g2, b2⟩, ⟨u3, g3, b3⟩, g4, g5, g6⟩ := hc
      have hc' : ∀ j, j < 6 → W.cell? ⟨b, o + (i * 6 + j), none⟩ = cs[j]? := by
        intro j hj
        have := hcell j (by omega)
        rw [Go.Deep.add_add, addr_add] at this
        exact this
      exact ⟨(hc' 0 (by omega)).trans g0, (hc' 1 (by omega)).trans g1, ⟨u2, (hc' 2 (by omega)).trans g2, b2⟩, ⟨u3, (hc' 3 (by omega)).trans g3, b3⟩, (hc' 4 (by omega)).trans g4, (hc' 5 (by omega)).trans g5, g6⟩
    obtain ⟨l, hll, hp⟩ := choose_calls each
    subst hll
    refine ⟨l, _, cap, b, o, rfl, fun hn => ?_, hp⟩
    rw [hsp (List.length_pos_iff.2 hn)]

/-- one call of a script, in a later world -/
theorem call_at {w0 wr : World} {b o k : Nat} {c : CallD} (h : CallCells w0 (fun j => w0.cell? ⟨b, o + (k + j), none⟩) c) (hB : Below w0.heap.size w0 wr) :
    ∃ kind n a2 l2 c2 a3 l3 c3 t x, c = ⟨kind, n, l2, l3, t, x⟩ ∧ CallWf c ∧ Bytes wr (.slice a2 l2.length c2) l2 ∧ Row wr (.slice a3 l3.length c3) (intVals l3) ∧ (l3 ≠ [] → ∀ j, (Value.slice a3 l3.length c3).ownBlock = some j → j < w0.heap.size) ∧
      wr.cell? ⟨b, o + k, none⟩ = some (.int .i64 kind) ∧ wr.cell? ⟨b, o + k + 1, none⟩ = some (.int .i64 n) ∧ wr.cell? ⟨b, o + k + 2, none⟩ = some (.slice a2 l2.length c2) ∧ wr.cell? ⟨b, o + k + 3, none⟩ = some (.slice a3 l3.length c3) ∧ wr.cell? ⟨b, o + k + 4, none⟩ = some (.int .i64 t) ∧ wr.cell? ⟨b, o + k + 5, none⟩ = some (.int .u8 (x.toNat : Int)) := by
  obtain ⟨g0, g1, ⟨u2, g2, b2⟩, ⟨u3, g3, b3⟩, g4, g5, wf⟩ := h
  simp only [Nat.add_zero, ← Nat.add_assoc] at g0 g1 g2 g3 g4 g5
  have mv : ∀ {a : Addr} {v : Value}, w0.cell? a = some v → wr.cell? a = some v := fun hu => (hB.cell (block_lt_of_cell hu)).trans hu
  obtain ⟨a2, c2, rfl, -, -⟩ := b2.opened
  have hold : c.keep ≠ [] → ∀ j, u3.ownBlock = some j → j < w0.heap.size := fun hne => b3.old (by intro e; apply hne; simpa [intVals] using e)
  obtain ⟨a3, c3, rfl, -, -⟩ := b3.opened
  rw [intVals_length] at *
  exact ⟨c.kind, c.n, a2, c.b, c2, a3, c.keep, c3, c.at_, c.by_, rfl, wf, b2.below hB, b3.below hB, hold, mv g0, mv g1, mv g2, mv g3, mv g4, mv g5⟩

theorem open_ints64 {H : Type} {enc : TypeId × Value → H} {P : Program} {W : World} {t e : TypeId} (ht : P.underlying t = some (.slice e)) (he : P.underlying e = some (.int .i64)) (hc : P.cellsOf e = 1)
    {base : Nat} {spare : Nat → Bool} {held : Bool} {v : Value} {d : DataW H} {p : List MemPlace} (hv : ∃ a len cap, v = .slice a len cap) (h : DataW.Trod enc P W base spare held t v d p) : ∃ l : List Int, Row W v (intVals l) ∧ ∀ k ∈ l, inI64 k := by
  obtain ⟨a, len, cap, rfl⟩ := hv
  obtain ⟨fuel, hf⟩ := h
  exact ints_cell ht he hc hf

end Go.Proofs.Ytddcdhmeknkphaa
