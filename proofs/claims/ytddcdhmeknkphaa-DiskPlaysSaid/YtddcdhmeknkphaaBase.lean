/- Small facts that every walk of this family uses: words as numbers, blocks of the call's own, slices of bytes. No program in sight. -/
import Derived.WalkKit
import Derived.WalkSpells
import Derived.WalkLawsBesides
import Derived.Lib.Hide
import Derived.Lib.AppendZeros
namespace Go.Proofs.Ytddcdhmeknkphaa
open Go.RowKit

/-- a word as the model's number -/
def num32 (x : BitVec 32) : Int := (x.toNat : Int)
theorem u32_nonneg (x : BitVec 32) : 0 ≤ num32 x := Int.natCast_nonneg _
theorem u32_lt (x : BitVec 32) : num32 x < 4294967296 := by unfold num32; have := x.isLt; omega
theorem u32_inj {x y : BitVec 32} : num32 x = num32 y ↔ x = y := by
  unfold num32
  constructor
  · intro h; apply BitVec.eq_of_toNat_eq; omega
  · intro h; rw [h]
theorem u32_of (n : Int) (h0 : 0 ≤ n) (h : n < 4294967296) : n = num32 (BitVec.ofInt 32 n) := by
  unfold num32
  rw [BitVec.toNat_ofInt]
  omega

theorem ret_int {k : IntKind} {a b : Int} (h : a = b) : Ending.returned (.int k a) = .returned (.int k b) := by rw [h]

theorem wrap_u32 (z : BitVec 32) : IntKind.u32.wrap (z.toNat : Int) = (z.toNat : Int) := by
  have := z.isLt
  simp [IntKind.wrap, IntKind.bits, IntKind.signed]
  omega

theorem ofInt_u32 (x : BitVec 32) : BitVec.ofInt IntKind.u32.bits (x.toNat : Int) = x := by
  show BitVec.ofInt 32 _ = x
  simp

theorem xor32 (x y : BitVec 32) : bits .xor .u32 (num32 x) (num32 y) = num32 (x ^^^ y) := by
  unfold bits num32
  simp only [ofInt_u32]
  exact wrap_u32 _

theorem and32 (x y : BitVec 32) : bits .and .u32 (num32 x) (num32 y) = num32 (x &&& y) := by
  unfold bits num32
  simp only [ofInt_u32]
  exact wrap_u32 _

theorem not32 (x : BitVec 32) : bits .xor .u32 IntKind.u32.max (num32 x) = num32 (~~~x) := by
  have e : IntKind.u32.max = num32 4294967295#32 := rfl
  rw [e, xor32]
  congr 1

theorem and1 (x : BitVec 32) : bits .and .u32 (num32 x) (1 : Int) = ((x.toNat % 2 : Nat) : Int) := by
  have h := and32 x 1#32
  rw [show num32 1#32 = 1 from rfl] at h
  rw [h]; unfold num32; rw [BitVec.toNat_and]
  congr 1
  exact Nat.and_one_is_mod _

theorem half32 (x : BitVec 32) : num32 x / (2 : Int) = num32 (x >>> 1) := by
  unfold num32
  rw [BitVec.toNat_ushiftRight, Nat.shiftRight_eq_div_pow]; simp

/-- a block of cells of the call's own -/
theorem row_cell {w : World} {b i : Nat} {cs : Array Value} {t : TypeId} {fr : Nat × Nat} {v : Value} (h : w.heap[b]? = some (.cells cs t fr)) (hv : cs[i]? = some v) : w.cell? ⟨b, i, none⟩ = some v := by
  rw [cell_of_row w b i cs t fr h]; exact hv

theorem below_setRow {B : Nat} {a w : World} (h : Below B a w) {g : Nat} (hg : B ≤ g) (cs : Array Value) : Below B a (w.setRow g cs) :=
  h.trans ⟨rfl, rfl, rfl, by simp, fun k hk => setRow_other _ _ _ _ (by omega)⟩

/-- a slice of bytes reads as a list -/
def Bytes (w : World) (v : Value) (l : List UInt8) : Prop :=
  (v = .slice none 0 0 ∧ l = []) ∨
  ∃ x cap, v = .slice (some x) l.length cap ∧ l.length ≤ cap ∧ (l ≠ [] → x.spot = none) ∧ ∀ i, i < l.length → w.cell? (x.add i) = some (.int .u8 ((l.getD i 0).toNat : Int))

theorem Bytes.nil (w : World) : Bytes w (.slice none 0 0) [] := .inl ⟨rfl, rfl⟩

theorem addr_add (b o i : Nat) : (⟨b, o, none⟩ : Addr).add i = ⟨b, o + i, none⟩ := Addr.add_lit b o i

theorem Addr.add_block (x : Addr) (i : Nat) : (x.add i).block = x.block := by
  unfold Go.Addr.add; split <;> rfl

/-- a slice of bytes, opened for a walk -/
theorem Bytes.opened {w : World} {v : Value} {l : List UInt8} (h : Bytes w v l) : ∃ a cap, v = .slice a l.length cap ∧ l.length ≤ cap ∧
    ∃ b o, (l ≠ [] → a = some ⟨b, o, none⟩) ∧ Hid (∀ i, i < l.length → w.cell? ⟨b, o + i, none⟩ = some (.int .u8 ((l.getD i 0).toNat : Int))) := by
  rcases h with ⟨rfl, rfl⟩ | ⟨⟨b, o, sp⟩, cap, rfl, hc, hs, h⟩
  · exact ⟨none, 0, rfl, Nat.le_refl _, 0, 0, fun h => absurd rfl h, fun i hi => by simp at hi⟩
  · refine ⟨_, cap, rfl, hc, b, o, fun hn => by rw [show sp = none from hs hn], fun i hi => ?_⟩
    have hn : l ≠ [] := by intro e; subst e; simp at hi
    obtain rfl : sp = none := hs hn
    rw [← h i hi, addr_add]

/-- bytes stand behind whatever changes no block that was there, but for blocks that do not hold them -/
theorem Bytes.kept {w w' : World} {v : Value} {l : List UInt8} (h : Bytes w v l) (hb : ∀ k, v.ownBlock = some k → k < w.heap.size → w'.heap[k]? = w.heap[k]?) : Bytes w' v l := by
  rcases h with h | ⟨x, cap, rfl, hc, hs, h⟩
  · exact .inl h
  · refine .inr ⟨x, cap, rfl, hc, hs, fun i hi => ?_⟩
    have hi' := h i hi
    rw [← hi']
    have hlt := block_lt_of_cell hi'
    rw [Addr.add_block] at hlt
    exact World.cell?_of_block (w := w) (by rw [Addr.add_block]; exact hb x.block rfl hlt)

theorem Bytes.below {w w' : World} {v : Value} {l : List UInt8} (h : Bytes w v l) (hb : Below w.heap.size w w') : Bytes w' v l :=
  h.kept fun k _ hk => hb.block k hk

theorem Bytes.cut {w w' : World} {v : Value} {l : List UInt8} (h : Bytes w v l) (hb : Hid (Below w.heap.size w w')) : Bytes w' v l := h.below hb.out

/-- the bytes of a block -/
theorem bytes_block {w : World} {b : Nat} {cs : Array Value} {t : TypeId} {fr : Nat × Nat} (hb : w.heap[b]? = some (.cells cs t fr)) (l : List UInt8) (n c : Nat) (hn : n = l.length) (hc : n ≤ c)
    (h : ∀ i, i < l.length → cs[i]? = some (.int .u8 ((l.getD i 0).toNat : Int))) :
    Bytes w (.slice (some ⟨b, 0, none⟩) n c) l := by
  subst hn
  exact .inr ⟨_, _, rfl, hc, fun _ => rfl, fun i hi => by rw [addr_add, Nat.zero_add]; exact row_cell hb (h i hi)⟩

def byteVals (l : List UInt8) : List Value := l.map fun x => Value.int .u8 (x.toNat : Int)
theorem byteVals_length (l : List UInt8) : (byteVals l).length = l.length := by simp [byteVals]
theorem byteVals_append (l m : List UInt8) : byteVals (l ++ m) = byteVals l ++ byteVals m := by simp [byteVals]
theorem byteVals_get (l : List UInt8) (i : Nat) (h : i < l.length) : (byteVals l)[i]? = some (.int .u8 ((l.getD i 0).toNat : Int)) := by
  simp [byteVals, List.getD, h]
theorem byteVals_one (l : List UInt8) : ∀ u ∈ byteVals l, u.oneCell' = true := by
  intro u hu
  simp only [byteVals, List.mem_map] at hu
  obtain ⟨x, _, rfl⟩ := hu
  rfl

theorem take_getElem? {α : Type} (l : List α) (n i : Nat) (xs : List α) (h : l.take n = xs) (hi : i < n) : l[i]? = xs[i]? := by
  rw [← h, List.getElem?_take, if_pos hi]

theorem own_bytes {w : World} {base : Nat} {e : TypeId} {v : Value} {l : List UInt8} (h : w.ownsRow base e 1 v l.length (byteVals l)) : Bytes w v l := by
  rcases h.2 with ⟨rfl, h0⟩ | ⟨g, cap, cur, rfl, _, hg, hc, _, _, ht⟩
  · exact .inl ⟨rfl, List.length_eq_zero_iff.mp h0⟩
  · refine bytes_block hg l l.length cap rfl hc fun i hi => ?_
    rw [← Array.getElem?_toList, take_getElem? _ (l.length * 1) i _ ht (by omega), byteVals_get l i hi]

theorem own_base {w : World} {base : Nat} {e : TypeId} {size : Nat} {v : Value} {n : Nat} {xs : List Value} (h : w.ownsRow base e size v n xs) : ∀ k, v.ownBlock = some k → base ≤ k := by
  intro k hk
  rcases h.2 with ⟨rfl, _⟩ | ⟨g, cap, cur, rfl, hb, _⟩
  · cases hk
  · simp only [Value.ownBlock, Option.some.injEq] at hk
    omega

theorem own_below {w w' : World} {base : Nat} {e : TypeId} {size : Nat} {v : Value} {n : Nat} {xs : List Value} (h : w.ownsRow base e size v n xs) (hg : w.grownBy w' v.ownBlock) (hb : base ≤ w.heap.size) : Below base w w' :=
  (Below.refl _ _).grown hg hb (own_base h)

theorem oneCell_src {w : World} {src : Value} {m : List UInt8} (h : Bytes w src m) : (src = .slice none 0 0 ∧ m = []) ∨ ∃ x cap, src = .slice (some x) m.length cap ∧ ∀ j u, (byteVals m)[j]? = some u → w.cell? (x.add j) = some u := by
  rcases h with h | ⟨x, cap, rfl, _, _, h⟩
  · exact .inl h
  · refine .inr ⟨x, cap, rfl, fun j u hu => ?_⟩
    have hj : j < m.length := by
      rcases Nat.lt_or_ge j m.length with h' | h'
      · exact h'
      · rw [List.getElem?_eq_none (by rw [byteVals_length]; exact h')] at hu; cases hu
    rw [byteVals_get m j hj] at hu
    cases hu
    exact h j hj

/-- bytes are appended to bytes of the call's own -/
theorem append_bytes {P : Program} {w : World} {t e : TypeId} (ty : TypeId) (ht : P.underlying t = some (.slice e)) (hi : (P.info? e).map (fun i => (i.zero, i.size, i.bytes)) = some (some (.int .u8 0), 1, 1))
    {base : Nat} {v : Value} {l : List UInt8} (hown : w.ownsRow base e 1 v l.length (byteVals l)) {src : Value} {m : List UInt8} (hsrc : Bytes w src m)
    (h63 : l.length + m.length ≤ 140737488355328) (hbase : base ≤ w.heap.size) :
    ∃ v' w', (Builtin.append_ #[t, t] ty #[v, src]).run P w = .ok v' w' ∧ w'.ownsRow base e 1 v' (l ++ m).length (byteVals (l ++ m)) ∧ w.grownBy w' v.ownBlock := by
  obtain ⟨i, hi1, hi2, hi3, hi4⟩ := info_parts hi
  rcases oneCell_src hsrc with ⟨rfl, rfl⟩ | ⟨x, cap, rfl, hc⟩
  · refine ⟨v, w, run_append_owned_none w base t ty e i 1 ht hi1 v l.length _ hown, ?_, World.grownBy.refl _ _⟩
    rw [List.append_nil]; exact hown
  · obtain ⟨v', w', h1, h2, h3, _⟩ := run_append_own (P := P) w base t ty e i (.int .u8 0) 1 1 ht hi1 hi2 hi3 hi4 rfl (by omega) v l.length (byteVals l) hown x m.length cap (byteVals m) (by rw [byteVals_length]; omega) hc (byteVals_one m)
      (by unfold maxLen; omega) (by omega) hbase
    refine ⟨v', w', h1, ?_, h3⟩
    rw [List.length_append, byteVals_append]
    exact h2

theorem byteVals_set (l : List UInt8) (i : Nat) (y : UInt8) : byteVals (l.set i y) = (byteVals l).set i (.int .u8 (y.toNat : Int)) := by
  simp [byteVals, List.map_set]

/-- what an owned slice of bytes that is not empty looks like -/
theorem own_shape {w : World} {base : Nat} {e : TypeId} {v : Value} {n : Nat} {xs : List Value} (h : w.ownsRow base e 1 v n xs) (hn : 0 < n) :
    ∃ g cap, v = .slice (some ⟨g, 0, none⟩) n cap ∧ base ≤ g ∧ g < w.heap.size ∧ n ≤ cap := by
  rcases h.2 with ⟨rfl, h0⟩ | ⟨g, cap, cur, rfl, hb, hg, hc, _, _, ht⟩
  · omega
  · exact ⟨g, cap, rfl, hb, lt_of_block hg, hc⟩

theorem shr8 (x : BitVec 32) : num32 x / (256 : Int) = num32 (x >>> 8) := by
  unfold num32
  rw [BitVec.toNat_ushiftRight, Nat.shiftRight_eq_div_pow]; simp

theorem xor8 (x y : UInt8) : bits .xor .u8 (x.toNat : Int) (y.toNat : Int) = ((x ^^^ y).toNat : Int) := by
  unfold bits
  have e : ∀ z : UInt8, BitVec.ofInt IntKind.u8.bits (z.toNat : Int) = z.toBitVec := by
    intro z; show BitVec.ofInt 8 _ = _; simp
  simp only [e]
  have := (x ^^^ y).toNat_lt
  show IntKind.u8.wrap (((x.toBitVec ^^^ y.toBitVec : BitVec 8).toNat : Nat) : Int) = _
  rw [show (x.toBitVec ^^^ y.toBitVec : BitVec 8).toNat = (x ^^^ y).toNat from rfl]
  simp [IntKind.wrap, IntKind.bits, IntKind.signed]
  simp at this; omega

theorem low8 (x : BitVec 32) : num32 x % 256 = ((UInt8.ofNat x.toNat).toNat : Int) := by
  unfold num32
  simp

theorem take_snoc (l : List UInt8) (k : Nat) (h : k < l.length) : l.take (k + 1) = l.take k ++ [l.getD k 0] := by
  rw [List.take_succ_eq_append_getElem h]; simp [List.getD, h]

theorem hid_trans {w a b : World} (h : Hid (Below w.heap.size w a)) (k : Below a.heap.size a b) : Hid (Below w.heap.size w b) := h.out.trans (k.mono h.out.size)

/-- a slice of elements of one cell each reads as a list of values -/
def Row (w : World) (v : Value) (vals : List Value) : Prop :=
  (v = .slice none 0 0 ∧ vals = []) ∨
  ∃ x cap, v = .slice (some x) vals.length cap ∧ vals.length ≤ cap ∧ (vals ≠ [] → x.spot = none) ∧ ∀ (i : Nat) (u : Value), vals[i]? = some u → w.cell? (x.add i) = some u

theorem Row.nil (w : World) : Row w (.slice none 0 0) [] := .inl ⟨rfl, rfl⟩

/-- opened for a walk -/
theorem Row.opened {w : World} {v : Value} {vals : List Value} (h : Row w v vals) : ∃ a cap, v = .slice a vals.length cap ∧ vals.length ≤ cap ∧
    ∃ b o, (vals ≠ [] → a = some ⟨b, o, none⟩) ∧ Hid (∀ (i : Nat) (u : Value), vals[i]? = some u → w.cell? ⟨b, o + i, none⟩ = some u) := by
  rcases h with ⟨rfl, rfl⟩ | ⟨⟨b, o, sp⟩, cap, rfl, hc, hs, h⟩
  · exact ⟨none, 0, rfl, Nat.le_refl _, 0, 0, fun h => absurd rfl h, fun i u hi => by simp at hi⟩
  · refine ⟨_, cap, rfl, hc, b, o, fun hn => by rw [show sp = none from hs hn], fun i u hi => ?_⟩
    have hn : vals ≠ [] := by intro e; subst e; simp at hi
    obtain rfl : sp = none := hs hn
    rw [← h i u hi, addr_add]

theorem Row.kept {w w' : World} {v : Value} {l : List Value} (h : Row w v l) (hb : ∀ k, v.ownBlock = some k → k < w.heap.size → w'.heap[k]? = w.heap[k]?) : Row w' v l := by
  rcases h with h | ⟨x, cap, rfl, hc, hs, h⟩
  · exact .inl h
  · refine .inr ⟨x, cap, rfl, hc, hs, fun i u hi => ?_⟩
    have hi' := h i u hi
    rw [← hi']
    have hlt := block_lt_of_cell hi'
    rw [Addr.add_block] at hlt
    exact World.cell?_of_block (w := w) (by rw [Addr.add_block]; exact hb x.block rfl hlt)

theorem Row.below {w w' : World} {v : Value} {l : List Value} (h : Row w v l) (hb : Below w.heap.size w w') : Row w' v l :=
  h.kept fun k _ hk => hb.block k hk

theorem row_block {w : World} {b : Nat} {cs : Array Value} {t : TypeId} {fr : Nat × Nat} (hb : w.heap[b]? = some (.cells cs t fr)) (l : List Value) (n c : Nat) (hn : n = l.length) (hc : n ≤ c)
    (h : ∀ (i : Nat) (u : Value), l[i]? = some u → cs[i]? = some u) : Row w (.slice (some ⟨b, 0, none⟩) n c) l := by
  subst hn
  exact .inr ⟨_, _, rfl, hc, fun _ => rfl, fun i u hi => by rw [addr_add, Nat.zero_add]; exact row_cell hb (h i u hi)⟩

theorem own_row {w : World} {base : Nat} {e : TypeId} {v : Value} {l : List Value} (h : w.ownsRow base e 1 v l.length l) : Row w v l := by
  rcases h.2 with ⟨rfl, h0⟩ | ⟨g, cap, cur, rfl, _, hg, hc, _, _, ht⟩
  · exact .inl ⟨rfl, List.length_eq_zero_iff.mp h0⟩
  · refine row_block hg l l.length cap rfl hc fun i u hi => ?_
    have hlt : i < l.length := by
      rcases Nat.lt_or_ge i l.length with h' | h'
      · exact h'
      · rw [List.getElem?_eq_none h'] at hi; cases hi
    rw [← Array.getElem?_toList, take_getElem? _ (l.length * 1) i _ ht (by omega)]; exact hi

theorem Bytes.row {w : World} {v : Value} {l : List UInt8} (h : Bytes w v l) : Row w v (byteVals l) := by
  rcases h with ⟨rfl, rfl⟩ | ⟨x, cap, rfl, hc, hs, h⟩
  · exact .inl ⟨rfl, rfl⟩
  · refine .inr ⟨x, cap, by rw [byteVals_length], by rw [byteVals_length]; exact hc, fun hn => hs (by intro e; subst e; exact hn rfl), fun i u hi => ?_⟩
    have hlt : i < l.length := by
      rcases Nat.lt_or_ge i l.length with h' | h'
      · exact h'
      · rw [List.getElem?_eq_none (by rw [byteVals_length]; exact h')] at hi; cases hi
    rw [byteVals_get l i hlt] at hi
    cases hi
    exact h i hlt

/-- one value of one cell is appended to a slice of the call's own -/
theorem append_val {P : Program} {w0 : World} {t e : TypeId} (ty : TypeId) {z : Value} {bytes : Nat} (ht : P.underlying t = some (.slice e)) (hi : (P.info? e).map (fun i => (i.zero, i.size, i.bytes)) = some (some z, 1, bytes)) (hz : z.cells.size = 1)
    {base : Nat} {v : Value} {vals : List Value} (hown : w0.ownsRow base e 1 v vals.length vals) (x : Value) (hx : x.oneCell' = true) (hb : bytes ≤ 64) (h63 : vals.length ≤ 1000000000) (hbase : base ≤ w0.heap.size) :
    ∃ v' w', (Builtin.append_ #[t, t] ty #[v, .slice (some ⟨w0.heap.size, 0, none⟩) 1 1]).run P (w0.alloc (.cells #[x] e)) = .ok v' w' ∧ w'.ownsRow base e 1 v' (vals ++ [x]).length (vals ++ [x]) ∧ Below base w0 w' := by
  obtain ⟨i, hi1, hi2, hi3, hi4⟩ := info_parts hi
  have hbyte : (vals.length + 1) * bytes ≤ 140737488355328 := by
    have : (vals.length + 1) * bytes ≤ (1000000000 + 1) * 64 := Nat.mul_le_mul (by omega) hb
    omega
  obtain ⟨v', w', h1, h2, h3, _⟩ := run_append_own (P := P) (w0.alloc (.cells #[x] e)) base t ty e i z 1 bytes ht hi1 hi2 hi3 hi4 hz (by omega) v vals.length vals (hown.alloc _) ⟨w0.heap.size, 0, none⟩ 1 1 [x] rfl (by
      intro j u hj
      match j, hj with
      | 0, hj =>
        simp at hj; subst hj
        rw [addr_add]
        exact row_cell (heap_alloc_new _ _) rfl) (by intro u hu; simp at hu; subst hu; exact hx)
      (by unfold maxLen; omega) hbyte (by simp; omega)
  refine ⟨v', w', h1, by rw [List.length_append]; exact h2, ?_⟩
  exact ((Below.refl _ _).alloc hbase _).trans ((Below.refl _ _).grown h3 (by simp; omega) (own_base (w := w0) hown))

/-- of the blocks that were there only some may have changed -/
structure Chg (fs : List Nat) (w w' : World) : Prop where
  os : w'.os = w.os
  tape : w'.tape = w.tape
  output : w'.output = w.output
  size : w.heap.size ≤ w'.heap.size
  block : ∀ k, k < w.heap.size → k ∉ fs → w'.heap[k]? = w.heap[k]?

theorem Chg.refl (fs : List Nat) (w : World) : Chg fs w w := ⟨rfl, rfl, rfl, Nat.le_refl _, fun _ _ _ => rfl⟩
theorem Chg.trans {fs : List Nat} {a b c : World} (h : Chg fs a b) (k : Chg fs b c) : Chg fs a c :=
  ⟨k.os.trans h.os, k.tape.trans h.tape, k.output.trans h.output, Nat.le_trans h.size k.size, fun i hi hn => (k.block i (Nat.lt_of_lt_of_le hi h.size) hn).trans (h.block i hi hn)⟩
theorem Chg.mono {fs gs : List Nat} {a b : World} (h : Chg fs a b) (hs : ∀ k, k ∈ fs → k ∈ gs) : Chg gs a b :=
  ⟨h.os, h.tape, h.output, h.size, fun i hi hn => h.block i hi (fun e => hn (hs i e))⟩
/-- what came new may change as it likes -/
theorem Chg.cut {fs gs : List Nat} {a b : World} (h : Chg fs a b) (hs : ∀ k, k ∈ fs → k ∈ gs ∨ a.heap.size ≤ k) : Chg gs a b :=
  ⟨h.os, h.tape, h.output, h.size, fun i hi hn => h.block i hi (fun e => by rcases hs i e with h1 | h1
                                                                            · exact hn h1
                                                                            · omega)⟩
theorem Chg.of_below {fs : List Nat} {w w' : World} (h : Below w.heap.size w w') : Chg fs w w' := ⟨h.os, h.tape, h.output, h.size, fun k hk _ => h.block k hk⟩
theorem Chg.of_hid {fs : List Nat} {w w' : World} (h : Hid (Below w.heap.size w w')) : Chg fs w w' := .of_below h.out
theorem Chg.below {fs : List Nat} {w w' : World} {base : Nat} (h : Chg fs w w') (hb : base ≤ w.heap.size) (hs : ∀ k, k ∈ fs → base ≤ k) : Below base w w' :=
  ⟨h.os, h.tape, h.output, h.size, fun k hk => h.block k (by omega) (fun e => by have := hs k e; omega)⟩
theorem Chg.below_nil {w w' : World} (h : Chg [] w w') : Below w.heap.size w w' := h.below (Nat.le_refl _) (fun _ hk => by cases hk)
theorem Chg.alloc {fs : List Nat} {a w : World} (h : Chg fs a w) (o : Obj) : Chg fs a (w.alloc o) := h.trans (.of_below ((Below.refl _ _).alloc (Nat.le_refl _) _))
theorem Chg.drew {fs : List Nat} {a w : World} (h : Chg fs a w) : Chg fs a w.drew := ⟨h.os, h.tape, h.output, h.size, h.block⟩
theorem Chg.setCell {fs : List Nat} {a w : World} (h : Chg fs a w) {p : Addr} (hp : p.block ∈ fs ∨ a.heap.size ≤ p.block) (u : Value) : Chg fs a (w.setCell p u) := by
  refine ⟨h.os, h.tape, h.output, by rw [World.size_setCell]; exact h.size, fun k hk hn => ?_⟩
  rw [heap_setCell_other _ _ _ _ (by intro e; subst e; rcases hp with h1 | h1
                                     · exact hn h1
                                     · omega)]
  exact h.block k hk hn
theorem Chg.drewN {fs : List Nat} {a w : World} (h : Chg fs a w) (n : Nat) : Chg fs a (w.drewN n) := ⟨h.os, h.tape, h.output, h.size, h.block⟩
theorem Chg.grown {fs : List Nat} {a w w' : World} {row : Option Nat} (h : Chg fs a w) (hg : w.grownBy w' row) (hr : ∀ k, row = some k → k ∈ fs ∨ a.heap.size ≤ k) : Chg fs a w' :=
  ⟨hg.os.trans h.os, hg.tape.trans h.tape, hg.output.trans h.output, Nat.le_trans h.size hg.size, fun k hk hn => (hg.block k (Nat.lt_of_lt_of_le hk h.size) (fun e => by
    rcases hr k e.symm with h1 | h1
    · exact hn h1
    · omega)).trans (h.block k hk hn)⟩

theorem Bytes.chg {fs : List Nat} {w w' : World} {v : Value} {l : List UInt8} (h : Bytes w v l) (hc : Chg fs w w') (hn : ∀ k, v.ownBlock = some k → k ∉ fs) : Bytes w' v l :=
  h.kept fun k hk hlt => hc.block k hlt (hn k hk)

end Go.Proofs.Ytddcdhmeknkphaa
