/- A map from ints to bytes, in one word. -/
import Derived.Test.YtddcdhmeknkphaaProg
import Derived.Test.YtddcdhmeknkphaaBase
import Derived.Maps.OwnSet
import Derived.Maps.RangeWalk
import Derived.Lib.SlMapMerge
import Derived.Lib.SlKeysI
namespace Go.Proofs.Ytddcdhmeknkphaa
open Go.RowKit Go.Maps

def rawElem (v : Value) : Option (DataW Value × List MemPlace) := some (.held v, [])
abbrev key (n : Int) : Lit := .int .i64 n
def inI64 (n : Int) : Prop := -9223372036854775808 ≤ n ∧ n ≤ 9223372036854775807
theorem key_wf {n : Int} (h : inI64 n) : (Lit.int .i64 n).wf = true := WalkArith.wf_i64 h
theorem mlaw : Keyed Try.prog 3 := int_keyed Try.underlying3
theorem mzero (w : World) : (zeroValue 29).run Try.prog w = .ok (.slice none 0 0) w := by kernel_rfl
theorem mkey {n : Int} (h : inI64 n) : keyOf Try.prog 3 (.int .i64 n) = some (key n) := keyOf_int_mk Try.underlying3 (key_wf h)
theorem mt : Try.prog.underlying 59 = some (.map 3 29) := Try.underlying59

theorem key_inj {a b : Int} (h : a ≠ b) : key a ≠ key b := fun e => h (by injection e)

/-- what a datum has at a key -/
def View (w : World) (D : DataW Value) (F : Int → Option (List UInt8)) (k : Int) : Prop :=
  match F k with
  | none => Maps.has D (key k) = false
  | some l => ∃ v, (∀ z, D.atKey (key k) z = .held v) ∧ Bytes w v l

/-- block b is a map that holds these bytes -/
def MapAt (w : World) (b : Nat) (F : Int → Option (List UInt8)) : Prop :=
  (∀ k l, F k = some l → 0 ≤ k ∧ k < 4096) ∧ ∃ D : DataW Value, w.ownsMap Try.prog 3 rawElem b (Maps.size D) D ∧ ∀ k, inI64 k → View w D F k

theorem ownsMap_tight {P : Program} {k : TypeId} {R : Value → Option (DataW Value × List MemPlace)} {w : World} {b n : Nat} {D : DataW Value} (h : w.ownsMap P k R b n D) : w.ownsMap P k R b (Maps.size D) D := by
  obtain ⟨es, clock, hb, F, hs, rfl⟩ := h
  refine ⟨es, clock, hb, F, ?_, rfl⟩
  simp [Maps.size, length_sorted]

theorem MapAt.lt {w : World} {b : Nat} {F : Int → Option (List UInt8)} (h : MapAt w b F) : b < w.heap.size := by
  obtain ⟨-, D, h1, -⟩ := h; exact h1.lt
theorem MapAt.block {w : World} {b : Nat} {F : Int → Option (List UInt8)} (h : MapAt w b F) : ∃ es clock, w.heap[b]? = some (.map es clock) := by
  obtain ⟨-, D, ⟨es, clock, hb, -⟩, -⟩ := h
  exact ⟨es, clock, hb⟩

theorem MapAt.new (w : World) : MapAt (w.alloc (.map #[] 0)) w.heap.size (fun _ => none) :=
  ⟨fun _ _ h => (by cases h), .map [], World.ownsMap_made w _ _ _, fun _ _ => rfl⟩

/-- a block that holds no byte -/
def NoU8 (w : World) (k : Nat) : Prop := ∀ i x, w.cell? ⟨k, i, none⟩ ≠ some (.int .u8 x)
theorem noU8_map {w : World} {k : Nat} {es : Array MapEntry} {c : Nat} (h : w.heap[k]? = some (.map es c)) : NoU8 w k := by
  intro i x e
  have hlt := lt_of_block h
  rw [World.cell?] at e
  simp [h] at e
theorem noU8_cells {w : World} {k : Nat} {cs : Array Value} {t : TypeId} {fr : Nat × Nat} (h : w.heap[k]? = some (.cells cs t fr)) (hc : ∀ (i : Nat) x, cs[i]? ≠ some (.int .u8 x)) : NoU8 w k := by
  intro i x e
  rw [cell_of_row w k i cs t fr h] at e
  exact hc i x e

theorem Bytes.off {fs : List Nat} {w w' : World} {v : Value} {l : List UInt8} (h : Bytes w v l) (hc : Chg fs w w') (hn : ∀ k ∈ fs, NoU8 w k) : Bytes w' v l := by
  rcases h with h | ⟨x, cap, rfl, hc', hs, h⟩
  · exact .inl h
  · refine .inr ⟨x, cap, rfl, hc', hs, fun i hi => ?_⟩
    have hi' := h i hi
    have hlt := block_lt_of_cell hi'
    have hne : l ≠ [] := by intro e; subst e; simp at hi
    have hnf : (x.add i).block ∉ fs := by
      intro hm
      obtain ⟨b, o, sp⟩ := x
      obtain rfl : sp = none := hs hne
      rw [addr_add] at hi' hm
      exact hn _ hm (o + i) _ hi'
    rw [← hi']
    exact World.cell?_of_block (w := w) (hc.block _ hlt hnf)

theorem MapAt.kept {fs : List Nat} {w w' : World} {b : Nat} {F : Int → Option (List UInt8)} (h : MapAt w b F) (hc : Chg fs w w') (hn : ∀ k ∈ fs, NoU8 w k) (hb : b ∉ fs) : MapAt w' b F := by
  obtain ⟨hF, D, h1, h2⟩ := h
  refine ⟨hF, D, ?_, fun k hk => ?_⟩
  · obtain ⟨es, clock, hb', r⟩ := h1
    exact ⟨es, clock, (hc.block b (lt_of_block hb') hb).trans hb', r⟩
  · have := h2 k hk
    unfold View at *
    cases hf : F k with
    | none => rw [hf] at this; exact this
    | some l =>
      rw [hf] at this
      obtain ⟨v, g1, g2⟩ := this
      exact ⟨v, g1, g2.off hc hn⟩

theorem MapAt.below {w w' : World} {b : Nat} {F : Int → Option (List UInt8)} (h : MapAt w b F) (hb : Below w.heap.size w w') : MapAt w' b F :=
  h.kept (Chg.of_below (fs := []) hb) (fun _ hk => by cases hk) (by simp)

/-- the keys, in their order -/
def keysOf (n : Nat) (F : Int → Option (List UInt8)) : List Int := ((List.range n).filter fun (k : Nat) => (F (k : Int)).isSome).map fun (k : Nat) => (k : Int)

theorem keysOf_nodup (n : Nat) (F : Int → Option (List UInt8)) : (keysOf n F).Nodup := by
  unfold keysOf
  unfold List.Nodup
  rw [List.pairwise_map]
  exact ((List.nodup_range (n := n)).filter _).imp (fun h e => h (by omega))

theorem keysOf_sorted (n : Nat) (F : Int → Option (List UInt8)) : (keysOf n F).Pairwise (fun a b => decide (a ≤ b) = true) := by
  unfold keysOf
  rw [List.pairwise_map]
  refine ((List.pairwise_lt_range (n := n)).filter _).imp fun h => ?_
  simp; omega

theorem mem_keysOf {n : Nat} {F : Int → Option (List UInt8)} (hF : ∀ k l, F k = some l → 0 ≤ k ∧ k < n) (k : Int) : k ∈ keysOf n F ↔ (F k).isSome = true := by
  unfold keysOf
  rw [List.mem_map]
  constructor
  · rintro ⟨i, hi, rfl⟩
    exact (List.mem_filter.1 hi).2
  · intro h
    obtain ⟨l, hl⟩ := Option.isSome_iff_exists.1 h
    obtain ⟨h0, h1⟩ := hF k l hl
    refine ⟨k.toNat, List.mem_filter.2 ⟨List.mem_range.2 (by omega), ?_⟩, by omega⟩
    rw [show ((k.toNat : Nat) : Int) = k by omega]
    exact h

theorem view_has {w : World} {D : DataW Value} {F : Int → Option (List UInt8)} {k : Int} (h : View w D F k) : Maps.has D (key k) = (F k).isSome := by
  unfold View at h
  cases hf : F k with
  | none => rw [hf] at h; exact h
  | some l =>
    rw [hf] at h
    obtain ⟨v, g1, -⟩ := h
    exact Maps.has_true_of_atKey g1

theorem MapAt.perm {w : World} {b : Nat} {F : Int → Option (List UInt8)} {D : DataW Value} (hF : ∀ k l, F k = some l → 0 ≤ k ∧ k < 4096) (n : Nat) (hn : ∀ k l, F k = some l → 0 ≤ k ∧ k < n) (h1 : w.ownsMap Try.prog 3 rawElem b (Maps.size D) D) (h2 : ∀ k, inI64 k → View w D F k) : (keysOf n F).Perm (intKeys D) := by
  have htidy := h1.tidy mlaw
  obtain ⟨es, rfl, hp⟩ := htidy
  have hk : ∀ p ∈ es, ∃ x, p.1 = .int .i64 x ∧ inI64 x := by
    obtain ⟨es0, clock, -, Ft, -, hD⟩ := h1
    injection hD with hD
    intro p hp
    have hks := Maps.keys_perm (WideShapes.sorted_perm _).symm (Maps.fit_keys Ft) p (by rw [← hD]; exact hp)
    obtain ⟨v, hv⟩ := hks
    have hu := Try.underlying3
    cases v <;> simp [keyOf, mapKey, hu] at hv
    obtain ⟨hw, hv⟩ := hv
    refine ⟨_, hv.symm, ?_⟩
    have hwf : _ := hw
    obtain ⟨rfl, hwf⟩ := hwf
    simpa [inI64, Lit.wf, IntKind.min, IntKind.max, IntKind.signed, IntKind.bits] using hwf
  refine perm_intKeys hp (fun p hm => by obtain ⟨x, hx, -⟩ := hk p hm; exact ⟨x, hx⟩) (keysOf_nodup n F) fun x => ?_
  rw [mem_keysOf hn]
  by_cases hx : inI64 x
  · rw [view_has (h2 x hx)]
  · constructor
    · intro h
      obtain ⟨l, hl⟩ := Option.isSome_iff_exists.1 h
      have := hF x l hl
      exact absurd ⟨by omega, by omega⟩ hx
    · intro h
      rw [Maps.has_eq, List.any_eq_true] at h
      obtain ⟨p, hm, hs⟩ := h
      obtain ⟨y, hy, hy2⟩ := hk p hm
      have := WideAt.sameKey_eq hs
      rw [hy] at this
      injection this with _ e
      exact absurd (e ▸ hy2) hx

theorem intKeys_length {es : List (Lit × DataW Value)} : (intKeys (.map es)).length = Maps.size (.map es) := by simp [intKeys, Maps.size]

theorem MapAt.few {w : World} {b : Nat} {F : Int → Option (List UInt8)} {D : DataW Value} (hF : ∀ k l, F k = some l → 0 ≤ k ∧ k < 4096) (h1 : w.ownsMap Try.prog 3 rawElem b (Maps.size D) D) (h2 : ∀ k, inI64 k → View w D F k) : Maps.size D ≤ 4096 := by
  have hp := MapAt.perm hF 4096 hF h1 h2
  obtain ⟨es, rfl, -⟩ := h1.tidy mlaw
  rw [← intKeys_length, ← hp.length_eq]
  unfold keysOf
  rw [List.length_map]
  refine Nat.le_trans (List.length_filter_le _ _) ?_
  rw [List.length_range]; exact Nat.le_refl _

/-- 'v, ok := m[k]', 'm[k]': in whatever world holds this map -/
theorem MapAt.look {w : World} {b : Nat} {F : Int → Option (List UInt8)} (h : MapAt w b F) {k : Int} (hk : inI64 k) :
    ∃ v, (∀ w' : World, w'.heap[b]? = w.heap[b]? → (Instr.lookup 59 (.map (some b)) (.int .i64 k) true).run Try.prog w' = .ok (.tuple #[v, .bool (F k).isSome]) w' ∧ (Instr.lookup 59 (.map (some b)) (.int .i64 k) false).run Try.prog w' = .ok v w') ∧ Bytes w v ((F k).getD []) := by
  obtain ⟨hF, D, h1, h2⟩ := h
  have hv := h2 k hk
  have main : ∃ v, D.atKey (key k) (.held (.slice none 0 0)) = .held v ∧ Bytes w v ((F k).getD []) := by
    unfold View at hv
    cases hf : F k with
    | none =>
      rw [hf] at hv
      exact ⟨_, Maps.atKey_of_not_has hv _, .nil _⟩
    | some l =>
      rw [hf] at hv
      obtain ⟨u, g3, g4⟩ := hv
      exact ⟨u, g3 _, g4⟩
  obtain ⟨v, hat, hb⟩ := main
  refine ⟨v, fun w' hw => ?_, hb⟩
  have h1' : w'.ownsMap Try.prog 3 rawElem b (Maps.size D) D := by
    obtain ⟨es, clock, hb', r⟩ := h1
    exact ⟨es, clock, hw.trans hb', r⟩
  obtain ⟨v1, ps, r1, g1⟩ := h1'.look_ok mlaw mt (mzero w') (zd := .held (.slice none 0 0)) (zp := []) rfl (mkey hk)
  obtain ⟨v2, ps', r2, g2⟩ := h1'.lookup mlaw mt (mzero w') (zd := .held (.slice none 0 0)) (zp := []) rfl (mkey hk)
  unfold rawElem at g1 g2
  simp only [Option.some.injEq, Prod.mk.injEq] at g1 g2
  have e1 : v1 = v := DataW.held.inj (g1.1.trans hat)
  have e2 : v2 = v := DataW.held.inj (g2.1.trans hat)
  rw [e1] at r1
  rw [e2] at r2
  exact ⟨r1.trans (by rw [view_has hv]), r2⟩

def updI (F : Int → Option (List UInt8)) (n : Int) (x : Option (List UInt8)) : Int → Option (List UInt8) := fun k => if k = n then x else F k
theorem updI_same (F : Int → Option (List UInt8)) (n : Int) (x : Option (List UInt8)) : updI F n x n = x := by simp [updI]
theorem updI_other (F : Int → Option (List UInt8)) (n k : Int) (x : Option (List UInt8)) (h : k ≠ n) : updI F n x k = F k := by simp [updI, h]

theorem grown_chg {w w' : World} {b : Nat} (h : w.grownBy w' (some b)) : Chg [b] w w' := (Chg.refl [b] w).grown h (fun k e => by cases e; exact .inl (by simp))

/-- 'm[k] = v' -/
theorem MapAt.store {w : World} {b : Nat} {F : Int → Option (List UInt8)} (h : MapAt w b F) {k : Int} (k0 : 0 ≤ k) (k1 : k < 4096) {v : Value} {l : List UInt8} (hv : Bytes w v l) :
    ∃ w', (Instr.mapUpdate 59 (.map (some b)) (.int .i64 k) v).run Try.prog w = .ok () w' ∧ MapAt w' b (updI F k (some l)) ∧ Chg [b] w w' := by
  have hk : inI64 k := ⟨by omega, by omega⟩
  obtain ⟨es, clock, hblk⟩ := h.block
  obtain ⟨hF, D, h1, h2⟩ := h
  have hfew := MapAt.few hF h1 h2
  obtain ⟨w', r, o, g⟩ := h1.update mlaw mt (by unfold maxLen; omega) (mkey hk) (val := v) (d := .held v) (ps := []) rfl
  have hc := grown_chg g
  have hn : ∀ j ∈ [b], NoU8 w j := by
    intro j hj
    simp only [List.mem_singleton] at hj
    subst hj
    exact noU8_map hblk
  refine ⟨w', r, ⟨?_, D.put (key k) (.held v), ownsMap_tight o, fun j hj => ?_⟩, hc⟩
  · intro j m hm
    by_cases e : j = k
    · subst e; exact ⟨k0, k1⟩
    · rw [updI_other _ _ _ _ e] at hm; exact hF j m hm
  · unfold View
    by_cases e : j = k
    · subst e
      rw [updI_same]
      exact ⟨v, fun z => Maps.atKey_put_same h1.isMap (mlaw.key (mkey hk)) _ z, hv.off hc hn⟩
    · rw [updI_other _ _ _ _ e]
      have := h2 j hj
      unfold View at this
      cases hf : F j with
      | none =>
        rw [hf] at this
        simp only
        rw [Maps.has_put_other (key_inj e)]
        exact this
      | some m =>
        rw [hf] at this
        obtain ⟨u, g1, g2⟩ := this
        exact ⟨u, fun z => by rw [Maps.atKey_put_other (key_inj e)]; exact g1 z, g2.off hc hn⟩

/-- 'delete(m, k)' -/
theorem MapAt.drop {w : World} {b : Nat} {F : Int → Option (List UInt8)} (h : MapAt w b F) {k : Int} (hk : inI64 k) (ty : TypeId) :
    ∃ w', (Builtin.delete_ #[59, 3] ty #[.map (some b), .int .i64 k]).run Try.prog w = .ok (.tuple #[]) w' ∧ MapAt w' b (updI F k none) ∧ Chg [b] w w' := by
  obtain ⟨es, clock, hblk⟩ := h.block
  obtain ⟨hF, D, h1, h2⟩ := h
  obtain ⟨w', r, o, g⟩ := h1.drop mlaw mt (mkey hk) ty
  have hc := grown_chg g.grown
  have hn : ∀ j ∈ [b], NoU8 w j := by
    intro j hj
    simp only [List.mem_singleton] at hj
    subst hj
    exact noU8_map hblk
  refine ⟨w', r, ⟨?_, D.del (key k), ownsMap_tight o, fun j hj => ?_⟩, hc⟩
  · intro j m hm
    by_cases e : j = k
    · subst e; rw [updI_same] at hm; cases hm
    · rw [updI_other _ _ _ _ e] at hm; exact hF j m hm
  · unfold View
    by_cases e : j = k
    · subst e
      rw [updI_same]
      exact Maps.has_del_same
    · rw [updI_other _ _ _ _ e]
      have := h2 j hj
      unfold View at this
      cases hf : F j with
      | none =>
        rw [hf] at this
        simp only
        rw [Maps.has_del_other (key_inj e)]
        exact this
      | some m =>
        rw [hf] at this
        obtain ⟨u, g1, g2⟩ := this
        exact ⟨u, fun z => by rw [Maps.atKey_del_other (key_inj e)]; exact g1 z, g2.off hc hn⟩

/-- 'clear(m)' -/
theorem MapAt.clear {w : World} {b : Nat} {F : Int → Option (List UInt8)} (h : MapAt w b F) (ty : TypeId) :
    ∃ w', (Builtin.clear_ #[59] ty #[.map (some b)]).run Try.prog w = .ok (.tuple #[]) w' ∧ MapAt w' b (fun _ => none) ∧ Chg [b] w w' := by
  obtain ⟨es, clock, hblk⟩ := h.block
  obtain ⟨hF, D, h1, h2⟩ := h
  have hr : (Builtin.clear_ #[59] ty #[.map (some b)]).run Try.prog w = .ok (.tuple #[]) (ChangeMaps.setBlock w b (.map #[] clock)) := by
    simp [Builtin.clear_, run_underlying mt, MapKept.run_getObj_map hblk, MapKept.run_setObj_map _ hblk, Result.andThen]
    rfl
  refine ⟨_, hr, ⟨fun _ _ h => by (cases h), .map [], ⟨#[], clock, ChangeMaps.heap_setBlock_same hblk _, ⟨by simp, MapKept.stamped_empty clock, by simp⟩, Nat.le_refl _, rfl⟩, fun _ _ => rfl⟩, ?_⟩
  exact ⟨rfl, rfl, rfl, by simp [ChangeMaps.setBlock], fun k hk hn => ChangeMaps.heap_setBlock_other hblk _ (by simpa using hn)⟩

/-- where two maps come together -/
def both (F G : Int → Option (List UInt8)) : Int → Option (List UInt8) := fun k => match G k with | some l => some l | none => F k

theorem view_merge {w : World} {D E : DataW Value} {F G : Int → Option (List UInt8)} {k : Int} (hd : Maps.IsMap D) (he : Maps.Tidy E) (hek : ∀ p ∈ (match E with | .map es => es | _ => []), WideAt.IsKeyLit p.1) (hF : View w D F k) (hG : View w E G k) : View w (Lib.mergeD D E) (both F G) k := by
  obtain ⟨es, rfl, hp⟩ := he
  have hat : ∀ z, (Lib.mergeD D (.map es)).atKey (key k) z = _ := fun z => Maps.atKey_foldPut (key k) z es D hd hek hp
  have hhas : Maps.has (Lib.mergeD D (.map es)) (key k) = _ := Maps.has_foldPut (key k) es D hd hek
  have hGh := view_has hG
  rw [Maps.has_eq] at hGh
  cases hf : es.find? (fun p => p.1.sameKey (key k)) with
  | none =>
    have hany : es.any (fun p => p.1.sameKey (key k)) = false := by
      rw [List.any_eq_false]
      exact List.find?_eq_none.1 hf
    rw [hany] at hGh hhas
    rw [Bool.or_false] at hhas
    have hg : G k = none := by
      cases h : G k with
      | none => rfl
      | some l => rw [h] at hGh; cases hGh
    simp only [hf] at hat
    unfold View at hF ⊢
    rw [show both F G k = F k by unfold both; rw [hg]]
    cases h : F k with
    | none => rw [h] at hF; simp only; rw [hhas]; exact hF
    | some l =>
      rw [h] at hF
      obtain ⟨v, g1, g2⟩ := hF
      exact ⟨v, fun z => by rw [hat]; exact g1 z, g2⟩
  | some p =>
    simp only [hf] at hat
    unfold View at hG ⊢
    cases h : G k with
    | none =>
      rw [h] at hG
      simp only at hG
      rw [Maps.has_eq, List.any_eq_false] at hG
      exact absurd (List.find?_some hf) (hG p (List.mem_of_find?_eq_some hf))
    | some l =>
      rw [h] at hG
      obtain ⟨v, g1, g2⟩ := hG
      rw [show both F G k = some l by unfold both; rw [h]]
      refine ⟨v, fun z => ?_, g2⟩
      rw [hat]
      have := g1 z
      simp only [DataW.atKey, hf] at this
      exact this

theorem intLits {w : World} {b n : Nat} {D : DataW Value} (h : w.ownsMap Try.prog 3 rawElem b n D) : ∀ p ∈ (match D with | .map es => es | _ => []), WideAt.IsKeyLit p.1 := by
  obtain ⟨es0, clock, -, Ft, -, rfl⟩ := h
  intro p hp
  obtain ⟨v, hv⟩ := Maps.keys_perm (WideShapes.sorted_perm _).symm (Maps.fit_keys Ft) p hp
  exact mlaw.key hv

/-! the operations, by their runs -/
theorem wp_mapUpdate_run {P : Program} {w w' : World} {o : Oper} {a : Act} {K : Act → World → Prop} {Q : Exit → Act → World → Prop} (m x v : Operand) (t : TypeId) (hop : o.op = Op.mapUpdate t m x v)
    {vm vx vv : Value} (hm : a.eval m = vm) (hx : a.eval x = vx) (hv : a.eval v = vv) (hrun : (Instr.mapUpdate t vm vx vv).run P w = .ok () w') (h : K (a.put o.dst undef) w') : o.wp P a w K Q := by
  unfold Oper.wp
  simp [execOp, hop, hm, hx, hv, hrun, Result.andThen]
  exact h

theorem wpList_mapUpdate_run {P : Program} (w : World) {ops : Array Oper} {rest : List Oper} {o : Oper} {a : Act} {Q : Exit → Act → World → Prop} (hg : o.guard = none) (m x v : Operand) (t : TypeId) (hop : o.op = Op.mapUpdate t m x v)
    (vm vx vv : Value) (hm : a.eval m = vm) (hx : a.eval x = vx) (hv : a.eval v = vv) (w' : World) (hrun : (Instr.mapUpdate t vm vx vv).run P w = .ok () w') (h : wpList P ops Q rest (a.put o.dst undef) w') : wpList P ops Q (o :: rest) a w :=
  wpList_plain hg fun _ hK => wp_mapUpdate_run m x v t hop hm hx hv hrun (hK _ _ h)

theorem wp_delete_run {P : Program} {w w' : World} {o : Oper} {a : Act} {K : Act → World → Prop} {Q : Exit → Act → World → Prop} (m x : Operand) (t k : TypeId) (hop : o.op = Op.call { callee := Callee.builtin Builtin.delete, args := #[m, x], argTypes := #[t, k] })
    {vm vx : Value} (hm : a.eval m = vm) (hx : a.eval x = vx) (hrun : (Builtin.delete_ #[t, k] o.type #[vm, vx]).run P w = .ok (.tuple #[]) w') (h : K (a.put o.dst (.tuple #[])) w') : o.wp P a w K Q := by
  unfold Oper.wp
  have e : (execOp a.eval o).run P w = .ok (.value (.tuple #[])) w' := by
    simp [execOp, hop, resolve, invoke, builtin, hm, hx, hrun, Result.andThen]
  rw [e]
  exact h

theorem wpList_delete_run {P : Program} (w : World) {ops : Array Oper} {rest : List Oper} {o : Oper} {a : Act} {Q : Exit → Act → World → Prop} (hg : o.guard = none) (m x : Operand) (t k : TypeId) (hop : o.op = Op.call { callee := Callee.builtin Builtin.delete, args := #[m, x], argTypes := #[t, k] })
    (vm vx : Value) (hm : a.eval m = vm) (hx : a.eval x = vx) (w' : World) (hrun : (Builtin.delete_ #[t, k] o.type #[vm, vx]).run P w = .ok (.tuple #[]) w') (h : wpList P ops Q rest (a.put o.dst (.tuple #[])) w') : wpList P ops Q (o :: rest) a w :=
  wpList_plain hg fun _ hK => wp_delete_run m x t k hop hm hx hrun (hK _ _ h)

theorem wp_clear_run {P : Program} {w w' : World} {o : Oper} {a : Act} {K : Act → World → Prop} {Q : Exit → Act → World → Prop} (m : Operand) (t : TypeId) (hop : o.op = Op.call { callee := Callee.builtin Builtin.clear, args := #[m], argTypes := #[t] })
    {vm : Value} (hm : a.eval m = vm) (hrun : (Builtin.clear_ #[t] o.type #[vm]).run P w = .ok (.tuple #[]) w') (h : K (a.put o.dst (.tuple #[])) w') : o.wp P a w K Q := by
  unfold Oper.wp
  have e : (execOp a.eval o).run P w = .ok (.value (.tuple #[])) w' := by
    simp [execOp, hop, resolve, invoke, builtin, hm, hrun, Result.andThen]
  rw [e]
  exact h

theorem wpList_clear_run {P : Program} (w : World) {ops : Array Oper} {rest : List Oper} {o : Oper} {a : Act} {Q : Exit → Act → World → Prop} (hg : o.guard = none) (m : Operand) (t : TypeId) (hop : o.op = Op.call { callee := Callee.builtin Builtin.clear, args := #[m], argTypes := #[t] })
    (vm : Value) (hm : a.eval m = vm) (w' : World) (hrun : (Builtin.clear_ #[t] o.type #[vm]).run P w = .ok (.tuple #[]) w') (h : wpList P ops Q rest (a.put o.dst (.tuple #[])) w') : wpList P ops Q (o :: rest) a w :=
  wpList_plain hg fun _ hK => wp_clear_run m t hop hm hrun (hK _ _ h)

end Go.Proofs.Ytddcdhmeknkphaa
