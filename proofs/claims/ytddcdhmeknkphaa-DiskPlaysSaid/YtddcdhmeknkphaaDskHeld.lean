/- Walks of package disk: held, Lasts, Waits. -/
import Derived.Test.YtddcdhmeknkphaaDskRestart
import Derived.Test.YtddcdhmeknkphaaHeld
namespace Go.Proofs.Ytddcdhmeknkphaa
open Go.RowKit

def heldOne (F : Int → Option (List UInt8)) (all : Bool) (k : Int) : Bool := all || !((F k).getD []).isEmpty
def heldOf (F : Int → Option (List UInt8)) (all : Bool) (ks : List Int) : List (Int × List UInt8) := (ks.filter (heldOne F all)).map fun k => (k, (F k).getD [])

theorem heldOf_snoc (F : Int → Option (List UInt8)) (all : Bool) (ks : List Int) (i : Nat) (h : i < ks.length) : heldOf F all (ks.take (i + 1)) = heldOf F all (ks.take i) ++ if heldOne F all (ks.getD i 0) then [(ks.getD i 0, (F (ks.getD i 0)).getD [])] else [] := by
  rw [take_snoc_i ks i h]
  unfold heldOf
  rw [List.filter_append, List.map_append]
  congr 1
  cases hx : heldOne F all (ks.getD i 0) with
  | true => rw [List.filter_cons_of_pos hx]; rfl
  | false => rw [List.filter_cons_of_neg (by rw [hx]; exact Bool.false_ne_true)]; rfl

theorem heldOf_len (F : Int → Option (List UInt8)) (all : Bool) (ks : List Int) : (heldOf F all ks).length ≤ ks.length := by
  unfold heldOf
  rw [List.length_map]
  exact List.length_filter_le _ _

theorem keysOf_len (n : Nat) (F : Int → Option (List UInt8)) : (keysOf n F).length ≤ n := by
  unfold keysOf
  rw [List.length_map]
  refine Nat.le_trans (List.length_filter_le _ _) ?_
  rw [List.length_range]; exact Nat.le_refl _

/-- held's answer -/
def HeldAns (l : List (Int × List UInt8)) (w : World) (e : Ending) (w' : World) : Prop :=
  ∃ a c, e = .returned (.slice a l.length c) ∧ HeldRow w' w.heap.size (.slice a l.length c) l ∧ Below w.heap.size w w'

theorem HeldRow.mono {w : World} {base base' : Nat} {v : Value} {l : List (Int × List UInt8)} (h : HeldRow w base v l) (hb : base' ≤ base) : HeldRow w base' v l := by
  obtain ⟨us, h1, h2, h3⟩ := h
  exact ⟨us, h1, Dk.own_mono h2 hb, h3⟩

theorem HeldRow.below {w w' : World} {base : Nat} {v : Value} {l : List (Int × List UInt8)} (h : HeldRow w base v l) (hb : Below w.heap.size w w') : HeldRow w' base v l := by
  obtain ⟨us, h1, h2, h3⟩ := h
  exact ⟨us, h1, Dk.own_cut h2 hb, fun i hi => (h3 i hi).below hb⟩

set_option maxRecDepth 100000 in
set_option maxHeartbeats 4000000 in
theorem held_any {w : World} {b : Nat} {F : Int → Option (List UInt8)} (h : MapAt w b F) (all : Bool) (n : Nat) (hn : ∀ k l, F k = some l → 0 ≤ k ∧ k < n) (hn2 : n ≤ 4096) (hlen : ∀ k l, F k = some l → l.length ≤ 1024) :
    Calls Try.prog 32 #[.map (some b), .bool all] w (HeldAns (heldOf F all (keysOf n F)) w) := by
  have H := Lib.hid h
  have HL := Lib.hid hlen
  have hk := keys_call (some b) w
  have hs := sorted_call h n hn
  have hkl := keysOf_len n F
  have hkI : ∀ k ∈ keysOf n F, inI64 k := by
    intro k hk
    rw [mem_keysOf hn] at hk
    obtain ⟨l, hl⟩ := Option.isSome_iff_exists.1 hk
    have := hn k l hl
    exact ⟨by omega, by omega⟩
  obtain ⟨ks, hks⟩ : ∃ ks, keysOf n F = ks := ⟨_, rfl⟩
  rw [hks] at hs hkl hkI ⊢
  have HKI := Lib.hid hkI
  have hkl2 : (ks.length : Int) ≤ 4096 := by omega
  have HKL : Hid (ks.length ≤ 4096) := by unfold Hid; omega
  clear h hlen hn hks hkI hkl
  go_enter Try.func32, Try.ntmps32
  go_wp2_with fail
  refine hk.mono ?_
  rintro e w1 ⟨rfl, rfl⟩
  go_wp2_with fail
  refine hs.mono ?_
  rintro e w2 ⟨v, rfl, hrow, hB⟩
  have hB2 : Below w.heap.size w w2 := ((Below.refl _ _).alloc (Nat.le_refl _) _).trans (hB.mono (by omega))
  have B2 := Lib.hid hB2
  have hr0 : w2.ownsRow (w.heap.size + 1) 3 1 v (intVals ks).length (intVals ks) := by rw [intVals_length]; exact hrow
  obtain ⟨aa, ca, hv, -, ba, oa, HA, HCA⟩ := (own_row hr0).opened
  rw [intVals_length] at hv
  subst hv
  have h2 := H.out.below hB2
  have M2 := Lib.hid h2
  clear hk hs hrow hB hB2 hr0 h2
  go_wp2_with fail
  go_loopw [4, 11] (fun out i wr => ∃ (k : Nat) (a : Option Addr) (len c : Nat), k ≤ ks.length ∧ i = .int .i64 k ∧ out = .slice a len c ∧ len = (heldOf F all (ks.take k)).length ∧ HeldRow wr w2.heap.size out (heldOf F all (ks.take k)) ∧ Below w2.heap.size w2 wr) (fun _ i _ => ks.length - (intOf i).toNat)
  case atStart => exact ⟨0, none, 0, 0, by omega, rfl, rfl, rfl, HeldRow.nil _ _, Below.refl _ _⟩
  case round =>
    obtain ⟨k, a0, len, c0, hk, rfl, rfl, hlen, hh, hb⟩ := hrel
    by_cases hlt : k < ks.length
    · obtain rfl := HA (List.ne_nil_of_length_pos (by rw [intVals_length]; omega))
      have ka : wr.cell? ⟨ba, oa + k, none⟩ = some (.int .i64 (ks.getD k 0)) := cell_later hb (HCA.out k _ (intVals_get ks k hlt))
      have hin : inI64 (ks.getD k 0) := HKI.out _ (by rw [List.getD_eq_getElem?_getD, List.getElem?_eq_getElem hlt]; exact List.getElem_mem hlt)
      have l0 : (0 : Int) ≤ (k : Int) := by omega
      have l1 : (k : Int) < (ks.length : Int) := by omega
      have hS := heldOf_snoc F all ks k hlt
      have hml : (heldOf F all (ks.take k)).length ≤ 4096 := by
        refine Nat.le_trans (heldOf_len _ _ _) ?_
        rw [List.length_take]; have := HKL.out; omega
      have hm := M2.out.below hb
      obtain ⟨v, r1, b1⟩ := hm.look hin
      have R1 := (r1 wr rfl).2
      obtain ⟨x, HX⟩ : ∃ x, Hid (ks.getD k 0 = x) := ⟨_, rfl⟩
      rw [HX.out] at R1 ka b1 hS
      have hxl : ((F x).getD []).length ≤ 1024 := by
        cases hf : F x with
        | none => simp
        | some m => exact HL.out x m hf
      obtain ⟨m, hm2⟩ : ∃ m, (F x).getD [] = m := ⟨_, rfl⟩
      have hone : heldOne F all x = (all || !m.isEmpty) := by unfold heldOne; rw [hm2]
      rw [hm2] at b1 hxl hS
      rw [hone] at hS
      obtain ⟨av, cv, rfl, -, -⟩ := b1.opened
      have HLT := Lib.hid hlt
      have HH := Lib.hid hh
      have BB := Lib.hid hb
      have B1 := Lib.hid b1
      have HXL := Lib.hid hxl
      have HML := Lib.hid hml
      have HLEN := Lib.hid hlen
      by_cases hcase : all = true ∨ m ≠ []
      · have hb1 : (all || !m.isEmpty) = true := by
          rcases hcase with h1 | h1
          · rw [h1]; rfl
          · cases m with
            | nil => exact absurd rfl h1
            | cons a l => simp
        rw [hb1, if_pos rfl] at hS
        have HS := Lib.hid hS
        have hpos : all = false → (0 : Int) < (m.length : Int) := by
          intro h0
          rcases hcase with h1 | h1
          · rw [h0] at h1; cases h1
          · have := List.length_pos_iff.2 h1; omega
        have hdec : all = true ∨ (all = false ∧ (0 : Int) < (m.length : Int)) := by
          cases hall : all with
          | true => exact .inl rfl
          | false => exact .inr ⟨rfl, hpos hall⟩
        clear hlt hk hh hb hm r1 b1 hin hS hone hm2 hml hxl hcase hb1 hpos hlen
        rcases hdec with rfl | ⟨rfl, hpos⟩
        all_goals
          go_wp2_with fail
          refine (Dk.clone_any _ m wr B1.out (by have := HXL.out; omega)).mono ?_
          rintro e w3 ⟨a3, c3, rfl, hb3, ho3, hB3⟩
          obtain ⟨av4, cap4, w4, HR4, HH4, HB4⟩ := HH.out.snoc hB3 (n := x) (ownBytesT hb3 ho3) (by have := HML.out; omega) BB.out.size
          have HR5 := HR4.out
          rw [← HLEN.out] at HR5
          have HR6 := Lib.hid HR5
          clear hb3 ho3 hB3 HR5 HR4
          go_wp2_with (first
            | (at_builtin; refine Lib.wpList_append_run _ rfl (.tmp 23) (.tmp 30) _ _ rfl _ _ rfl rfl _ _ HR6.out ?_))
          go_roundw
          case rel => exact ⟨k + 1, av4, len + 1, cap4, by have := HLT.out; omega, by go_num, rfl, by rw [HS.out, List.length_append, HLEN.out]; rfl, by rw [HS.out, HLEN.out]; exact HH4.out, BB.out.trans HB4.out⟩
          case measure => simp [intOf]; have := HLT.out; omega
      · have hall : all = false := by cases all with
          | true => exact absurd (.inl rfl) hcase
          | false => rfl
        have hmn : m = [] := Classical.byContradiction fun hne => hcase (.inr hne)
        subst hall hmn
        have hS' : heldOf F false (ks.take (k + 1)) = heldOf F false (ks.take k) := by rw [hS]; simp
        have HS := Lib.hid hS'
        clear hlt hk hh hb hm r1 b1 hin hS hS' hone hm2 hml hxl hcase hlen
        simp only [List.length_nil] at R1
        go_wp2_with fail
        go_roundw
        case rel => exact ⟨k + 1, a0, len, c0, by have := HLT.out; omega, by go_num, rfl, by rw [HS.out, HLEN.out], by rw [HS.out]; exact HH.out, BB.out⟩
        case measure => simp [intOf]; have := HLT.out; omega
    · obtain rfl : k = ks.length := by omega
      rw [List.take_of_length_le (Nat.le_refl _)] at hh hlen
      have HH := Lib.hid hh
      have BB := Lib.hid hb
      subst hlen
      clear hlt hk hh hb
      go_wp2_with fail
      go_ret
      exact ⟨a0, c0, rfl, HH.out.mono B2.out.size, B2.out.trans (BB.out.mono B2.out.size)⟩

end Go.Proofs.Ytddcdhmeknkphaa
