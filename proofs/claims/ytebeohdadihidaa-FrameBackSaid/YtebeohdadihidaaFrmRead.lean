/- frame.Read and its reference. -/
import Derived.Test.YtebeohdadihidaaFrmNums
namespace Go.Proofs.Ytebeohdadihidaa
open Go.RowKit

namespace Frm
/-- the number in four bytes -/
def word (a b c d : UInt8) : Int := (((a.toNat * 256 + b.toNat) * 256 + c.toNat) * 256 + d.toNat : Nat)
/-- number k of bytes -/
def nth (b : List UInt8) (k : Nat) : Int := word (b.getD (4 * k) 0) (b.getD (4 * k + 1) 0) (b.getD (4 * k + 2) 0) (b.getD (4 * k + 3) 0)
def seen (b : List UInt8) (n : Nat) : List Int := (List.range n).map (nth b)
def fine (b : List UInt8) : Bool := decide (b.length % 4 = 0) && (List.range (b.length / 4)).all fun k => decide (nth b k ≤ 2147483647)
theorem seen_succ (b : List UInt8) (n : Nat) : seen b (n + 1) = seen b n ++ [nth b n] := by
  unfold seen
  rw [List.range_succ, List.map_append]; rfl
theorem seen_length (b : List UInt8) (n : Nat) : (seen b n).length = n := by simp [seen]
end Frm

def lenOf : Value → Nat
  | .slice _ n _ => n
  | _ => 0

theorem or32 (n : Nat) (x : UInt8) (h : n < 16777216) : bits .or .u32 ((n : Int) * 256) (x.toNat : Int) = ((n * 256 + x.toNat : Nat) : Int) := by
  have hx := x.toNat_lt
  have e1 : (n : Int) * 256 = ((n * 256 : Nat) : Int) := by omega
  rw [e1]
  unfold bits
  have e2 : ∀ m : Nat, m < 4294967296 → BitVec.ofInt IntKind.u32.bits (m : Int) = BitVec.ofNat 32 m := by
    intro m hm
    show BitVec.ofInt 32 _ = _
    simp
  rw [e2 _ (by omega), e2 _ (by omega)]
  simp only
  have e3 : (BitVec.ofNat 32 (n * 256) ||| BitVec.ofNat 32 x.toNat).toNat = n * 256 + x.toNat := by
    rw [BitVec.toNat_or, BitVec.toNat_ofNat, BitVec.toNat_ofNat, Nat.mod_eq_of_lt (by omega), Nat.mod_eq_of_lt (by omega)]
    have := Nat.shiftLeft_add_eq_or_of_lt (i := 8) (b := x.toNat) (by omega) n
    rw [Nat.shiftLeft_eq, show (2 : Nat) ^ 8 = 256 from rfl] at this
    omega
  show IntKind.u32.wrap (((BitVec.ofNat 32 (n * 256) ||| BitVec.ofNat 32 x.toNat : BitVec 32).toNat : Nat) : Int) = _
  rw [e3]
  simp [IntKind.wrap, IntKind.bits, IntKind.signed]
  omega

theorem Try.infoI : (Try.prog.info? 3).map (fun i => (i.zero, i.size, i.bytes)) = some (some (.int .i64 0), 1, 8) := by kernel_rfl

/-- Read's answer -/
def ReadAs (b : List UInt8) (w : World) (e : Ending) (w' : World) : Prop :=
  ∃ r, e = .returned (.tuple #[r, .int .i64 (if Frm.fine b then 0 else 50)]) ∧ Row w' r (intVals (if Frm.fine b then Frm.seen b (b.length / 4) else [])) ∧ (∀ k, r.ownBlock = some k → w.heap.size ≤ k) ∧ Below w.heap.size w w'

theorem read_bad {b : List UInt8} {w w' : World} (hg : Frm.fine b = false) (hb : Below w.heap.size w w') : ReadAs b w (.returned (.tuple #[.slice none 0 0, .int .i64 50])) w' := by
  refine ⟨.slice none 0 0, by rw [hg]; rfl, by rw [hg]; exact .nil _, ?_, hb⟩
  intro k hk
  cases hk

set_option maxRecDepth 100000 in
set_option maxHeartbeats 2000000 in
theorem read_any (v : Value) (b : List UInt8) (w : World) (h : Bytes w v b) (hd : b.length ≤ 100000) :
    Calls Try.prog 16 #[v] w (ReadAs b w) := by
  obtain ⟨a, cap, rfl, hcap, bb, ob, HA, HC⟩ := h.opened
  by_cases c1 : b.length % 4 = 0
  rotate_left
  · have hg : Frm.fine b = false := by unfold Frm.fine; rw [decide_eq_false c1, Bool.false_and]
    have d1 : ((b.length : Int) % 4 != 0) = true := bne_iff_ne.2 (by omega)
    go_enter Try.func16, Try.ntmps16
    go_wp2_with fail
    go_ret2
    exact read_bad hg (Below.refl _ _)
  have d1 : ((b.length : Int) % 4 != 0) = false := bne_eq_false_iff_eq.2 (by omega)
  have HD4 := Lib.hid c1
  clear c1 h
  go_enter Try.func16, Try.ntmps16
  go_wp2_with fail
  go_loopw [0, 2] (fun s o wr => ∃ (k c : Nat) (p : Option Addr), 4 * k ≤ b.length ∧ s = .slice p (b.length - 4 * k) c ∧ b.length - 4 * k ≤ c ∧ (4 * k < b.length → p = some ⟨bb, ob + 4 * k, none⟩) ∧ (∀ j, j < k → Frm.nth b j ≤ 2147483647) ∧ wr.ownsRow w.heap.size 3 1 o (intVals (Frm.seen b k)).length (intVals (Frm.seen b k)) ∧ Below w.heap.size w wr) (fun s _ _ => lenOf s)
  case atStart => exact ⟨0, cap, a, by omega, rfl, by omega, fun hh => HA (by intro e; rw [e] at hh; simp at hh), fun j hj => by omega, World.ownsRow_nil _ _ _ _, Below.refl _ _⟩
  case round =>
    obtain ⟨k, c, p, hk, rfl, hc, hp, hall, hown, hbel⟩ := hrel
    have HO := Lib.hid hown
    have HB := Lib.hid hbel
    by_cases hlt : 4 * k < b.length
    · obtain rfl := hp hlt
      have h4 : 4 * k + 4 ≤ b.length := by have := HD4.out; omega
      obtain ⟨x0, h0⟩ : ∃ x, b.getD (4 * k) 0 = x := ⟨_, rfl⟩
      obtain ⟨x1, h1⟩ : ∃ x, b.getD (4 * k + 1) 0 = x := ⟨_, rfl⟩
      obtain ⟨x2, h2⟩ : ∃ x, b.getD (4 * k + 2) 0 = x := ⟨_, rfl⟩
      obtain ⟨x3, h3⟩ : ∃ x, b.getD (4 * k + 3) 0 = x := ⟨_, rfl⟩
      have k0 : wr.cell? ⟨bb, ob + 4 * k, none⟩ = some (.int .u8 (x0.toNat : Int)) := by rw [← h0]; exact cell_later hbel (HC.out _ (by omega))
      have k1 : wr.cell? ⟨bb, ob + 4 * k + 1, none⟩ = some (.int .u8 (x1.toNat : Int)) := by rw [← h1, Nat.add_assoc]; exact cell_later hbel (HC.out _ (by omega))
      have k2 : wr.cell? ⟨bb, ob + 4 * k + 2, none⟩ = some (.int .u8 (x2.toNat : Int)) := by rw [← h2, Nat.add_assoc]; exact cell_later hbel (HC.out _ (by omega))
      have k3 : wr.cell? ⟨bb, ob + 4 * k + 3, none⟩ = some (.int .u8 (x3.toNat : Int)) := by rw [← h3, Nat.add_assoc]; exact cell_later hbel (HC.out _ (by omega))
      have l1 : (0 : Int) < ((b.length - 4 * k : Nat) : Int) := by omega
      have l2 : (4 : Int) ≤ (c : Int) := by omega
      have H4 := Lib.hid h4
      have HCC := Lib.hid hc
      have HALL := Lib.hid hall
      have HNTH : Hid (Frm.nth b k = Frm.word x0 x1 x2 x3) := by unfold Hid Frm.nth; rw [h0, h1, h2, h3]
      clear hown hbel hp hall hc hlt hk h4 h0 h1 h2 h3
      have t0 := x0.toNat_lt
      have t1 := x1.toNat_lt
      have t2 := x2.toNat_lt
      have t3 := x3.toNat_lt
      have e0 : (x0.toNat : Int) % 4294967296 = (x0.toNat : Int) := by omega
      have e1 : (x1.toNat : Int) % 4294967296 = (x1.toNat : Int) := by omega
      have e2 : (x2.toNat : Int) % 4294967296 = (x2.toNat : Int) := by omega
      have e3 : (x3.toNat : Int) % 4294967296 = (x3.toNat : Int) := by omega
      have o0 : bits .or .u32 0 (x0.toNat : Int) = (x0.toNat : Int) := by
        have := or32 0 x0 (by omega)
        simpa using this
      have s1 : (x0.toNat : Int) * 256 % 4294967296 = (x0.toNat : Int) * 256 := by omega
      obtain ⟨y1, Y1⟩ : ∃ y : Nat, Hid (x0.toNat * 256 + x1.toNat = y) := ⟨_, rfl⟩
      have z1 : y1 < 65536 := by have := Y1.out; omega
      have o1 : bits .or .u32 ((x0.toNat : Int) * 256) (x1.toNat : Int) = (y1 : Int) := by rw [← Y1.out]; exact or32 _ _ (by omega)
      have s2 : (y1 : Int) * 256 % 4294967296 = (y1 : Int) * 256 := by omega
      obtain ⟨y2, Y2⟩ : ∃ y : Nat, Hid (y1 * 256 + x2.toNat = y) := ⟨_, rfl⟩
      have z2 : y2 < 16777216 := by have := Y2.out; omega
      have o2 : bits .or .u32 ((y1 : Int) * 256) (x2.toNat : Int) = (y2 : Int) := by rw [← Y2.out]; exact or32 _ _ (by omega)
      have s3 : (y2 : Int) * 256 % 4294967296 = (y2 : Int) * 256 := by omega
      obtain ⟨y3, Y3⟩ : ∃ y : Nat, Hid (y2 * 256 + x3.toNat = y) := ⟨_, rfl⟩
      have z3 : y3 < 4294967296 := by have := Y3.out; omega
      have o3 : bits .or .u32 ((y2 : Int) * 256) (x3.toNat : Int) = (y3 : Int) := by rw [← Y3.out]; exact or32 _ _ (by omega)
      have HN : Hid (Frm.nth b k = (y3 : Int)) := by
        unfold Hid
        rw [HNTH.out, ← Y3.out, ← Y2.out, ← Y1.out]
        rfl
      by_cases hbig : 2147483647 < y3
      · have hg : Frm.fine b = false := by
          rcases hf : Frm.fine b with _ | _
          · rfl
          · exfalso
            unfold Frm.fine at hf
            rw [Bool.and_eq_true, List.all_eq_true] at hf
            have := of_decide_eq_true (hf.2 k (List.mem_range.2 (by have := H4.out; omega)))
            rw [HN.out] at this
            omega
        have d5 : decide (0 < (y3 : Int) / 2147483648) = true := decide_eq_true (by omega)
        clear t0 t1 t2 t3 z1 z2 hbig
        go_wp2_with fail
        refine wp_loop_rounds 5 ?_
        rw [rounds_succ]
        go_wp2
        rw [rounds_succ]
        go_wp2
        rw [rounds_succ]
        go_wp2
        rw [rounds_succ]
        go_wp2
        rw [rounds_succ]
        go_wp2
        go_ret2
        exact read_bad hg HB.out
      · have d5 : decide (0 < (y3 : Int) / 2147483648) = false := decide_eq_false (by omega)
        have hy : (y3 : Int) ≤ 2147483647 := by omega
        have hs := HB.out.size
        obtain ⟨v', w3, hr, ho3, hb3⟩ := append_val (P := Try.prog) 31 Try.underlying31 Try.infoI rfl HO.out (.int .i64 (y3 : Int)) rfl (by omega) (by rw [intVals_length, Frm.seen_length]; have := H4.out; omega) hs
        have HR := Lib.hid hr
        have HB3 := Lib.hid hb3
        have HO3 : Hid (w3.ownsRow w.heap.size 3 1 v' (intVals (Frm.seen b (k + 1))).length (intVals (Frm.seen b (k + 1)))) := by
          have e : intVals (Frm.seen b (k + 1)) = intVals (Frm.seen b k) ++ [.int .i64 (y3 : Int)] := by rw [Frm.seen_succ, HN.out]; simp [intVals]
          unfold Hid
          rw [e]
          exact ho3
        have HALL2 : Hid (∀ j, j < k + 1 → Frm.nth b j ≤ 2147483647) := by
          intro j hj
          rcases Nat.lt_or_ge j k with h | h
          · exact HALL.out j h
          · obtain rfl : j = k := by omega
            rw [HN.out]; exact hy
        have l3 : (4 : Int) ≤ ((b.length - 4 * k : Nat) : Int) := by have := H4.out; omega
        clear t0 t1 t2 t3 z1 z2 hr ho3 hb3 hbig hy hs
        by_cases hc4 : c = 4
        · subst hc4
          go_wp2_with fail
          refine wp_loop_rounds 5 ?_
          rw [rounds_succ]
          go_wp2
          rw [rounds_succ]
          go_wp2
          rw [rounds_succ]
          go_wp2
          rw [rounds_succ]
          go_wp2
          rw [rounds_succ]
          go_wp2_with (first
            | (at_builtin; refine Lib.wpList_append_run _ rfl (.tmp 32) (.tmp 35) _ _ rfl _ _ rfl rfl _ _ HR.out ?_))
          go_roundw
          case rel => exact ⟨k + 1, 0, _, by have := H4.out; omega, by rw [Nat.mul_succ, ← Nat.sub_sub], by have := H4.out; have := HCC.out; omega, fun hh => by have := HCC.out; omega, HALL2.out, HO3.out, HB.out.trans HB3.out⟩
          case measure => simp [lenOf]; have := H4.out; omega
        · have d6 : (c : Int) ≠ 4 := by omega
          go_wp2_with fail
          refine wp_loop_rounds 5 ?_
          rw [rounds_succ]
          go_wp2
          rw [rounds_succ]
          go_wp2
          rw [rounds_succ]
          go_wp2
          rw [rounds_succ]
          go_wp2
          rw [rounds_succ]
          go_wp2_with (first
            | (at_builtin; refine Lib.wpList_append_run _ rfl (.tmp 32) (.tmp 35) _ _ rfl _ _ rfl rfl _ _ HR.out ?_))
          go_roundw
          case rel => exact ⟨k + 1, c - 4, _, by have := H4.out; omega, by rw [Nat.mul_succ, ← Nat.sub_sub], by have := H4.out; have := HCC.out; omega, fun hh => by rw [Nat.mul_succ, Nat.add_assoc], HALL2.out, HO3.out, HB.out.trans HB3.out⟩
          case measure => simp [lenOf]; have := H4.out; omega
    · have hkk : k = b.length / 4 := by omega
      have hg : Frm.fine b = true := by
        unfold Frm.fine
        rw [decide_eq_true HD4.out, Bool.true_and, List.all_eq_true]
        intro j hj
        exact decide_eq_true (hall j (by rw [hkk]; exact List.mem_range.1 hj))
      have l1 : ¬ (0 : Int) < ((b.length - 4 * k : Nat) : Int) := by omega
      have HKK := Lib.hid hkk
      clear hown hbel hp hall hc hlt hk hkk
      go_wp2_with fail
      go_ret2
      refine ⟨_, by rw [hg]; rfl, ?_, own_base HO.out, HB.out⟩
      rw [hg, ← HKK.out]
      exact own_row HO.out

end Go.Proofs.Ytebeohdadihidaa
