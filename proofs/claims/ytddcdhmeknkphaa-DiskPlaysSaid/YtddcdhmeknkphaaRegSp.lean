/- A region that draws its order, where nothing that was there changes: what each slot holds. No program in sight. -/
import Derived.Test.YtddcdhmeknkphaaRegion2
import Derived.Test.YtddcdhmeknkphaaBase
namespace Go.Proofs.Ytddcdhmeknkphaa
open Go.RowKit

/-- what a slot holds -/
inductive Sp where
  | is (v : Value)
  | bytes (l : List UInt8)
  | row (l : List Value)
  | any

def Sp.holds : Sp → Value → World → Prop
  | .is v, u, _ => u = v
  | .bytes l, u, w => ∃ a c, u = .slice a l.length c ∧ Bytes w (.slice a l.length c) l
  | .row l, u, w => ∃ a c, u = .slice a l.length c ∧ Row w (.slice a l.length c) l
  | .any, _, _ => True

theorem Sp.below {s : Sp} {u : Value} {w w' : World} (h : s.holds u w) (hb : Below w.heap.size w w') : s.holds u w' := by
  cases s with
  | is v => exact h
  | bytes l => obtain ⟨a, c, e, hb'⟩ := h; exact ⟨a, c, e, hb'.below hb⟩
  | row l => obtain ⟨a, c, e, hb'⟩ := h; exact ⟨a, c, e, hb'.below hb⟩
  | any => trivial

def spAt (specs : List Sp) (_ : Nat → Bool) (i : Nat) (v : Value) (w : World) : Prop := (specs.getD i .any).holds v w
abbrev belJ (w0 : World) : (Nat → Bool) → World → Prop := fun _ w => Below w0.heap.size w0 w

/-- as 'wp_region_spec' -/
theorem wp_region_sp {P : Program} {id : Nat} {ops : Array Oper} {Q : Exit → Act → World → Prop} {a0 : Act} {w0 : World} (hm : P.follows .mixedOrders = true)
    (hlow : ∀ (i : Nat) (o : Oper), ops[i]? = some o → ∀ e ∈ o.after, e.on < i) (specs : List Sp) (hd : dstsOk ops a0.tmps.size = true)
    (hstep : ∀ (L : Nat → Bool) (a : Act) (w : World) (i : Nat) (o : Oper), RegSt ops (spAt specs) (belJ w0) a0 L a w → ops[i]? = some o → L i = false → (∀ e ∈ o.after, Region.binds .any e = true → L e.on = true) → OpWay P ops (spAt specs) (belJ w0) Q L a w i o)
    (hend : ∀ (L : Nat → Bool) (a : Act) (w : World), RegSt ops (spAt specs) (belJ w0) a0 L a w → (∀ i, i < ops.size → L i = true) → Q .normal a w) : (Code.region id ops true).wp P Q a0 w0 :=
  wp_region_spec hm hlow (spAt specs) (belJ w0) hd (Below.refl _ _).drew hstep hend

theorem sp_val {P : Program} {ops : Array Oper} {specs : List Sp} {w0 : World} {Q : Exit → Act → World → Prop} {L : Nat → Bool} {a : Act} {w : World} {i : Nat} {o : Oper} {a0 : Act} (h : RegSt ops (spAt specs) (belJ w0) a0 L a w)
    (hw : Region.wanted o (yielded ops a.tmps) = true) (v : Value) (hr : (execOp a.eval o).run P w = .ok (.value v) w) (hs : spAt specs L i v w) : OpWay P ops (spAt specs) (belJ w0) Q L a w i o :=
  way_val hw v hr hs (fun _ _ _ _ h => h) h.world

theorem sp_new {P : Program} {ops : Array Oper} {specs : List Sp} {w0 : World} {Q : Exit → Act → World → Prop} {L : Nat → Bool} {a : Act} {w : World} {i : Nat} {o : Oper} {a0 : Act} (h : RegSt ops (spAt specs) (belJ w0) a0 L a w)
    (hw : Region.wanted o (yielded ops a.tmps) = true) (v : Value) {w' : World} (hr : (execOp a.eval o).run P w = .ok (.value v) w') (hs : spAt specs L i v w') (hb : Below w.heap.size w w') : OpWay P ops (spAt specs) (belJ w0) Q L a w i o :=
  .inl ⟨hw, wp_val hr ⟨v, rfl, hs, fun _ _ _ _ h => Sp.below h hb, h.world.trans (hb.mono h.world.size)⟩⟩

theorem sp_call {P : Program} {ops : Array Oper} {specs : List Sp} {w0 : World} {Q : Exit → Act → World → Prop} {L : Nat → Bool} {a : Act} {w : World} {i : Nat} {o : Oper} {a0 : Act} (h : RegSt ops (spAt specs) (belJ w0) a0 L a w)
    (hw : Region.wanted o (yielded ops a.tmps) = true) {f : FuncId} {args : Array Value} (hr : (execOp a.eval o).run P w = .ok (.enter f args) w)
    (hc : Calls P f args w fun e w' => ∃ v, e = .returned v ∧ spAt specs L i v w' ∧ Below w.heap.size w w') : OpWay P ops (spAt specs) (belJ w0) Q L a w i o :=
  way_call hw hr (hc.mono fun e w' h' => by
    obtain ⟨v, he, h1, hb⟩ := h'
    exact ⟨v, he, h1, fun _ _ _ _ h => Sp.below h hb, h.world.trans (hb.mono h.world.size)⟩)

theorem sp_off {P : Program} {ops : Array Oper} {specs : List Sp} {w0 : World} {Q : Exit → Act → World → Prop} {L : Nat → Bool} {a : Act} {w : World} {i : Nat} {o : Oper} {a0 : Act} (h : RegSt ops (spAt specs) (belJ w0) a0 L a w)
    (hw : Region.wanted o (yielded ops a.tmps) = false) (hs : spAt specs L i undef w) : OpWay P ops (spAt specs) (belJ w0) Q L a w i o :=
  way_off hw hs (fun _ _ _ _ h => h) h.world

end Go.Proofs.Ytddcdhmeknkphaa
