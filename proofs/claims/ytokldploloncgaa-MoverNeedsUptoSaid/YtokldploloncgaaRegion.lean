/-
  A region that draws its order, whose own operations lay no memory, whose callees may: one walk in the text's order, over 'whatever world has come of w by laying new memory alone'.
  Conditions: none of its own.
-/
import Derived.WalkKit
import Derived.BigQuiet
import Derived.Lib.Hide
namespace Go.Proofs.Ytokldploloncgaa
open Go.RowKit

/-- A world in which of all that was there in w nothing has turned. -/
structure Later (w : World) where
  now : World
  is : Below w.heap.size w now

theorem Later.size {w : World} (x : Later w) : w.heap.size ≤ x.now.heap.size := x.is.size
theorem Later.cell {w : World} (x : Later w) {b o : Nat} (h : b < w.heap.size) : x.now.cell? ⟨b, o, none⟩ = w.cell? ⟨b, o, none⟩ := x.is.cell (p := ⟨b, o, none⟩) h
attribute [go_sem] Later.cell
theorem Later.cellIs {w : World} (x : Later w) {p : Addr} {v : Value} (h : w.cell? p = some v) : x.now.cell? p = some v := (x.is.cell (World.block_lt_of_cell? w p h)).trans h

instance later_there (w : World) : Nonempty (Later w) := ⟨⟨w, Below.refl _ _⟩⟩

theorem wp_region_later {P : Program} {id : Nat} {Q : Exit → Act → World → Prop} {a : Act} {w : World} {l : List Oper} (hm : P.follows .mixedOrders = true) (hB : Region.lexB .any l.toArray = true)
    (h : wpQuiet P l.toArray (fun w' => ∃ x : Later w, w' = x.now) (fun a' => ∀ w', Below w.heap.size w w' → Q .normal a' w') l a) : (Code.region id l.toArray true).wp P Q a w := by
  refine wp_region_quiet (C := fun w' => ∃ x : Later w, w' = x.now) hm hB ⟨⟨w.drew, (Below.refl _ _).drew⟩, rfl⟩ ?_
  have e : (fun a' => ∀ w', Below w.heap.size w w' → Q .normal a' w') = (fun a' => ∀ w', (∃ x : Later w, w' = x.now) → Q .normal a' w') := by
    funext a'
    exact propext ⟨fun h w' ⟨x, hx⟩ => h w' (hx ▸ x.is), fun h w' hb => h w' ⟨⟨w', hb⟩, rfl⟩⟩
  rw [e] at h
  exact h

/-- A callee's contract, met in such a world. -/
theorem later_of {P : Program} {f : FuncId} {args : Array Value} {w : World} {x : Later w} {v : Value} (h : Calls P f args x.now fun e w' => e = .returned v ∧ Below x.now.heap.size x.now w') :
    Calls P f args x.now fun e w'' => e = .returned v ∧ ∃ y : Later w, w'' = y.now :=
  h.mono fun _ _ ⟨he, hb⟩ => ⟨he, ⟨_, x.is.trans (hb.mono x.is.size)⟩, rfl⟩
/-- .. that leaves the world as it was. -/
theorem later_same {P : Program} {f : FuncId} {args : Array Value} {w : World} {x : Later w} {v : Value} (h : Calls P f args x.now fun e w' => e = .returned v ∧ x.now = w') :
    Calls P f args x.now fun e w'' => e = .returned v ∧ ∃ y : Later w, w'' = y.now :=
  h.mono fun _ _ ⟨he, hb⟩ => ⟨he, x, hb.symm⟩

/-- Cells and marks below, as the walk's rules. -/
theorem below_reads {W w1 : World} (hb : Below W.heap.size W w1) : (∀ b o, b < W.heap.size → w1.cell? ⟨b, o, none⟩ = W.cell? ⟨b, o, none⟩) ∧ (∀ b o, b < W.heap.size → w1.frozen? ⟨b, o, none⟩ = W.frozen? ⟨b, o, none⟩) :=
  ⟨fun b o h => hb.cell (p := ⟨b, o, none⟩) h, fun b o h => hb.frozen (p := ⟨b, o, none⟩) h⟩
theorem below_of_eq {B : Nat} {w w' : World} (h : w = w') : Below B w w' := h ▸ Below.refl _ _
theorem below_drewN {B : Nat} {a w : World} (h : Below B a w) (n : Nat) : Below B a (w.drewN n) := ⟨h.os, h.tape, h.output, h.size, h.block⟩
/-- The steps of 'nothing below has turned', as a chain. -/
theorem below_step {w a b : World} (h : Below w.heap.size w a) (k : Below a.heap.size a b) : Below w.heap.size w b := h.trans (k.mono h.size)
theorem below_new {w a : World} (h : Below w.heap.size w a) (o : Obj) : Below w.heap.size w (a.alloc o) := h.alloc h.size o
end Go.Proofs.Ytokldploloncgaa
