/-
  What a queue of things of one cell each is in memory; which blocks a call may have turned.
-/
import Derived.Test.YtaamachonbkjoaaLaw
import Derived.Test.YtaamachonbkjoaaRegion
import Derived.WalkSpells
namespace Go.Proofs.Ytaamachonbkjoaa.ring
open Go.RowKit

/-- Only blocks b and p, and what is new, may have turned. -/
structure Touch (w w' : World) (b p : Nat) : Prop where
  os : w'.os = w.os
  tape : w'.tape = w.tape
  output : w'.output = w.output
  size : w.heap.size ≤ w'.heap.size
  block : ∀ k, k < w.heap.size → k ≠ b → k ≠ p → w'.heap[k]? = w.heap[k]?

theorem Touch.refl (w : World) (b p : Nat) : Touch w w b p := ⟨rfl, rfl, rfl, Nat.le_refl _, fun _ _ _ _ => rfl⟩
theorem Touch.trans {a c d : World} {b p : Nat} (h : Touch a c b p) (k : Touch c d b p) : Touch a d b p :=
  ⟨k.os.trans h.os, k.tape.trans h.tape, k.output.trans h.output, Nat.le_trans h.size k.size, fun i hi h1 h2 => (k.block i (Nat.lt_of_lt_of_le hi h.size) h1 h2).trans (h.block i hi h1 h2)⟩
theorem Touch.of_below {w w' : World} (b p : Nat) (h : Below w.heap.size w w') : Touch w w' b p := ⟨h.os, h.tape, h.output, h.size, fun k hk _ _ => h.block k hk⟩
theorem Touch.below {w w' w'' : World} {b p : Nat} (h : Touch w w' b p) (k : Below w'.heap.size w' w'') : Touch w w'' b p := h.trans (Touch.of_below b p k)
theorem Touch.set {w w' : World} {b p : Nat} (h : Touch w w' b p) {g : Nat} (hg : g = b ∨ g = p) (o : Nat) (u : Value) : Touch w (w'.setCell ⟨g, o, none⟩ u) b p :=
  ⟨h.os, h.tape, h.output, by simpa [World.setCell] using h.size, fun i hi h1 h2 => (Below.heap_setCell w' ⟨g, o, none⟩ u i (fun e => by
    have e' : i = g := e
    rcases hg with rfl | rfl <;> contradiction)).trans (h.block i hi h1 h2)⟩
theorem Touch.drew {w w' : World} {b p : Nat} (h : Touch w w' b p) : Touch w w'.drew b p := ⟨h.os, h.tape, h.output, h.size, h.block⟩
theorem Touch.drewN {w w' : World} {b p : Nat} (h : Touch w w' b p) (n : Nat) : Touch w (w'.drewN n) b p := ⟨h.os, h.tape, h.output, h.size, h.block⟩
theorem Touch.cell {w w' : World} {b p : Nat} (h : Touch w w' b p) {a : Addr} {v : Value} (hc : w.cell? a = some v) (h1 : a.block ≠ b) (h2 : a.block ≠ p) : w'.cell? a = some v :=
  (World.cell?_of_block (h.block a.block (World.block_lt_of_cell? w a hc) h1 h2)).trans hc
/-- Below a number that is no more than both blocks nothing has turned. -/
theorem Touch.under {w0 w w' : World} {b p : Nat} (h : Below w0.heap.size w0 w) (k : Touch w w' b p) (hb : w0.heap.size ≤ b) (hp : w0.heap.size ≤ p) : Below w0.heap.size w0 w' :=
  ⟨k.os.trans h.os, k.tape.trans h.tape, k.output.trans h.output, Nat.le_trans h.size k.size, fun i hi => (k.block i (Nat.lt_of_lt_of_le hi h.size) (by omega) (by omega)).trans (h.block i hi)⟩

theorem ret_int {k : IntKind} {a b : Int} (h : a = b) : Ending.returned (.int k a) = .returned (.int k b) := by rw [h]
theorem wrap64_bounds (n : Int) : -9223372036854775808 ≤ wrap64 n ∧ wrap64 n ≤ 9223372036854775807 := by unfold wrap64; omega

/-- A queue in memory: its counts in block b, its places in block p; it holds q. -/
structure RingAt {V : Type} (enc : V → Value) (w : World) (b p : Nat) (cap first : Nat) (lost : Int) (q : List V) : Prop where
  c0 : w.cell? ⟨b, 0, none⟩ = some (.int .i64 q.length)
  c1 : w.cell? ⟨b, 1, none⟩ = some (.int .i64 cap)
  c2 : w.cell? ⟨b, 2, none⟩ = some (.int .i64 lost)
  c3 : w.cell? ⟨b, 3, none⟩ = some (.slice (some ⟨p, 0, none⟩) cap cap)
  c4 : w.cell? ⟨b, 4, none⟩ = some (.int .i64 first)
  fb : ∀ o, w.frozen? ⟨b, o, none⟩ = false
  fp : ∀ o, w.frozen? ⟨p, o, none⟩ = false
  ne : b ≠ p
  cap1 : 1 ≤ cap
  cap64 : cap ≤ 64
  first_lt : first < cap
  fits : q.length ≤ cap
  lostb : -9223372036854775808 ≤ lost ∧ lost ≤ 9223372036854775807
  there : ∀ i, i < cap → ∃ v, w.cell? ⟨p, i, none⟩ = some v
  holds : ∀ i x, q[i]? = some x → w.cell? ⟨p, (first + i) % cap, none⟩ = some (enc x)

section
variable {V : Type} {enc : V → Value} {w w' : World} {b p cap first : Nat} {lost : Int} {q : List V}
theorem RingAt.lt_b (h : RingAt enc w b p cap first lost q) : b < w.heap.size := World.block_lt_of_cell? w _ h.c0
theorem RingAt.lt_p (h : RingAt enc w b p cap first lost q) : p < w.heap.size := by
  obtain ⟨v, hv⟩ := h.there 0 (by have := h.cap1; omega)
  exact World.block_lt_of_cell? w _ hv
/-- Where neither of its two blocks has turned. -/
theorem RingAt.kept (h : RingAt enc w b p cap first lost q) (eb : w'.heap[b]? = w.heap[b]?) (ep : w'.heap[p]? = w.heap[p]?) : RingAt enc w' b p cap first lost q :=
  have k (o : Nat) : w'.cell? ⟨b, o, none⟩ = w.cell? ⟨b, o, none⟩ := World.cell?_of_block eb
  have k' (o : Nat) : w'.cell? ⟨p, o, none⟩ = w.cell? ⟨p, o, none⟩ := World.cell?_of_block ep
  ⟨(k 0).trans h.c0, (k 1).trans h.c1, (k 2).trans h.c2, (k 3).trans h.c3, (k 4).trans h.c4, fun o => (World.frozen?_of_block (a := ⟨b, o, none⟩) eb).trans (h.fb o), fun o => (World.frozen?_of_block (a := ⟨p, o, none⟩) ep).trans (h.fp o),
    h.ne, h.cap1, h.cap64, h.first_lt, h.fits, h.lostb, fun i hi => by rw [k']; exact h.there i hi, fun i x hx => (k' _).trans (h.holds i x hx)⟩
theorem RingAt.below (h : RingAt enc w b p cap first lost q) (hb : Below w.heap.size w w') : RingAt enc w' b p cap first lost q := h.kept (hb.block b h.lt_b) (hb.block p h.lt_p)
theorem RingAt.touch {b' p' : Nat} (h : RingAt enc w b p cap first lost q) (ht : Touch w w' b' p') (h1 : b ≠ b') (h2 : b ≠ p') (h3 : p ≠ b') (h4 : p ≠ p') : RingAt enc w' b p cap first lost q :=
  h.kept (ht.block b h.lt_b h1 h2) (ht.block p h.lt_p h3 h4)
theorem RingAt.grown {row : Option Nat} (h : RingAt enc w b p cap first lost q) (hg : w.grownBy w' row) (h1 : some b ≠ row) (h2 : some p ≠ row) : RingAt enc w' b p cap first lost q :=
  h.kept (hg.block b h.lt_b h1) (hg.block p h.lt_p h2)
end

theorem mod_lt' (a : Nat) {c : Nat} (h : 1 ≤ c) : a % c < c := Nat.mod_lt _ (by omega)

theorem cell_set (w : World) (b o : Nat) (u : Value) {v : Value} (h : w.cell? ⟨b, o, none⟩ = some v) : (w.setCell ⟨b, o, none⟩ u).cell? ⟨b, o, none⟩ = some u := World.cell?_setCell_same' _ _ _ (by simp [h])
theorem cell_far (w : World) (b o b' o' : Nat) (u : Value) (h : b ≠ b' ∨ o ≠ o') : (w.setCell ⟨b, o, none⟩ u).cell? ⟨b', o', none⟩ = w.cell? ⟨b', o', none⟩ :=
  World.cell?_setCell_other _ _ _ _ (by intro e; injection e with e1 e2; rcases h with h | h <;> omega)
theorem there_set (w : World) (b o b' o' : Nat) (u : Value) (h : ∃ v, w.cell? ⟨b', o', none⟩ = some v) : ∃ v, (w.setCell ⟨b, o, none⟩ u).cell? ⟨b', o', none⟩ = some v := by
  by_cases e : b = b' ∧ o = o'
  · obtain ⟨rfl, rfl⟩ := e
    obtain ⟨v, hv⟩ := h
    exact ⟨u, cell_set _ _ _ _ hv⟩
  · rw [cell_far _ _ _ _ _ _ (by omega)]
    exact h

/-- How many a queue that was asked for n holds. -/
def capOf (n : Int) : Nat := if n < 1 then 1 else if 64 < n then 64 else n.toNat
theorem capOf_in (n : Int) : 1 ≤ capOf n ∧ capOf n ≤ 64 := by unfold capOf; split <;> (try split) <;> omega

theorem capOf_eq (n : Int) : (if 64 < if n < 1 then 1 else n then 64 else if n < 1 then 1 else n) = ((capOf n : Nat) : Int) := by unfold capOf; split <;> split <;> (try split) <;> omega

/-- A new queue: the places behind p, the counts behind b. -/
theorem RingAt.new {V : Type} {enc : V → Value} {w : World} {cap : Nat} {T E : TypeId} {z : Value} (h1 : 1 ≤ cap) (h2 : cap ≤ 64) :
    RingAt enc ((w.alloc (.cells (madeCells #[z] cap) E)).alloc (.cells #[.int .i64 0, .int .i64 cap, .int .i64 0, .slice (some ⟨w.heap.size, 0, none⟩) cap cap, .int .i64 0] T)) (w.heap.size + 1) w.heap.size cap 0 0 [] := by
  have hb : ((w.alloc (.cells (madeCells #[z] cap) E)).alloc (.cells #[.int .i64 0, .int .i64 cap, .int .i64 0, .slice (some ⟨w.heap.size, 0, none⟩) cap cap, .int .i64 0] T)).heap[w.heap.size + 1]? = some (.cells #[.int .i64 0, .int .i64 cap, .int .i64 0, .slice (some ⟨w.heap.size, 0, none⟩) cap cap, .int .i64 0] T) := by
    have := heap_alloc_new (w.alloc (.cells (madeCells #[z] cap) E)) (.cells #[.int .i64 0, .int .i64 cap, .int .i64 0, .slice (some ⟨w.heap.size, 0, none⟩) cap cap, .int .i64 0] T)
    simpa using this
  have hp : ((w.alloc (.cells (madeCells #[z] cap) E)).alloc (.cells #[.int .i64 0, .int .i64 cap, .int .i64 0, .slice (some ⟨w.heap.size, 0, none⟩) cap cap, .int .i64 0] T)).heap[w.heap.size]? = some (.cells (madeCells #[z] cap) E) := by
    rw [Below.heap_alloc _ _ _ (by simp)]
    exact heap_alloc_new w _
  have cb (o : Nat) := cell_of_row _ _ o _ _ _ hb
  have cp (o : Nat) := cell_of_row _ _ o _ _ _ hp
  refine ⟨by rw [cb]; rfl, by rw [cb]; rfl, by rw [cb]; rfl, by rw [cb]; rfl, by rw [cb]; rfl, fun o => frozen_of_row _ _ o _ _ hb, fun o => frozen_of_row _ _ o _ _ hp, by omega, h1, h2, by omega, by simp, by omega, fun i hi => ?_, fun i x hx => by simp at hx⟩
  rw [cp]
  exact ⟨_, Array.getElem?_eq_getElem (by rw [size_madeCells]; exact hi)⟩

/-- What New leaves. -/
def Made {V : Type} (enc : V → Value) (n : Int) (w : World) (e : Ending) (w' : World) : Prop :=
  ∃ b p, e = .returned (.pointer (some ⟨b, 0, none⟩)) ∧ w.heap.size ≤ b ∧ w.heap.size ≤ p ∧ RingAt enc w' b p (capOf n) 0 0 [] ∧ Below w.heap.size w w'

/-- One more at the end: behind the store into its place and the raised count. -/
theorem RingAt.put {V : Type} {enc : V → Value} {w : World} {b p cap first : Nat} {lost : Int} {q : List V} (h : RingAt enc w b p cap first lost q) (hf : q.length < cap) (x : V) :
    RingAt enc ((w.setCell ⟨p, (first + q.length) % cap, none⟩ (enc x)).setCell ⟨b, 0, none⟩ (.int .i64 (q.length + 1 : Nat))) b p cap first lost (q ++ [x]) := by
  have hne := h.ne
  have hm := mod_lt' (first + q.length) h.cap1
  refine ⟨?_, ?_, ?_, ?_, ?_, fun o => by rw [World.frozen?_setCell, World.frozen?_setCell]; exact h.fb o, fun o => by rw [World.frozen?_setCell, World.frozen?_setCell]; exact h.fp o, hne, h.cap1, h.cap64, h.first_lt, by simp; omega, h.lostb, ?_, ?_⟩
  · rw [show (q ++ [x]).length = q.length + 1 by simp]
    exact cell_set _ _ _ _ ((cell_far _ _ _ _ _ _ (by omega)).trans h.c0)
  · rw [cell_far _ _ _ _ _ _ (by omega), cell_far _ _ _ _ _ _ (by omega)]; exact h.c1
  · rw [cell_far _ _ _ _ _ _ (by omega), cell_far _ _ _ _ _ _ (by omega)]; exact h.c2
  · rw [cell_far _ _ _ _ _ _ (by omega), cell_far _ _ _ _ _ _ (by omega)]; exact h.c3
  · rw [cell_far _ _ _ _ _ _ (by omega), cell_far _ _ _ _ _ _ (by omega)]; exact h.c4
  · intro i hi
    exact there_set _ _ _ _ _ _ (there_set _ _ _ _ _ _ (h.there i hi))
  · intro i y hy
    rw [cell_far _ _ _ _ _ _ (by omega)]
    by_cases hi : i < q.length
    · rw [List.getElem?_append_left hi] at hy
      have hlt := h.first_lt
      have hne2 : (first + q.length) % cap ≠ (first + i) % cap := by
        intro e
        have h1 := Nat.div_add_mod (first + q.length) cap
        have h2 := Nat.div_add_mod (first + i) cap
        have h3 : (first + q.length) / cap = (first + i) / cap ∨ (first + q.length) / cap = (first + i) / cap + 1 ∨ (first + i) / cap + 1 < (first + q.length) / cap ∨ (first + q.length) / cap < (first + i) / cap := by omega
        have h4 := Nat.mod_lt (first + i) (show 0 < cap by omega)
        have h5 := Nat.mod_lt (first + q.length) (show 0 < cap by omega)
        generalize (first + q.length) / cap = A at *
        generalize (first + i) / cap = B at *
        rcases h3 with h3 | h3 | h3 | h3
        · subst h3; omega
        · subst h3; rw [Nat.mul_add] at h1; omega
        · have := Nat.mul_le_mul_left cap (show B + 2 ≤ A by omega); rw [Nat.mul_add] at this; omega
        · have := Nat.mul_le_mul_left cap (show A + 1 ≤ B by omega); rw [Nat.mul_add] at this; omega
      rw [cell_far _ _ _ _ _ _ (by omega)]
      exact h.holds i y hy
    · have hi' : i = q.length := by
        have := (List.getElem?_eq_some_iff.1 hy).1
        simp at this
        omega
      subst hi'
      rw [List.getElem?_concat_length] at hy
      injection hy with hy
      subst hy
      obtain ⟨v, hv⟩ := h.there _ hm
      exact cell_set _ _ _ _ hv

/-- The oldest one is taken: its place is emptied, the first place moves on, the count falls. -/
theorem RingAt.take {V : Type} {enc : V → Value} {w : World} {b p cap first : Nat} {lost : Int} {x : V} {q : List V} (h : RingAt enc w b p cap first lost (x :: q)) (z : Value) :
    RingAt enc (((w.setCell ⟨p, first % cap, none⟩ z).setCell ⟨b, 4, none⟩ (.int .i64 ((first + 1) % cap : Nat))).setCell ⟨b, 0, none⟩ (.int .i64 q.length)) b p cap ((first + 1) % cap) lost q := by
  have hne := h.ne
  have hlt := h.first_lt
  have hm := mod_lt' (first + 1) h.cap1
  have hfit := h.fits
  simp only [List.length_cons] at hfit
  refine ⟨?_, ?_, ?_, ?_, ?_, fun o => by rw [World.frozen?_setCell, World.frozen?_setCell, World.frozen?_setCell]; exact h.fb o, fun o => by rw [World.frozen?_setCell, World.frozen?_setCell, World.frozen?_setCell]; exact h.fp o, hne, h.cap1, h.cap64, hm, by omega, h.lostb, ?_, ?_⟩
  · exact cell_set _ _ _ _ ((cell_far _ _ _ _ _ _ (by omega)).trans ((cell_far _ _ _ _ _ _ (by omega)).trans h.c0))
  · rw [cell_far _ _ _ _ _ _ (by omega), cell_far _ _ _ _ _ _ (by omega), cell_far _ _ _ _ _ _ (by omega)]; exact h.c1
  · rw [cell_far _ _ _ _ _ _ (by omega), cell_far _ _ _ _ _ _ (by omega), cell_far _ _ _ _ _ _ (by omega)]; exact h.c2
  · rw [cell_far _ _ _ _ _ _ (by omega), cell_far _ _ _ _ _ _ (by omega), cell_far _ _ _ _ _ _ (by omega)]; exact h.c3
  · rw [cell_far _ _ _ _ _ _ (by omega)]; exact cell_set _ _ _ _ ((cell_far _ _ _ _ _ _ (by omega)).trans h.c4)
  · intro i hi
    exact there_set _ _ _ _ _ _ (there_set _ _ _ _ _ _ (there_set _ _ _ _ _ _ (h.there i hi)))
  · intro i y hy
    have hil : i < q.length := (List.getElem?_eq_some_iff.1 hy).1
    have e : ((first + 1) % cap + i) % cap = (first + (i + 1)) % cap := by
      rw [Nat.mod_add_mod]; congr 1; omega
    have hne2 : first % cap ≠ (first + (i + 1)) % cap := by
      rw [Nat.mod_eq_of_lt hlt]
      by_cases hw : first + (i + 1) < cap
      · rw [Nat.mod_eq_of_lt hw]; omega
      · rw [Nat.mod_eq_sub_mod (by omega), Nat.mod_eq_of_lt (by omega)]; omega
    rw [e, cell_far _ _ _ _ _ _ (by omega), cell_far _ _ _ _ _ _ (by omega), cell_far _ _ _ _ _ _ (by omega)]
    exact h.holds (i + 1) y (by simpa using hy)

/-- Some were dropped. -/
theorem RingAt.lose {V : Type} {enc : V → Value} {w : World} {b p cap first : Nat} {lost : Int} {q : List V} (h : RingAt enc w b p cap first lost q) (l : Int) (hl : -9223372036854775808 ≤ l ∧ l ≤ 9223372036854775807) :
    RingAt enc (w.setCell ⟨b, 2, none⟩ (.int .i64 l)) b p cap first l q := by
  have hne := h.ne
  refine ⟨?_, ?_, ?_, ?_, ?_, fun o => by rw [World.frozen?_setCell]; exact h.fb o, fun o => by rw [World.frozen?_setCell]; exact h.fp o, hne, h.cap1, h.cap64, h.first_lt, h.fits, hl, ?_, ?_⟩
  · rw [cell_far _ _ _ _ _ _ (by omega)]; exact h.c0
  · rw [cell_far _ _ _ _ _ _ (by omega)]; exact h.c1
  · exact cell_set _ _ _ _ h.c2
  · rw [cell_far _ _ _ _ _ _ (by omega)]; exact h.c3
  · rw [cell_far _ _ _ _ _ _ (by omega)]; exact h.c4
  · intro i hi; exact there_set _ _ _ _ _ _ (h.there i hi)
  · intro i y hy; rw [cell_far _ _ _ _ _ _ (by omega)]; exact h.holds i y hy
end Go.Proofs.Ytaamachonbkjoaa.ring
