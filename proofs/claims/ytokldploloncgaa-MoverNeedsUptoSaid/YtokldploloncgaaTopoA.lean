/-
  The ways through a section: the tables, and what Way, Pos and Ends make of them, in the program and in the reference.
-/
import Derived.Test.YtokldploloncgaaLaw
import Derived.Test.YtokldploloncgaaRegion
import Derived.WalkSpells
import Derived.Deep.DeepCutAuto
import Derived.Deep.DeepMust
namespace Go.Proofs.Ytokldploloncgaa.topo
open Go.RowKit

/-- The ways of a kind: one end, the other, the position. -/
def tab (k : Int) : List (Int × Int × Int) := if k = 0 then [(0, 1, 0)] else if k = 1 then [(0, 1, 1), (0, 2, 2)] else if k = 2 then [(0, 1, 0), (2, 3, 0)] else []
def otherT (a b x : Int) : Option Int := if x = a then some b else if x = b then some a else none
def wayL : List (Int × Int × Int) → Int → Int → Option Int
  | [], _, _ => none
  | (a, b, q) :: r, i, p => match otherT a b i with
    | some o => if q = 0 ∨ q = p then some o else wayL r i p
    | none => wayL r i p
def posL : List (Int × Int × Int) → Int → Int → Option Int
  | [], _, _ => none
  | (a, b, q) :: r, i, o => if otherT a b i = some o then some q else posL r i o
def wayT (k i p : Int) : Option Int := wayL (tab k) i p
def posT (k i o : Int) : Option Int := posL (tab k) i o
def endsT (k : Int) : Int := if k = 0 then 2 else if k = 1 then 3 else if k = 2 then 4 else 0

/-- A number and 'there is one'. -/
def ansV : Option Int → Value
  | some x => .tuple #[.int .i64 x, .bool true]
  | none => .tuple #[.int .i64 0, .bool false]
@[go_sem] theorem ansV_some (x : Int) : ansV (some x) = .tuple #[.int .i64 x, .bool true] := rfl
@[go_sem] theorem ansV_none : ansV none = .tuple #[.int .i64 0, .bool false] := rfl

/-- A table in memory. -/
structure TabAt (w : World) (ao : Option Addr) (n : Nat) (L : List (Int × Int × Int)) : Prop where
  len : L.length = n
  small : n ≤ 2
  at' : n = 0 ∨ ∃ g, ao = some ⟨g, 0, none⟩ ∧ ∀ j a b q, L[j]? = some (a, b, q) → w.cell? ⟨g, j * 3, none⟩ = some (.int .i64 a) ∧ w.cell? ⟨g, j * 3 + 1, none⟩ = some (.int .i64 b) ∧ w.cell? ⟨g, j * 3 + 2, none⟩ = some (.int .i64 q)

theorem TabAt.below {w w' : World} {ao : Option Addr} {n : Nat} {L : List (Int × Int × Int)} (h : TabAt w ao n L) (hb : Below w.heap.size w w') : TabAt w' ao n L := by
  refine ⟨h.len, h.small, ?_⟩
  rcases h.at' with h0 | ⟨g, e, hc⟩
  · exact .inl h0
  · refine .inr ⟨g, e, fun j a b q hj => ?_⟩
    obtain ⟨h1, h2, h3⟩ := hc j a b q hj
    exact ⟨(hb.cell (p := ⟨g, j * 3, none⟩) (World.block_lt_of_cell? _ _ h1)).trans h1, (hb.cell (p := ⟨g, j * 3 + 1, none⟩) (World.block_lt_of_cell? _ _ h2)).trans h2, (hb.cell (p := ⟨g, j * 3 + 2, none⟩) (World.block_lt_of_cell? _ _ h3)).trans h3⟩

def Tabs (w : World) (k : Int) (e : Ending) (w' : World) : Prop := ∃ ao n, e = .returned (.slice ao n n) ∧ TabAt w' ao n (tab k) ∧ Below w.heap.size w w'

theorem tab_one {w : World} {g : Nat} {a b q : Int} {t : TypeId} (h : w.heap[g]? = some (.cells #[.int .i64 a, .int .i64 b, .int .i64 q] t)) : TabAt w (some ⟨g, 0, none⟩) 1 [(a, b, q)] := by
  refine ⟨rfl, by omega, .inr ⟨g, rfl, fun j a' b' q' hj => ?_⟩⟩
  have hc (o : Nat) := cell_of_row _ _ o _ _ _ h
  match j, hj with
  | 0, hj =>
    simp only [List.getElem?_cons_zero, Option.some.injEq, Prod.mk.injEq] at hj
    obtain ⟨rfl, rfl, rfl⟩ := hj
    exact ⟨by rw [hc]; rfl, by rw [hc]; rfl, by rw [hc]; rfl⟩
theorem tab_two {w : World} {g : Nat} {a b q c d r : Int} {t : TypeId} (h : w.heap[g]? = some (.cells #[.int .i64 a, .int .i64 b, .int .i64 q, .int .i64 c, .int .i64 d, .int .i64 r] t)) : TabAt w (some ⟨g, 0, none⟩) 2 [(a, b, q), (c, d, r)] := by
  refine ⟨rfl, by omega, .inr ⟨g, rfl, fun j a' b' q' hj => ?_⟩⟩
  have hc (o : Nat) := cell_of_row _ _ o _ _ _ h
  match j, hj with
  | 0, hj =>
    simp only [List.getElem?_cons_zero, Option.some.injEq, Prod.mk.injEq] at hj
    obtain ⟨rfl, rfl, rfl⟩ := hj
    exact ⟨by rw [hc]; rfl, by rw [hc]; rfl, by rw [hc]; rfl⟩
  | 1, hj =>
    simp only [List.getElem?_cons_succ, List.getElem?_cons_zero, Option.some.injEq, Prod.mk.injEq] at hj
    obtain ⟨rfl, rfl, rfl⟩ := hj
    exact ⟨by rw [hc]; rfl, by rw [hc]; rfl, by rw [hc]; rfl⟩

theorem ways_any (k : Int) (w : World) : Calls Try.prog 48 #[.int .i64 k] w fun e w' => Tabs w k e w' := by
  by_cases h0 : k = 0
  · subst h0
    go_enter Try.func48, Try.ntmps48
    go_wp2
    go_ret
    exact ⟨_, 1, rfl, tab_one (heap_alloc_new w _), below_new (Below.refl _ _) _⟩
  by_cases h1 : k = 1
  · subst h1
    go_enter Try.func48, Try.ntmps48
    go_wp2
    go_ret
    exact ⟨_, 2, rfl, tab_two (heap_alloc_new w _), below_new (Below.refl _ _) _⟩
  by_cases h2 : k = 2
  · subst h2
    go_enter Try.func48, Try.ntmps48
    go_wp2
    go_ret
    exact ⟨_, 2, rfl, tab_two (heap_alloc_new w _), below_new (Below.refl _ _) _⟩
  have e : tab k = [] := by unfold tab; rw [if_neg h0, if_neg h1, if_neg h2]
  have b0 : (k == 0) = false := by simpa using h0
  have b1 : (k == 1) = false := by simpa using h1
  have b2 : (k == 2) = false := by simpa using h2
  have E := Lib.hid e
  clear h0 h1 h2 e
  go_enter Try.func48, Try.ntmps48
  go_wp2
  go_ret
  exact ⟨_, 0, rfl, by rw [E.out]; exact ⟨rfl, by omega, .inl rfl⟩, Below.refl _ _⟩

theorem waysR_any (k : Int) (w : World) : Calls Try.prog 50 #[.int .i64 k] w fun e w' => Tabs w k e w' := by
  by_cases h0 : k = 0
  · subst h0
    go_enter Try.func50, Try.ntmps50
    go_wp2
    go_ret
    exact ⟨_, 1, rfl, tab_one (heap_alloc_new w _), below_new (Below.refl _ _) _⟩
  by_cases h1 : k = 1
  · subst h1
    go_enter Try.func50, Try.ntmps50
    go_wp2
    go_ret
    exact ⟨_, 2, rfl, tab_two (heap_alloc_new w _), below_new (Below.refl _ _) _⟩
  by_cases h2 : k = 2
  · subst h2
    go_enter Try.func50, Try.ntmps50
    go_wp2
    go_ret
    exact ⟨_, 2, rfl, tab_two (heap_alloc_new w _), below_new (Below.refl _ _) _⟩
  have e : tab k = [] := by unfold tab; rw [if_neg h0, if_neg h1, if_neg h2]
  have b0 : (k == 0) = false := by simpa using h0
  have b1 : (k == 1) = false := by simpa using h1
  have b2 : (k == 2) = false := by simpa using h2
  have E := Lib.hid e
  clear h0 h1 h2 e
  go_enter Try.func50, Try.ntmps50
  go_wp2
  go_ret
  exact ⟨_, 0, rfl, by rw [E.out]; exact ⟨rfl, by omega, .inl rfl⟩, Below.refl _ _⟩

/-- slices.Index over two numbers. -/
def idx2 (a b x : Int) : Int := if x = a then 0 else if x = b then 1 else -1
theorem index_two (g : Nat) (a b x : Int) (w : World) (h0 : w.cell? ⟨g, 0, none⟩ = some (.int .i64 a)) (h1 : w.cell? ⟨g, 1, none⟩ = some (.int .i64 b)) :
    Calls Try.prog 52 #[.slice (some ⟨g, 0, none⟩) 2 2, .int .i64 x] w fun e w' => e = .returned (.int .i64 (idx2 a b x)) ∧ Below w.heap.size w w' := by
  by_cases e0 : x = a
  · have b0 : (x == a) = true := by simpa using e0
    have E : Hid (idx2 a b x = 0) := Lib.hid (by unfold idx2; rw [if_pos e0])
    clear e0
    go_enter Try.func52, Try.ntmps52
    go_wp2
    refine wp_loop_rounds 1 ?_
    rw [rounds_succ]
    go_wp2
    go_ret
    exact ⟨by rw [E.out]; rfl, Below.refl _ _⟩
  · have b0 : (x == a) = false := by simpa using e0
    by_cases e1 : x = b
    · have b1 : (x == b) = true := by simpa using e1
      have E : Hid (idx2 a b x = 1) := Lib.hid (by unfold idx2; rw [if_neg e0, if_pos e1])
      clear e0 e1
      go_enter Try.func52, Try.ntmps52
      go_wp2
      refine wp_loop_rounds 2 ?_
      rw [rounds_succ]
      go_wp2
      rw [rounds_succ]
      go_wp2
      go_ret
      exact ⟨by rw [E.out]; rfl, Below.refl _ _⟩
    · have b1 : (x == b) = false := by simpa using e1
      have E : Hid (idx2 a b x = -1) := Lib.hid (by unfold idx2; rw [if_neg e0, if_neg e1])
      clear e0 e1
      go_enter Try.func52, Try.ntmps52
      go_wp2
      refine wp_loop_rounds 3 ?_
      rw [rounds_succ]
      go_wp2
      rw [rounds_succ]
      go_wp2
      rw [rounds_succ]
      go_wp2
      go_ret
      exact ⟨by rw [E.out]; rfl, Below.refl _ _⟩

theorem other_any (a b q x : Int) (w : World) :
    Calls Try.prog 49 #[.agg #[.int .i64 a, .int .i64 b, .int .i64 q], .int .i64 x] w fun e w' => e = .returned (ansV (otherT a b x)) ∧ Below w.heap.size w w' := by
  have c0 : (w.alloc (.cells #[.int .i64 a, .int .i64 b, .int .i64 q] 101)).cell? ⟨w.heap.size, 0, none⟩ = some (.int .i64 a) := by simp
  have c1' : (w.alloc (.cells #[.int .i64 a, .int .i64 b, .int .i64 q] 101)).cell? ⟨w.heap.size, 1, none⟩ = some (.int .i64 b) := by simp
  by_cases e0 : x = a
  · have hi : idx2 a b x = 0 := by unfold idx2; rw [if_pos e0]
    have E : Hid (otherT a b x = some b) := Lib.hid (by unfold otherT; rw [if_pos e0])
    clear e0
    go_enter Try.func49, Try.ntmps49
    go_wp2_with (go_at_call 52; go_must (refine (index_two w.heap.size a b x _ c0 c1').mono ?_; rintro e w1 ⟨rfl, hb1⟩; obtain ⟨c1, f1⟩ := below_reads hb1; rw [hi]))
    go_ret2
    exact ⟨by rw [E.out]; rfl, below_step (below_new (Below.refl _ _) _) hb1⟩
  · by_cases e1 : x = b
    · have hi : idx2 a b x = 1 := by unfold idx2; rw [if_neg e0, if_pos e1]
      have E : Hid (otherT a b x = some a) := Lib.hid (by unfold otherT; rw [if_neg e0, if_pos e1])
      clear e0 e1
      go_enter Try.func49, Try.ntmps49
      go_wp2_with (go_at_call 52; go_must (refine (index_two w.heap.size a b x _ c0 c1').mono ?_; rintro e w1 ⟨rfl, hb1⟩; obtain ⟨c1, f1⟩ := below_reads hb1; rw [hi]))
      go_ret2
      exact ⟨by rw [E.out]; rfl, below_step (below_new (Below.refl _ _) _) hb1⟩
    · have hi : idx2 a b x = -1 := by unfold idx2; rw [if_neg e0, if_neg e1]
      have E : Hid (otherT a b x = none) := Lib.hid (by unfold otherT; rw [if_neg e0, if_neg e1])
      clear e0 e1
      go_enter Try.func49, Try.ntmps49
      go_wp2_with (go_at_call 52; go_must (refine (index_two w.heap.size a b x _ c0 c1').mono ?_; rintro e w1 ⟨rfl, hb1⟩; obtain ⟨c1, f1⟩ := below_reads hb1; rw [hi]))
      go_ret2
      exact ⟨by rw [E.out]; rfl, below_step (below_new (Below.refl _ _) _) hb1⟩
end Go.Proofs.Ytokldploloncgaa.topo
