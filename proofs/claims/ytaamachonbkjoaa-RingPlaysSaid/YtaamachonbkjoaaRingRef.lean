/-
  The reference's queue: a list that is copied anew at every take.
-/
import Derived.Test.YtaamachonbkjoaaRingKeepsA
namespace Go.Proofs.Ytaamachonbkjoaa.ring
open Go.RowKit

/-- The reference's queue in memory: block r; its list is the row v of its own. -/
structure RefAt (w : World) (B r cap : Nat) (lost : Int) (q : List Int) (v : Value) : Prop where
  c0 : w.cell? ⟨r, 0, none⟩ = some v
  c1 : w.cell? ⟨r, 1, none⟩ = some (.int .i64 cap)
  c2 : w.cell? ⟨r, 2, none⟩ = some (.int .i64 lost)
  fr : ∀ o, w.frozen? ⟨r, o, none⟩ = false
  own : w.ownsRow B 3 1 v q.length (q.map (Value.int .i64))
  lt : r < B
  cap1 : 1 ≤ cap
  cap64 : cap ≤ 64
  fits : q.length ≤ cap
  lostb : -9223372036854775808 ≤ lost ∧ lost ≤ 9223372036854775807

section
variable {w w' : World} {B r cap : Nat} {lost : Int} {q : List Int} {v : Value}
theorem RefAt.lt_r (h : RefAt w B r cap lost q v) : r < w.heap.size := World.block_lt_of_cell? w _ h.c0
theorem RefAt.kept (h : RefAt w B r cap lost q v) (er : w'.heap[r]? = w.heap[r]?) (ho : w'.ownsRow B 3 1 v q.length (q.map (Value.int .i64))) : RefAt w' B r cap lost q v :=
  have e (o : Nat) : w'.cell? ⟨r, o, none⟩ = w.cell? ⟨r, o, none⟩ := World.cell?_of_block er
  ⟨(e 0).trans h.c0, (e 1).trans h.c1, (e 2).trans h.c2, fun o => (World.frozen?_of_block (a := ⟨r, o, none⟩) er).trans (h.fr o), ho, h.lt, h.cap1, h.cap64, h.fits, h.lostb⟩
theorem RefAt.below (h : RefAt w B r cap lost q v) (hb : Below w.heap.size w w') : RefAt w' B r cap lost q v := h.kept (hb.block r h.lt_r) (own_below h.own hb)
theorem RefAt.touch {b p : Nat} (h : RefAt w B r cap lost q v) (ht : Touch w w' b p) (h1 : r ≠ b) (h2 : r ≠ p) (hb : b < B) (hp : p < B) : RefAt w' B r cap lost q v := h.kept (ht.block r h.lt_r h1 h2) (own_touch h.own ht hb hp)
end

/-- What New leaves. -/
def MadeR (n : Int) (w : World) (e : Ending) (w' : World) : Prop :=
  ∃ r, e = .returned (.pointer (some ⟨r, 0, none⟩)) ∧ w.heap.size ≤ r ∧ (∀ B, r < B → RefAt w' B r (capOf n) 0 [] (.slice none 0 0)) ∧ r < w'.heap.size ∧ Below w.heap.size w w'

theorem newR_any (n : Int) (w : World) : Calls Try.prog 20 #[.int .i64 n] w fun e w' => MadeR n w e w' := by
  have hc := capOf_in n
  have hce := capOf_eq n
  obtain ⟨c, hcn⟩ : ∃ c, capOf n = c := ⟨_, rfl⟩
  rw [hcn] at hc hce
  have HC := Lib.hid hcn
  clear hcn
  go_enter Try.func20, Try.ntmps20
  go_wp2
  all_goals
    go_ret
    refine ⟨w.heap.size, rfl, Nat.le_refl _, fun B hB => ?_, by simp, below_new (Below.refl _ _) _⟩
    rw [HC.out]
    exact ⟨by simp, by simp, by simp, fun o => by simp, World.ownsRow_nil _ _ _ _, hB, hc.1, hc.2, Nat.zero_le _, by omega⟩

/-- What Take leaves. -/
def TakenR (B r cap : Nat) (lost : Int) (w : World) : List Int → Ending → World → Prop
  | [], e, w' => e = .returned (.tuple #[.int .i64 0, .bool false]) ∧ Below w.heap.size w w'
  | x :: q, e, w' => e = .returned (.tuple #[.int .i64 x, .bool true]) ∧ (∃ v, RefAt w' B r cap lost q v) ∧ Touch w w' r r

theorem takeR_any (B r cap : Nat) (lost : Int) (q : List Int) (v : Value) (w : World) (h : RefAt w B r cap lost q v) (hB : B ≤ w.heap.size) :
    Calls Try.prog 21 #[.pointer (some ⟨r, 0, none⟩)] w fun e w' => TakenR B r cap lost w q e w' := by
  have hr := h.lt_r
  have c0 := h.c0
  obtain ⟨a, c, rfl, hh⟩ := own_ints h.own rfl
  cases q with
  | nil =>
    simp only [List.length_nil] at c0
    clear h hh
    go_enter Try.func21, Try.ntmps21
    go_wp2
    go_ret2
    exact ⟨rfl, Below.refl _ _⟩
  | cons x q =>
    obtain ⟨g, o, rfl, hc⟩ := hh.resolve_left (by simp)
    have hown := h.own
    obtain ⟨hle, hmax, hgB⟩ : q.length + 1 ≤ c ∧ c ≤ maxLen ∧ B ≤ g := by
      rcases hown.2 with ⟨hv, -⟩ | ⟨g', cap', cur, hv, hb', hg', h1, h2, h3, h4⟩
      · cases hv
      · simp only [Value.slice.injEq, Option.some.injEq, Addr.mk.injEq] at hv
        obtain ⟨⟨rfl, -, -⟩, -, rfl⟩ := hv
        exact ⟨by simpa using h1, h2, hb'⟩
    have hfit := h.fits
    have hc64 := h.cap64
    simp only [List.length_cons] at hfit
    have hx := hc 0 x rfl
    have hg : g < w.heap.size := World.block_lt_of_cell? _ _ hx
    rw [Nat.add_zero] at hx
    have hrB := h.lt
    have f0 := h.fr 0
    have hn0 : (((q.length + 1 : Nat) : Int) == 0) = false := by rw [beq_eq_false_iff_ne]; omega
    simp only [List.length_cons] at c0
    have hm63 : c ≤ 9223372036854775807 := by unfold maxLen at hmax; omega
    have hc0 : (c : Int) - 1 = ((c - 1 : Nat) : Int) := by omega
    have hq0 : (q.length : Int) + 1 - 1 = (q.length : Int) := by omega
    have HH := Lib.hid h
    have HC := Lib.hid hc
    clear h hc hown
    go_enter Try.func21, Try.ntmps21
    go_upto_region 4 with (fail)
    obtain ⟨i0, hi, hz0, hz1, hz2⟩ := info_parts info_int
    have hmade : (w.alloc (.cells #[] 3)).ownsRow B 3 1 (.slice (some ⟨w.heap.size, 0, none⟩) 0 0) 0 [] := World.ownsRow_made w #[] 0 hB (by unfold maxLen; omega) rfl
    have hao : (if c = 1 then some (⟨g, o, none⟩ : Addr) else some ⟨g, o + 1, none⟩) = none → q.length = 0 ∧ c - 1 = 0 := fun e1 => by split at e1 <;> cases e1
    have hnews : ∀ ad, (if c = 1 then some (⟨g, o, none⟩ : Addr) else some ⟨g, o + 1, none⟩) = some ad → ∀ j u, (q.map (Value.int .i64))[j]? = some u → (w.alloc (.cells #[] 3)).cell? (ad.add j) = some u := by
      intro ad had j u hu
      rw [List.getElem?_map, Option.map_eq_some_iff] at hu
      obtain ⟨y, hy, rfl⟩ := hu
      have hjl : j < q.length := (List.getElem?_eq_some_iff.1 hy).1
      have hcell := HC.out (j + 1) y (by simpa using hy)
      rw [if_neg (by omega)] at had
      injection had with had
      subst had
      rw [plain_add, World.cell?_alloc_lt _ _ _ hg]
      rw [show o + 1 + j = o + (j + 1) by omega]
      exact hcell
    have hne : some r ≠ (Value.slice (some ⟨w.heap.size, 0, none⟩) 0 0).ownBlock := by
      intro e1
      simp only [Value.ownBlock, Option.some.injEq] at e1
      omega
    go_wp2_with (at_builtin; go_must (refine append_any rfl _ _ 38 rfl B 3 i0 (.int .i64 0) 1 8 Try.underlying38 hi hz0 hz1 hz2 rfl (by decide) _ 0 [] rfl hmade _ q.length (c - 1) (q.map (Value.int .i64)) rfl hao (by simp) hnews (ints_one q) (by unfold maxLen; omega) (by omega) (by simp; omega) ?_; intro v' w2 k1 k2 k3; rw [Nat.zero_add, List.nil_append] at k1; obtain ⟨a', c', rfl, -⟩ := own_ints k1 rfl; have er := k2.block r (by simp; omega) hne; have f2 := (World.frozen?_of_block (a := ⟨r, 0, none⟩) (er.trans (Below.heap_alloc _ _ _ hr))).trans f0; have g2 := (World.cell?_of_block (a := ⟨r, 0, none⟩) (er.trans (Below.heap_alloc _ _ _ hr))).trans c0))
    all_goals
      go_ret2
      have h2 := HH.out
      have er' : w2.heap[r]? = w.heap[r]? := er.trans (Below.heap_alloc _ _ _ hr)
      have e (o : Nat) : w2.cell? ⟨r, o, none⟩ = w.cell? ⟨r, o, none⟩ := World.cell?_of_block er'
      refine ⟨rfl, ⟨.slice a' q.length c', ?_⟩, ?_⟩
      · refine ⟨cell_set _ _ _ _ ((e 0).trans h2.c0), (cell_far _ _ _ _ _ _ (by omega)).trans ((e 1).trans h2.c1), (cell_far _ _ _ _ _ _ (by omega)).trans ((e 2).trans h2.c2), fun o => (World.frozen?_setCell _ _ _ _).trans ((World.frozen?_of_block (a := ⟨r, o, none⟩) er').trans (h2.fr o)), ?_, hrB, h2.cap1, hc64, by omega, h2.lostb⟩
        refine ownsRow_setCell_other k1 (fun hv => ?_) _
        have := (k1.lt _ hv).1
        simp at this
        omega
      · have ht : Touch w w2 r r := ⟨k2.os, k2.tape, k2.output, Nat.le_trans (by simp) k2.size, fun i hi h1 _ => (k2.block i (by simp; omega) (by intro e1; have e2 : some i = some w.heap.size := e1; injection e2; omega)).trans (Below.heap_alloc _ _ _ hi)⟩
        exact ht.set (.inl rfl) _ _
end Go.Proofs.Ytaamachonbkjoaa.ring
