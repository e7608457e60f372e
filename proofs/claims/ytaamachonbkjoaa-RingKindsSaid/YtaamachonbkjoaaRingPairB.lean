/-
  Take of a queue of pairs.
-/
import Derived.Test.YtaamachonbkjoaaRingPairA
import Derived.Deep.RegionWith
namespace Go.Proofs.Ytaamachonbkjoaa.ring
open Go.RowKit

theorem below_set {w a : World} (h : Below w.heap.size w a) {g : Nat} (hg : w.heap.size ≤ g) (o : Nat) (u : Value) : Below w.heap.size w (a.setCell ⟨g, o, none⟩ u) :=
  ⟨h.os, h.tape, h.output, by simpa [World.setCell] using h.size, fun i hi => (Below.heap_setCell a ⟨g, o, none⟩ u i (fun e => by
    have e' : i = g := e
    omega)).trans (h.block i hi)⟩
theorem Touch.setNew {w w' : World} {b p : Nat} (h : Touch w w' b p) {g : Nat} (hg : w.heap.size ≤ g) (o : Nat) (u : Value) : Touch w (w'.setCell ⟨g, o, none⟩ u) b p :=
  ⟨h.os, h.tape, h.output, by simpa [World.setCell] using h.size, fun i hi h1 h2 => (Below.heap_setCell w' ⟨g, o, none⟩ u i (fun e => by
    have e' : i = g := e
    omega)).trans (h.block i hi h1 h2)⟩
theorem PairAt.far {w : World} {b p cap first k : Nat} {lost : Int} (h : PairAt w b p cap first lost k) {g : Nat} (h1 : b ≠ g) (h2 : p ≠ g) (o : Nat) (u : Value) : PairAt (w.setCell ⟨g, o, none⟩ u) b p cap first lost k :=
  h.kept (Below.heap_setCell w ⟨g, o, none⟩ u b h1) (Below.heap_setCell w ⟨g, o, none⟩ u p h2)
theorem two_cells {w : World} {g : Nat} {u u' v v' : Value} (h0 : w.cell? ⟨g, 0, none⟩ = some u) (h1 : w.cell? ⟨g, 1, none⟩ = some u') :
    (((w.setCell ⟨g, 0, none⟩ v).setCell ⟨g, 1, none⟩ v').drew).cell? ⟨g, 0, none⟩ = some v ∧ (((w.setCell ⟨g, 0, none⟩ v).setCell ⟨g, 1, none⟩ v').drew).cell? ⟨g, 1, none⟩ = some v' := by
  constructor
  · exact (cell_far _ _ _ _ _ _ (by omega)).trans (cell_set _ _ _ _ h0)
  · exact cell_set _ _ _ _ ((cell_far _ _ _ _ _ _ (by omega)).trans h1)

abbrev pair0 : Value := .agg #[.int .i64 0, .int .i64 0]

/-- What Take leaves. -/
def TakenP (b p cap first : Nat) (lost : Int) (w : World) : Nat → Ending → World → Prop
  | 0, e, w' => e = .returned (.tuple #[pair0, .bool false]) ∧ Below w.heap.size w w'
  | k + 1, e, w' => e = .returned (.tuple #[pair0, .bool true]) ∧ PairAt w' b p cap ((first + 1) % cap) lost k ∧ Touch w w' b p

theorem takeP_any (b p cap first : Nat) (lost : Int) (k : Nat) (w : World) (h : PairAt w b p cap first lost k) :
    Calls Try.prog 17 #[.pointer (some ⟨b, 0, none⟩)] w fun e w' => TakenP b p cap first lost w k e w' := by
  have hb := h.lt_b
  have c0 := h.c0
  cases k with
  | zero =>
    clear h
    go_enter Try.func17, Try.ntmps17
    go_wp2
    refine bodyPost_ret (v := .tuple #[pair0, .bool false]) (by simp [results, Try.results17, go_sem]) rfl ?_
    exact ⟨rfl, by repeat (first | exact Below.refl _ _ | refine below_new ?_ _ | refine below_set ?_ (by simp) _ _)⟩
  | succ k =>
    have hp := h.lt_p
    have c1 := h.c1
    have c4 := h.c4
    have k1 := h.cap1
    have k2 := h.cap64
    have k3 := h.first_lt
    have k4 := h.fits
    have m0 : (0 : Int) ≤ ((first : Int) + 1) % cap := Int.emod_nonneg _ (by omega)
    have m1 : ((first : Int) + 1) % cap < cap := Int.emod_lt_of_pos _ (by omega)
    have hn0 : (((k + 1 : Nat) : Int) == 0) = false := by rw [beq_eq_false_iff_ne]; omega
    go_enter Try.func17, Try.ntmps17
    go_upto_region 4 with (fail)
    obtain ⟨W0, hW0⟩ : ∃ W0, (w.alloc (Obj.cells #[Value.int IntKind.i64 0, Value.int IntKind.i64 0] 43)).alloc (Obj.cells #[Value.int IntKind.i64 0, Value.int IntKind.i64 0] 43) = W0 := ⟨_, rfl⟩
    have hbl0 : Below w.heap.size w W0 := by rw [← hW0]; exact below_new (below_new (Below.refl _ _) _) _
    have q0 : W0.cell? ⟨w.heap.size, 0, none⟩ = some (.int .i64 0) ∧ W0.cell? ⟨w.heap.size, 1, none⟩ = some (.int .i64 0) ∧ W0.cell? ⟨w.heap.size + 1, 0, none⟩ = some (.int .i64 0) ∧ W0.cell? ⟨w.heap.size + 1, 1, none⟩ = some (.int .i64 0) ∧ W0.frozen? ⟨w.heap.size, 0, none⟩ = false ∧ W0.frozen? ⟨w.heap.size, 1, none⟩ = false ∧ W0.heap.size = w.heap.size + 2 := by
      rw [← hW0]; simp
    rw [hW0]
    obtain ⟨q1, q2, q3, q4, f1, f2, hs0⟩ := q0
    have h0 := h.below hbl0
    clear hW0 c0 c1 c4 h
    have hT0 := Touch.of_below b p hbl0
    have hX : w.heap.size < W0.heap.size := by omega
    have hX1 : w.heap.size + 1 < W0.heap.size := by omega
    generalize hXw : w.heap.size = X at *
    have HXW := Lib.hid hXw
    clear hXw
    go_upto_region 5 with (go_at_call 28; go_must (refine (atP_any b p cap first lost _ 0 _ h0 (by omega)).mono ?_; rintro e w1 ⟨rfl, hb1⟩; have h1 := h0.below hb1; have z0 := h1.zero (first % cap * 2) (by rw [Nat.mod_eq_of_lt k3]; omega); have z1 := h1.zero (first % cap * 2 + 1) (by rw [Nat.mod_eq_of_lt k3]; omega)))
    obtain ⟨W1, hW1⟩ : ∃ W1, w1.alloc (Obj.cells #[Value.int IntKind.i64 0, Value.int IntKind.i64 0] 43) = W1 := ⟨_, rfl⟩
    have hbl1 : Below W0.heap.size W0 W1 := by rw [← hW1]; exact below_new hb1 _
    have y : W1.cell? ⟨w1.heap.size, 0, none⟩ = some (.int .i64 0) ∧ W1.cell? ⟨w1.heap.size, 1, none⟩ = some (.int .i64 0) ∧ w1.heap.size < W1.heap.size := by rw [← hW1]; simp
    rw [hW1]
    obtain ⟨y0, y1, hY⟩ := y
    obtain ⟨r1, g1⟩ := below_reads hbl1
    have p3 := (r1 (X + 1) 0 hX1).trans q3
    have p4 := (r1 (X + 1) 1 hX1).trans q4
    have p1 := (r1 X 0 hX).trans q1
    have p2 := (r1 X 1 hX).trans q2
    have e1 := (g1 X 0 hX).trans f1
    have e2 := (g1 X 1 hX).trans f2
    have h2 := h0.below hbl1
    have hT1 := hT0.below hbl1
    have hs1 := hbl1.size
    have hs11 := hb1.size
    have hX' : X < W1.heap.size := by omega
    have hX1' : X + 1 < W1.heap.size := by omega
    have hXY : X + 1 < w1.heap.size := by omega
    clear r1 g1 h1 hb1 hbl0 hbl1 q1 q2 q3 q4 f1 f2 h0 hT0 hW1 hs0 hX hX1 hs1 z0 z1
    generalize w1.heap.size = Y at *
    go_cut [] (fun wx => PairAt wx b p cap first lost (k + 1) ∧ Touch W1 wx b p)
    case first =>
      have i0 : first % cap * 2 < cap * 2 := by rw [Nat.mod_eq_of_lt k3]; omega
      have i1 : first % cap * 2 + 1 < cap * 2 := by rw [Nat.mod_eq_of_lt k3]; omega
      go_region_with (go_at_call 28; go_must (refine (atP_any b p cap first lost (k + 1) 0 W1.drew (h2.kept rfl rfl) (by omega)).mono ?_; rintro e w2 ⟨rfl, hb2⟩; have h3 := (h2.kept (w' := W1.drew) rfl rfl).below hb2; have z0 := h3.zero (first % cap * 2) (by rw [Nat.mod_eq_of_lt k3]; omega); have z1 := h3.zero (first % cap * 2 + 1) (by rw [Nat.mod_eq_of_lt k3]; omega); have fp := h3.fp; obtain ⟨r2, g2⟩ := below_reads hb2; have p3' := (r2 (X + 1) 0 hX1').trans p3; have p4' := (r2 (X + 1) 1 hX1').trans p4))
      all_goals
        go_wp2
        go_meet
        case rel => exact ⟨(h3.zeroed _ i0).zeroed _ i1, ((((Touch.refl W1 b p).drew.below hb2).set (.inr rfl) _ _).set (.inr rfl) _ _)⟩
    case rest =>
      obtain ⟨h3, hT2⟩ := hcut
      have x1 := hT2.cell p1 (by simp; omega) (by simp; omega)
      have x2 := hT2.cell p2 (by simp; omega) (by simp; omega)
      have x3 := hT2.cell y0 (by simp; omega) (by simp; omega)
      have x4 := hT2.cell y1 (by simp; omega) (by simp; omega)
      have eX : wc.heap[X]? = W1.heap[X]? := hT2.block X hX' (by omega) (by omega)
      have f1 : wc.frozen? ⟨X, 0, none⟩ = false := (World.frozen?_of_block (a := ⟨X, 0, none⟩) eX).trans e1
      have f2 : wc.frozen? ⟨X, 1, none⟩ = false := (World.frozen?_of_block (a := ⟨X, 1, none⟩) eX).trans e2
      have hT3 := hT1.trans hT2
      have c0 := h3.c0
      have c1 := h3.c1
      have c4 := h3.c4
      have fb := h3.fb
      have f0 := fb 0
      have f4 := fb 4
      have n1 : b ≠ X := by omega
      have n2 : b ≠ Y := by omega
      have n3 : X ≠ Y := by omega
      have hfin := (h3.start ((first + 1) % cap) (Nat.mod_lt _ (by omega))).count k (by omega)
      have HT := Lib.hid hT3
      have HF := Lib.hid hfin
      clear hT2 hT1 hT3 p1 p2 p3 p4 y0 y1 eX e1 e2 h3 h2 fb hfin
      go_wp2
      go_region
      all_goals
        go_wp2
        generalize hV : (wc.setCell ⟨b, 4, none⟩ (Value.int IntKind.i64 (((first : Int) + 1) % (cap : Int)))).setCell ⟨b, 0, none⟩ (Value.int IntKind.i64 (k : Int)) = V
        have v1 : V.cell? ⟨X, 0, none⟩ = some (.int .i64 0) := by rw [← hV, cell_far _ _ _ _ _ _ (by omega), cell_far _ _ _ _ _ _ (by omega)]; exact x1
        have v2 : V.cell? ⟨X, 1, none⟩ = some (.int .i64 0) := by rw [← hV, cell_far _ _ _ _ _ _ (by omega), cell_far _ _ _ _ _ _ (by omega)]; exact x2
        have hTV : Touch w V b p := by rw [← hV]; exact (HT.out.set (.inl rfl) _ _).set (.inl rfl) _ _
        have hFV : PairAt V b p cap ((first + 1) % cap) lost k := by
          have := HF.out
          rw [← hV]
          rw [show (((first + 1) % cap : Nat) : Int) = ((first : Int) + 1) % (cap : Int) from by simp] at this
          exact this
        obtain ⟨u1, u2⟩ := two_cells (v := .int .i64 0) (v' := .int .i64 0) v1 v2
        refine bodyPost_ret (v := .tuple #[pair0, .bool true]) (by simp [results, Try.results17, go_sem, u1, u2]) rfl ?_
        exact ⟨rfl, ((hFV.far (by omega) (by omega) _ _).far (by omega) (by omega) _ _).kept rfl rfl, ((hTV.setNew (by have := HXW.out; omega) _ _).setNew (by have := HXW.out; omega) _ _).drew⟩
end Go.Proofs.Ytaamachonbkjoaa.ring
