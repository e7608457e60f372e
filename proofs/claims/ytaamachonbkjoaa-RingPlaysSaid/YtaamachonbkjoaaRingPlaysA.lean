/-
  RingPlays: what stands in memory between two calls of the script.
-/
import Derived.Test.YtaamachonbkjoaaRingRefB
import Derived.Test.YtaamachonbkjoaaRingNums
namespace Go.Proofs.Ytaamachonbkjoaa.ring
open Go.RowKit

/-- One call of the script. -/
structure OpAt (w : World) (g o : Nat) (t : Bool) (ao : Option Addr) (ln lc : Nat) (L : List Int) : Prop where
  c0 : w.cell? ⟨g, o, none⟩ = some (.bool t)
  c1 : w.cell? ⟨g, o + 1, none⟩ = some (.slice ao ln lc)
  nums : Nums w ao ln lc L
  reach : lc * 8 ≤ 140737488351232

theorem Nums.below {w w' : World} {ao : Option Addr} {ln lc : Nat} {L : List Int} (h : Nums w ao ln lc L) (hb : Below w.heap.size w w') : Nums w' ao ln lc L := by
  refine ⟨h.len, h.le, h.max, h.nil, ?_⟩
  rcases h.at' with h0 | ⟨g, o, e, hg, hc⟩
  · exact .inl h0
  · exact .inr ⟨g, o, e, Nat.lt_of_lt_of_le hg hb.size, fun i x hx => (hb.cell (p := ⟨g, o + i, none⟩) hg).trans (hc i x hx)⟩
theorem Nums.holds {w : World} {ao : Option Addr} {ln lc : Nat} {L : List Int} (h : Nums w ao ln lc L) : int.Holds w ao L := by
  rcases h.at' with h0 | ⟨g, o, e, hg, hc⟩
  · exact .inl (List.eq_nil_of_length_eq_zero (by rw [h.len, h0]))
  · exact .inr ⟨g, o, e, hc⟩

/-- The blocks: two queues and the reference's, all below B and above what was there. -/
structure Blocks (B0 B b1 p1 b3 p3 r : Nat) : Prop where
  lo : B0 ≤ b1 ∧ B0 ≤ p1 ∧ B0 ≤ b3 ∧ B0 ≤ p3 ∧ B0 ≤ r
  hi : b1 < B ∧ p1 < B ∧ b3 < B ∧ p3 < B ∧ r < B
  a : b1 ≠ b3 ∧ b1 ≠ p3 ∧ p1 ≠ b3 ∧ p1 ≠ p3
  m : r ≠ b1 ∧ r ≠ p1 ∧ r ≠ b3 ∧ r ≠ p3

theorem own_aside {w w' : World} {B e s n g : Nat} {v : Value} {xs : List Value} (h : w.ownsRow B e s v n xs) (ht : Touch w w' g g) (hne : v.ownBlock ≠ some g) : w'.ownsRow B e s v n xs := by
  refine ⟨h.1, ?_⟩
  rcases h.2 with hn | ⟨k, cap, cur, hv, hg, hc, rest⟩
  · exact .inl hn
  · exact .inr ⟨k, cap, cur, hv, hg, (ht.block k (lt_size hc) (fun e => hne (by rw [hv, ← e]; rfl)) (fun e => hne (by rw [hv, ← e]; rfl))).trans hc, rest⟩

/-- Between two calls of the script. -/
structure Play (w0 : World) (B b1 p1 b3 p3 r cap : Nat) (w : World) (f : Nat) (lost : Int) (q : List Int) (v : Value) : Prop where
  i : RingAt int.enc w b1 p1 cap f lost q
  o : RingAt int.enc w b3 p3 3 0 0 []
  m : RefAt w B r cap lost q v
  below : Below w0.heap.size w0 w
  big : B ≤ w.heap.size
  bl : Blocks w0.heap.size B b1 p1 b3 p3 r

section
variable {w0 w w' : World} {B b1 p1 b3 p3 r cap f : Nat} {lost : Int} {q : List Int} {v : Value}
theorem Play.later (h : Play w0 B b1 p1 b3 p3 r cap w f lost q v) (hb : Below w.heap.size w w') : Play w0 B b1 p1 b3 p3 r cap w' f lost q v :=
  ⟨h.i.below hb, h.o.below hb, h.m.below hb, below_step h.below hb, Nat.le_trans h.big hb.size, h.bl⟩
/-- A new row has turned, which is not the reference's. -/
theorem Play.aside {g : Nat} (h : Play w0 B b1 p1 b3 p3 r cap w f lost q v) (ht : Touch w w' g g) (hg : B ≤ g) (hv : v.ownBlock ≠ some g) : Play w0 B b1 p1 b3 p3 r cap w' f lost q v := by
  obtain ⟨l1, l2, l3, l4, l5⟩ := h.bl.lo
  obtain ⟨h1, h2, h3, h4, h5⟩ := h.bl.hi
  exact ⟨h.i.touch ht (by omega) (by omega) (by omega) (by omega), h.o.touch ht (by omega) (by omega) (by omega) (by omega),
    h.m.kept (ht.block r h.m.lt_r (by omega) (by omega)) (own_aside h.m.own ht hv), Touch.under h.below ht (by omega) (by omega), Nat.le_trans h.big ht.size, h.bl⟩
/-- Both are taken from. -/
theorem Play.took {w1 w2 : World} {x f' : Nat} {q' : List Int} {v' : Value} {l' : Int} (h : Play w0 B b1 p1 b3 p3 r cap w f lost q v) (hi : RingAt int.enc w1 b1 p1 cap f' l' q') (ht : Touch w w1 b1 p1) (hm : RefAt w2 B r cap l' q' v') (hu : Touch w1 w2 r x) (hx : x = r ∨ B ≤ x) :
    Play w0 B b1 p1 b3 p3 r cap w2 f' l' q' v' := by
  obtain ⟨l1, l2, l3, l4, l5⟩ := h.bl.lo
  obtain ⟨h1, h2, h3, h4, h5⟩ := h.bl.hi
  obtain ⟨a1, a2, a3, a4⟩ := h.bl.a
  obtain ⟨m1, m2, m3, m4⟩ := h.bl.m
  exact ⟨hi.touch hu m1.symm (by omega) m2.symm (by omega), (h.o.touch ht a1.symm a3.symm a2.symm a4.symm).touch hu m3.symm (by omega) m4.symm (by omega), hm,
    Touch.under (Touch.under h.below ht l1 l2) hu l5 (by omega), Nat.le_trans h.big (Nat.le_trans ht.size hu.size), h.bl⟩
end

/-- Put of the reference, of whatever list came in. -/
theorem putR_nums (B r cap : Nat) (lost : Int) (q L : List Int) (v : Value) (ao : Option Addr) (ln lc g0 : Nat) (w : World) (h : RefAt w B r cap lost q v) (hB : B ≤ w.heap.size) (hg0 : v.ownBlock = none ∨ v.ownBlock = some g0) (hn : Nums w ao ln lc L)
    (B0 : Nat) (hold : ∀ g o, ao = some ⟨g, o, none⟩ → 0 < ln → g < B0) (hr : B0 ≤ r) (hg : B0 ≤ g0) (d : Nat) (hd : ln - min ln (cap - q.length) = d) (q' : List Int) (hq' : q ++ L.take (cap - q.length) = q') :
    Calls Try.prog 22 #[.pointer (some ⟨r, 0, none⟩), .slice ao ln lc] w fun e w' => PuttenR B r cap lost q' v g0 w d e w' := by
  by_cases h0 : ln = 0
  · have hL : L = [] := List.eq_nil_of_length_eq_zero (by rw [hn.len, h0])
    obtain rfl : d = 0 := by omega
    subst h0 hL
    simp only [List.take_nil, List.append_nil] at hq'
    subst hq'
    exact putR_none B r cap lost q v ao lc g0 w h
  · obtain ⟨g, o, rfl, hgl, hc⟩ := hn.at'.resolve_left h0
    have hgB := hold g o rfl (by omega)
    exact putR_any B r cap lost q L v g o ln lc g0 w h hB hg0 hn.len (by have := hn.le; have := hn.max; omega) (by omega) (by omega) hc d hd q' hq'

/-- A row of one's own that holds something, cell by cell. -/
theorem own_full {w : World} {B n : Nat} {v : Value} {L : List Int} (h : w.ownsRow B 3 1 v n (L.map (Value.int .i64))) (h0 : 0 < n) :
    ∃ g c, v = .slice (some ⟨g, 0, none⟩) n c ∧ B ≤ g ∧ g < w.heap.size ∧ n ≤ c ∧ c ≤ 9223372036854775807 ∧ (∀ i x, L[i]? = some x → w.cell? ⟨g, 0 + i, none⟩ = some (.int .i64 x)) ∧ (∀ o, w.frozen? ⟨g, o, none⟩ = false) := by
  rcases h.2 with ⟨hv, h1⟩ | ⟨g, cap, cur, hv, hb, hg, h1, h2, h3, h4⟩
  · omega
  · refine ⟨g, cap, hv, hb, lt_size hg, h1, by unfold maxLen at h2; omega, fun i x hx => ?_, fun o => frozen_of_row _ _ o _ _ hg⟩
    have := h.cells (g := g) (by rw [hv]; rfl) i (.int .i64 x) (by simp [hx])
    rw [plain_add] at this
    exact this

theorem own_some {w : World} {B e n : Nat} {v : Value} {xs : List Value} (h : w.ownsRow B e 1 v n xs) (h0 : 0 < n) : ∃ g c, v = .slice (some ⟨g, 0, none⟩) n c ∧ B ≤ g ∧ g < w.heap.size := by
  rcases h.2 with ⟨hv, h1⟩ | ⟨g, cap, cur, hv, hb, hg, h1, h2, h3, h4⟩
  · omega
  · exact ⟨g, cap, hv, hb, lt_size hg⟩
theorem Later.holds {w : World} (x : Later w) {ao : Option Addr} {L : List Int} (h : int.Holds w ao L) : int.Holds x.now ao L := h.below x.is

/-- Block g has n cells that may be written. -/
structure Free (w : World) (g n : Nat) : Prop where
  lt : g < w.heap.size
  cell : ∀ j, j < n → ∃ u, w.cell? ⟨g, j, none⟩ = some u
  fr : ∀ o, w.frozen? ⟨g, o, none⟩ = false
theorem Free.kept {w w' : World} {g n : Nat} (h : Free w g n) (e : w'.heap[g]? = w.heap[g]?) (hl : w.heap.size ≤ w'.heap.size) : Free w' g n :=
  ⟨Nat.lt_of_lt_of_le h.lt hl, fun j hj => by rw [World.cell?_of_block (w := w) e]; exact h.cell j hj, fun o => (World.frozen?_of_block (a := ⟨g, o, none⟩) e).trans (h.fr o)⟩
theorem Free.below {w w' : World} {g n : Nat} (h : Free w g n) (hb : Below w.heap.size w w') : Free w' g n := h.kept (hb.block g h.lt) hb.size
theorem Free.touch {w w' : World} {g n b p : Nat} (h : Free w g n) (ht : Touch w w' b p) (h1 : g ≠ b) (h2 : g ≠ p) : Free w' g n := h.kept (ht.block g h.lt h1 h2) ht.size
theorem Free.drew {w : World} {g n : Nat} (h : Free w g n) : Free w.drew g n := h.kept rfl (Nat.le_refl _)
theorem Free.set {w : World} {g n : Nat} (h : Free w g n) (o : Nat) (u : Value) : Free (w.setCell ⟨g, o, none⟩ u) g n :=
  ⟨by simpa [World.setCell] using h.lt, fun j hj => there_set _ _ _ _ _ _ (h.cell j hj), fun o' => (World.frozen?_setCell _ _ _ _).trans (h.fr o')⟩

/-- The reference's row, or its own block in place of none. -/
def rowOf (v : Value) (r : Nat) : Nat := match v.ownBlock with | some g => g | none => r
theorem rowOf_is (v : Value) (r : Nat) : v.ownBlock = none ∨ v.ownBlock = some (rowOf v r) := by
  unfold rowOf
  cases v.ownBlock with
  | none => exact .inl rfl
  | some g => exact .inr rfl
theorem rowOf_big {w : World} {B r cap : Nat} {lost : Int} {q : List Int} {v : Value} (h : RefAt w B r cap lost q v) : (rowOf v r = r ∨ B ≤ rowOf v r) ∧ rowOf v r < w.heap.size := by
  unfold rowOf
  cases hv : v.ownBlock with
  | none => exact ⟨.inl rfl, h.lt_r⟩
  | some g => exact ⟨.inr (h.own.lt g hv).1, (h.own.lt g hv).2⟩
end Go.Proofs.Ytaamachonbkjoaa.ring
