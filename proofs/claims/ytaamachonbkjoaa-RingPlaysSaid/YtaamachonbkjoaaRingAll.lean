/-
  All: the queue's numbers in a new row.
-/
import Derived.Test.YtaamachonbkjoaaRingRows
namespace Go.Proofs.Ytaamachonbkjoaa.ring
open Go.RowKit

theorem info_int : (Try.prog.info? 3).map (fun i => (i.zero, i.size, i.bytes)) = some (some (.int .i64 0), 1, 8) := by kernel_rfl

/-- A row of numbers of one's own. -/
theorem own_ints {w : World} {B n : Nat} {v : Value} {L : List Int} (h : w.ownsRow B 3 1 v n (L.map (Value.int .i64))) (hn : L.length = n) : ∃ a c, v = .slice a n c ∧ int.Holds w a L := by
  rcases h.2 with ⟨hv, h0⟩ | ⟨g, cap, cur, hv, hb, hg, h1, h2, h3, h4⟩
  · exact ⟨none, 0, by rw [hv, h0], .inl (List.length_eq_zero_iff.1 (by omega))⟩
  · refine ⟨some ⟨g, 0, none⟩, cap, hv, .inr ⟨g, 0, rfl, fun i x hx => ?_⟩⟩
    have := h.cells (g := g) (by rw [hv]; rfl) i (.int .i64 x) (by simp [hx])
    rw [plain_add] at this
    exact this
theorem _root_.Go.Proofs.Ytaamachonbkjoaa.ring.int.Holds.below {w w' : World} {ao : Option Addr} {L : List Int} (h : int.Holds w ao L) (hb : Below w.heap.size w w') : int.Holds w' ao L := by
  rcases h with h | ⟨g, o, e, hc⟩
  · exact .inl h
  · exact .inr ⟨g, o, e, fun i x hx => (hb.cell (p := ⟨g, o + i, none⟩) (World.block_lt_of_cell? _ _ (hc i x hx))).trans (hc i x hx)⟩
theorem ints_one (L : List Int) : ∀ u ∈ L.map (Value.int .i64), u.oneCell' = true := by
  intro u hu
  obtain ⟨x, -, rfl⟩ := List.mem_map.1 hu
  rfl

/-- What All leaves. -/
def Alls (w : World) (q : List Int) (e : Ending) (w' : World) : Prop := ∃ v, e = .returned v ∧ w'.ownsRow w.heap.size 3 1 v q.length (q.map (Value.int .i64)) ∧ Below w.heap.size w w'

set_option maxHeartbeats 1000000 in
theorem all_any (b p cap first : Nat) (lost : Int) (q : List Int) (w : World) (h : RingAt int.enc w b p cap first lost q) :
    Calls Try.prog 24 #[.pointer (some ⟨b, 0, none⟩)] w fun e w' => Alls w q e w' := by
  have c0 := h.c0
  have hq := h.fits
  have hc := h.cap64
  have hb := h.lt_b
  obtain ⟨n, hn⟩ : ∃ n, q.length = n := ⟨_, rfl⟩
  rw [hn] at c0
  go_enter Try.func24, Try.ntmps24
  go_wp2
  go_loopg [10, 3] n (fun m i v wr => ∃ k : Nat, k + m = n ∧ i = .int .i64 k ∧ wr.ownsRow w.heap.size 3 1 v k ((q.take k).map (Value.int .i64)) ∧ Below w.heap.size w wr)
  case atStart => exact ⟨0, by omega, rfl, by simpa using World.ownsRow_nil _ _ _ _, Below.refl _ _⟩
  case round =>
    obtain ⟨k, hkm, rfl, hown, hbl⟩ := hrel
    by_cases hk : k < n
    · have hkd : decide ((k : Int) < (n : Int)) = true := by simpa using hk
      have hx : q[k]? = some (q[k]'(by omega)) := List.getElem?_eq_getElem (by omega)
      generalize q[k]'(by omega) = x at *
      have hr := h.below hbl
      have hk64 : k ≤ 64 := by omega
      have hsz := hbl.size
      have HX := Lib.hid hx
      clear hx c0
      obtain ⟨i0, hi, hz0, hz1, hz2⟩ := info_parts info_int
      go_wp2_with (first
        | (go_at_call 27; go_must (refine (int.at_any b p cap first lost _ k _ hr hk64).mono ?_; rintro e w3 ⟨rfl, hb3⟩; have c5 := (hr.below hb3).holds k x HX.out; have hown3 := own_below hown hb3; have hs3 := hb3.size))
        | (at_builtin; go_must (refine append_any rfl _ _ 38 rfl w.heap.size 3 i0 (.int .i64 0) 1 8 Try.underlying38 hi hz0 hz1 hz2 rfl (by decide) _ _ _ rfl (hown3.alloc _) (some ⟨w3.heap.size, 0, none⟩) 1 _ [.int .i64 x] rfl (fun e1 => by cases e1) rfl (fun ad had => by injection had with had; subst had; exact cell_one_new _ _ _) (ints_one [x]) (by unfold maxLen; omega) (by omega) (by simp; omega) ?_; intro v5 w6 k1 k2 k3)))
      go_roundg (n - k - 1)
      case measure => omega
      case rel =>
        have e : q.take (k + 1) = q.take k ++ [x] := by rw [List.take_add_one, HX.out]; rfl
        refine ⟨k + 1, by omega, by go_num, by rw [e]; simpa using k1, below_row (below_new (below_step hbl hb3) _) (hown3.alloc _) (Nat.le_refl _) k2⟩
    · obtain rfl : k = n := by omega
      have hkd : decide ((k : Int) < (k : Int)) = false := by simp
      have e : q.take k = q := List.take_of_length_le (by omega)
      rw [e] at hown
      have HN := Lib.hid hn
      clear hn e
      go_wp2
      go_ret
      exact ⟨_, rfl, by rw [HN.out]; exact hown, hbl⟩
end Go.Proofs.Ytaamachonbkjoaa.ring
