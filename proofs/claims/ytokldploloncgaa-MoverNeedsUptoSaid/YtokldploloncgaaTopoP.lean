/-
  A plan as it comes in.
-/
import Derived.Test.YtokldploloncgaaTopoL
import Derived.Test.YtokldploloncgaaTopoO
import Derived.Test.YtokldploloncgaaSh
namespace Go.Proofs.Ytokldploloncgaa.topo
open Go.RowKit

/-- A plan's slices in memory. -/
structure PlanAt (w : World) (sa : Option Addr) (sl sc : Nat) (ja : Option Addr) (jl jc : Nat) (S : List (Int × Int × Int)) (J : List (Int × Int × Int × Int)) : Prop where
  s : RowsAt 3 enc3 w sa sl sc S
  j : RowsAt 4 enc4 w ja jl jc J
  s64 : ∀ x ∈ S, -9223372036854775808 ≤ x.2.2 ∧ x.2.2 ≤ 9223372036854775807
  j64 : ∀ x ∈ J, ((-9223372036854775808 ≤ x.1 ∧ x.1 ≤ 9223372036854775807) ∧ (-9223372036854775808 ≤ x.2.1 ∧ x.2.1 ≤ 9223372036854775807)) ∧ (-9223372036854775808 ≤ x.2.2.1 ∧ x.2.2.1 ≤ 9223372036854775807) ∧ (-9223372036854775808 ≤ x.2.2.2 ∧ x.2.2.2 ≤ 9223372036854775807)
  sreach : sc * 24 ≤ 140737488351232
  jreach : jc * 32 ≤ 140737488351232
theorem PlanAt.below {w w' : World} {sa ja : Option Addr} {sl sc jl jc : Nat} {S : List (Int × Int × Int)} {J : List (Int × Int × Int × Int)} (h : PlanAt w sa sl sc ja jl jc S J) (hb : Below w.heap.size w w') : PlanAt w' sa sl sc ja jl jc S J :=
  ⟨h.s.below hb, h.j.below hb, h.s64, h.j64, h.sreach, h.jreach⟩
theorem PlanAt.len {w : World} {sa ja : Option Addr} {sl sc jl jc : Nat} {S : List (Int × Int × Int)} {J : List (Int × Int × Int × Int)} (h : PlanAt w sa sl sc ja jl jc S J) : sl * 24 ≤ 140737488351232 := by
  have := h.s.le
  have := h.sreach
  omega
theorem PlanAt.check {w : World} {sa ja : Option Addr} {sl sc jl jc : Nat} {S : List (Int × Int × Int)} {J : List (Int × Int × Int × Int)} (h : PlanAt w sa sl sc ja jl jc S J) :
    Calls Try.prog 28 #[.slice sa sl sc, .slice ja jl jc] w fun e w' => e = .returned (.int .i64 (errT (okT S J))) ∧ Below w.heap.size w w' := check_any S J sa ja sl sc jl jc w h.s h.j h.s64 h.j64

/-- Rows of a shape, as rows. -/
theorem rows_of {α : Type} {m : Nat} {enc : α → List Value} {w : World} {bytes : Nat} {e : Sh} {ao : Option Addr} {len cap N : Nat} [Inhabited α] (hm : e.size = m) (h0 : 0 < m) (h : Sh.holds w N (.slice bytes e) [.slice ao len cap])
    (p : α → Prop) (he : ∀ cs, Sh.holds w N e cs → ∃ x, cs = enc x ∧ p x) (hlen : ∀ x, (enc x).length = m) : ∃ L : List α, RowsAt m enc w ao len cap L ∧ (∀ x ∈ L, p x) ∧ cap * bytes ≤ 140737488351232 ∧ len ≤ N := by
  obtain ⟨ao', len', cap', e1, hl, hx, hn, hr, hN, hat⟩ := h
  simp only [List.cons.injEq, Value.slice.injEq, and_true] at e1
  obtain ⟨rfl, rfl, rfl⟩ := e1
  rcases hat with rfl | ⟨b, off, rfl, hc⟩
  · exact ⟨[], ⟨rfl, hl, hx, hn, .inl rfl⟩, by simp, hr, hN⟩
  · have each : ∀ i, i < len → ∃ x, p x ∧ ∀ j u, (enc x)[j]? = some u → w.cell? ⟨b, off + i * m + j, none⟩ = some u := by
      intro i hi
      obtain ⟨cs, hcs, hh⟩ := hc i hi
      obtain ⟨x, rfl, hp⟩ := he cs hh
      exact ⟨x, hp, fun j u hu => by have := hcs j u hu; rw [hm] at this; exact this⟩
    obtain ⟨f, hf⟩ := Deep.choose_lt each
    refine ⟨(List.range len).map f, ⟨by simp, hl, hx, hn, ?_⟩, fun x hx => ?_, hr, hN⟩
    · by_cases hz : len = 0
      · exact .inl hz
      · have hlt : b < w.heap.size := by
          have := (hf 0 (by omega)).2 0 ((enc (f 0))[0]'(by rw [hlen]; exact h0)) (List.getElem?_eq_getElem _)
          exact World.block_lt_of_cell? _ _ this
        refine .inr ⟨b, off, rfl, hlt, fun i x hx j u hu => ?_⟩
        have hi : i < len := by have := (List.getElem?_eq_some_iff.1 hx).1; simpa using this
        rw [List.getElem?_map, List.getElem?_range hi] at hx
        injection hx with hx
        subst hx
        exact (hf i hi).2 j u hu
    · obtain ⟨i, hi, rfl⟩ := List.mem_map.1 hx
      exact (hf i (by simpa using hi)).1

def shS : Sh := .struct [.int, .int, .int]
def shJ : Sh := .struct [.int, .int, .int, .int]
def shPlan : Sh := .struct [.slice 24 shS, .slice 32 shJ]
theorem ints_of {w : World} {N : Nat} {ao : Option Addr} {len cap : Nat} (h : Sh.holds w N (.slice 8 .int) [.slice ao len cap]) : ∃ L, RowsAt 1 enc1 w ao len cap L ∧ (∀ x ∈ L, -9223372036854775808 ≤ x ∧ x ≤ 9223372036854775807) ∧ cap * 8 ≤ 140737488351232 ∧ len ≤ N := by
  refine rows_of (m := 1) (enc := enc1) rfl (by omega) h (fun x => -9223372036854775808 ≤ x ∧ x ≤ 9223372036854775807) (fun cs hh => ?_) (fun _ => rfl)
  obtain ⟨n, rfl, hn⟩ := hh
  exact ⟨n, rfl, hn⟩
theorem secs_of {w : World} {N : Nat} {ao : Option Addr} {len cap : Nat} (h : Sh.holds w N (.slice 24 shS) [.slice ao len cap]) : ∃ L, RowsAt 3 enc3 w ao len cap L ∧ (∀ x ∈ L, (-9223372036854775808 ≤ x.1 ∧ x.1 ≤ 9223372036854775807) ∧ (-9223372036854775808 ≤ x.2.1 ∧ x.2.1 ≤ 9223372036854775807) ∧ -9223372036854775808 ≤ x.2.2 ∧ x.2.2 ≤ 9223372036854775807) ∧ cap * 24 ≤ 140737488351232 ∧ len ≤ N := by
  refine rows_of (m := 3) (enc := enc3) rfl (by omega) h _ (fun cs hh => ?_) (fun _ => rfl)
  obtain ⟨c1, r1, rfl, ⟨a, rfl, ha⟩, c2, r2, rfl, ⟨b, rfl, hb⟩, c3, r3, rfl, ⟨c, rfl, hc⟩, rfl⟩ := hh
  exact ⟨(a, b, c), rfl, ha, hb, hc⟩
theorem joints_of {w : World} {N : Nat} {ao : Option Addr} {len cap : Nat} (h : Sh.holds w N (.slice 32 shJ) [.slice ao len cap]) : ∃ L, RowsAt 4 enc4 w ao len cap L ∧ (∀ x ∈ L, ((-9223372036854775808 ≤ x.1 ∧ x.1 ≤ 9223372036854775807) ∧ (-9223372036854775808 ≤ x.2.1 ∧ x.2.1 ≤ 9223372036854775807)) ∧ (-9223372036854775808 ≤ x.2.2.1 ∧ x.2.2.1 ≤ 9223372036854775807) ∧ (-9223372036854775808 ≤ x.2.2.2 ∧ x.2.2.2 ≤ 9223372036854775807)) ∧ cap * 32 ≤ 140737488351232 ∧ len ≤ N := by
  refine rows_of (m := 4) (enc := enc4) rfl (by omega) h _ (fun cs hh => ?_) (fun _ => rfl)
  obtain ⟨c1, r1, rfl, ⟨a, rfl, ha⟩, c2, r2, rfl, ⟨b, rfl, hb⟩, c3, r3, rfl, ⟨c, rfl, hc⟩, c4, r4, rfl, ⟨d, rfl, hd⟩, rfl⟩ := hh
  exact ⟨(a, b, c, d), rfl, ⟨ha, hb⟩, hc, hd⟩
theorem plan_of {w : World} {N : Nat} {cs : List Value} (h : shPlan.holds w N cs) : ∃ sa sl sc ja jl jc S J, cs = [.slice sa sl sc, .slice ja jl jc] ∧ PlanAt w sa sl sc ja jl jc S J := by
  obtain ⟨c1, r1, rfl, hs, c2, r2, rfl, hj, rfl⟩ := h
  have hs' := hs
  have hj' := hj
  obtain ⟨sa, sl, sc, rfl, -⟩ := hs
  obtain ⟨ja, jl, jc, rfl, -⟩ := hj
  obtain ⟨S, s1, s2, s3, -⟩ := secs_of hs'
  obtain ⟨J, j1, j2, j3, -⟩ := joints_of hj'
  exact ⟨sa, sl, sc, ja, jl, jc, S, J, rfl, s1, j1, fun x hx => (s2 x hx).2.2, j2, s3, j3⟩
end Go.Proofs.Ytokldploloncgaa.topo
