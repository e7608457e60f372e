/-
  What a route needs, plain; a configuration's route in memory; route, the search for a section.
-/
import Derived.Test.YtokldploloncgaaTopoZ
import Derived.Test.YtokldploloncgaaTopoH
import Derived.BigQuiet
import Derived.Outline
namespace Go.Proofs.Ytokldploloncgaa.topo
open Go.RowKit

/-- What a step needs. -/
def needOne (S : List (Int × Int × Int)) (x : Int × Int × Int) : List (Int × Int) :=
  if 0 ≤ x.1 ∧ x.1 < S.length then match posT (kindAt S x.1) x.2.1 x.2.2 with | some p => if p = 0 then [] else [(x.1, p)] | none => [] else []
def needsT (S L : List (Int × Int × Int)) : List (Int × Int) := L.flatMap (needOne S)
theorem needs_step {S L : List (Int × Int × Int)} {i : Nat} {x : Int × Int × Int} (h : L[i]? = some x) : needsT S (L.take (i + 1)) = needsT S (L.take i) ++ needOne S x := by
  rw [List.take_add_one, h, needsT, List.flatMap_append]
  simp [needsT]
theorem need_len (S : List (Int × Int × Int)) (x : Int × Int × Int) : (needOne S x).length ≤ 1 := by
  unfold needOne
  split
  · split
    · split <;> simp
    · simp
  · simp
theorem needs_len (S : List (Int × Int × Int)) : ∀ L, (needsT S L).length ≤ L.length
  | [] => by simp [needsT]
  | x :: r => by
    have h1 := need_len S x
    have h2 := needs_len S r
    rw [needsT, List.flatMap_cons, List.length_append, List.length_cons, ← needsT]
    omega

/-- The crossings whose section lies on the path. -/
def crossT (P : List (Int × Int × Int)) (X : List Int) (n : Nat) : List Int := ((List.range n).filter fun j => seenIn P (X.getD j 0)).map fun j : Nat => (j : Int)
theorem cross_step (P : List (Int × Int × Int)) (X : List Int) (n : Nat) : crossT P X (n + 1) = crossT P X n ++ (if seenIn P (X.getD n 0) then [(n : Int)] else []) := by
  unfold crossT
  rw [List.range_succ, List.filter_append, List.map_append]
  congr 1
  by_cases h : seenIn P (X.getD n 0) = true
  · rw [List.filter_cons_of_pos (p := fun j => seenIn P (X.getD j 0)) h, List.filter_nil, if_pos h]
    rfl
  · rw [List.filter_cons_of_neg (p := fun j => seenIn P (X.getD j 0)) h, List.filter_nil, if_neg h]
    rfl
theorem cross_len (P : List (Int × Int × Int)) (X : List Int) (n : Nat) : (crossT P X n).length ≤ n := by
  unfold crossT
  rw [List.length_map]
  exact Nat.le_trans (List.length_filter_le _ _) (by simp)

/-! ### a route in memory -/
structure Six (w : World) (b o : Nat) (en ex : Int) (p f v : Value) (sh : Bool) : Prop where
  c0 : w.cell? ⟨b, o, none⟩ = some (.int .i64 en)
  c1 : w.cell? ⟨b, o + 1, none⟩ = some (.int .i64 ex)
  c2 : w.cell? ⟨b, o + 2, none⟩ = some p
  c3 : w.cell? ⟨b, o + 3, none⟩ = some f
  c4 : w.cell? ⟨b, o + 4, none⟩ = some v
  c5 : w.cell? ⟨b, o + 5, none⟩ = some (.bool sh)
theorem Six.below {w w' : World} {b o : Nat} {en ex : Int} {p f v : Value} {sh : Bool} (h : Six w b o en ex p f v sh) (hb : Below w.heap.size w w') : Six w' b o en ex p f v sh :=
  have hl : b < w.heap.size := World.block_lt_of_cell? _ _ h.c0
  ⟨(hb.cell (p := ⟨b, o, none⟩) hl).trans h.c0, (hb.cell (p := ⟨b, o + 1, none⟩) hl).trans h.c1, (hb.cell (p := ⟨b, o + 2, none⟩) hl).trans h.c2, (hb.cell (p := ⟨b, o + 3, none⟩) hl).trans h.c3, (hb.cell (p := ⟨b, o + 4, none⟩) hl).trans h.c4, (hb.cell (p := ⟨b, o + 5, none⟩) hl).trans h.c5⟩

/-- The route r of the row: what 'route' answers. -/
structure RouteAt (w : World) (ra : Option Addr) (rl : Nat) (r : Int) (en ex : Int) (pa : Option Addr) (pl pc : Nat) (fa : Option Addr) (fl fc : Nat) (oa : Option Addr) (ol oc : Nat) (sh k : Bool) : Prop where
  is : (¬(0 ≤ r ∧ r < rl) ∧ k = false ∧ en = 0 ∧ ex = 0 ∧ (pa = none ∧ pl = 0 ∧ pc = 0) ∧ (fa = none ∧ fl = 0 ∧ fc = 0) ∧ (oa = none ∧ ol = 0 ∧ oc = 0) ∧ sh = false) ∨
    (k = true ∧ ∃ n : Nat, r = n ∧ n < rl ∧ ∃ b o, ra = some ⟨b, o, none⟩ ∧ b < w.heap.size ∧ Six w b (o + n * 6) en ex (.slice pa pl pc) (.slice fa fl fc) (.slice oa ol oc) sh)
theorem RouteAt.below {w w' : World} {ra : Option Addr} {rl : Nat} {r en ex : Int} {pa : Option Addr} {pl pc : Nat} {fa : Option Addr} {fl fc : Nat} {oa : Option Addr} {ol oc : Nat} {sh k : Bool}
    (h : RouteAt w ra rl r en ex pa pl pc fa fl fc oa ol oc sh k) (hb : Below w.heap.size w w') : RouteAt w' ra rl r en ex pa pl pc fa fl fc oa ol oc sh k := by
  rcases h.is with h1 | ⟨h1, n, h2, h3, b, o, h4, h5, h6⟩
  · exact ⟨.inl h1⟩
  · exact ⟨.inr ⟨h1, n, h2, h3, b, o, h4, Nat.lt_of_lt_of_le h5 hb.size, h6.below hb⟩⟩

/-- A configuration as a value. -/
abbrev confV (sa : Option Addr) (sl sc : Nat) (v1 v2 : Value) (xa : Option Addr) (xl xc : Nat) (ra : Option Addr) (rl rc : Nat) (t0 t1 t2 t3 : Int) : Value :=
  .agg #[.slice sa sl sc, v1, v2, .slice xa xl xc, .slice ra rl rc, .int .i64 t0, .int .i64 t1, .int .i64 t2, .int .i64 t3]

set_option maxRecDepth 100000 in
set_option maxHeartbeats 1000000 in
theorem route_any (sa : Option Addr) (sl sc : Nat) (v1 v2 : Value) (xa : Option Addr) (xl xc : Nat) (ra : Option Addr) (rl rc : Nat) (t0 t1 t2 t3 r : Int) (w : World)
    (en ex : Int) (pa : Option Addr) (pl pc : Nat) (fa : Option Addr) (fl fc : Nat) (oa : Option Addr) (ol oc : Nat) (sh k : Bool) (h : RouteAt w ra rl r en ex pa pl pc fa fl fc oa ol oc sh k) :
    Calls Try.prog 43 #[confV sa sl sc v1 v2 xa xl xc ra rl rc t0 t1 t2 t3, .int .i64 r] w fun e w' =>
      e = .returned (.tuple #[.agg #[.int .i64 en, .int .i64 ex, .slice pa pl pc, .slice fa fl fc, .slice oa ol oc, .bool sh], .bool k]) ∧ Below w.heap.size w w' := by
  rcases h.is with ⟨h1, rfl, rfl, rfl, ⟨rfl, rfl, rfl⟩, ⟨rfl, rfl, rfl⟩, ⟨rfl, rfl, rfl⟩, rfl⟩ | ⟨rfl, n, rfl, h3, b, o, rfl, hb, h6⟩
  · by_cases h2 : r < 0
    · have d1 : decide (r < 0) = true := by simpa using h2
      go_enter Try.func43, Try.ntmps43
      go_wp2
      refine bodyPost_ret (v := .tuple #[.agg #[.int .i64 0, .int .i64 0, .slice none 0 0, .slice none 0 0, .slice none 0 0, .bool false], .bool false]) (by simp [results, Try.results43, go_sem]) rfl ⟨rfl, ?_⟩
      exact below_new (below_new (Below.refl _ _) _) _
    · have d1 : decide (r < 0) = false := by simpa using h2
      have d2 : decide ((rl : Int) ≤ r) = true := by simp; omega
      go_enter Try.func43, Try.ntmps43
      go_wp2
      refine bodyPost_ret (v := .tuple #[.agg #[.int .i64 0, .int .i64 0, .slice none 0 0, .slice none 0 0, .slice none 0 0, .bool false], .bool false]) (by simp [results, Try.results43, go_sem]) rfl ⟨rfl, ?_⟩
      exact below_new (below_new (Below.refl _ _) _) _
  · have d1 : decide ((n : Int) < 0) = false := by simp
    have d2 : decide ((rl : Int) ≤ (n : Int)) = false := by simp; omega
    have d3 : decide (rl ≤ n) = false := by simp; omega
    have i1 : (0 : Int) ≤ (n : Int) := by omega
    have i2 : (n : Int) < (rl : Int) := by omega
    obtain ⟨k0, k1, k2, k3, k4, k5⟩ := h6
    go_enter Try.func43, Try.ntmps43
    go_wp2
    refine bodyPost_ret (v := .tuple #[.agg #[.int .i64 en, .int .i64 ex, .slice pa pl pc, .slice fa fl fc, .slice oa ol oc, .bool sh], .bool true]) (by simp [results, Try.results43, go_sem]) rfl ⟨rfl, ?_⟩
    exact below_new (below_new (Below.refl _ _) _) _

theorem hit_any (a b c t : Int) (g : Nat) (w : World) (h : w.cell? ⟨g, 0, none⟩ = some (.int .i64 t)) :
    Calls Try.prog 45 #[.agg #[.int .i64 a, .int .i64 b, .int .i64 c], .pointer (some ⟨g, 0, none⟩)] w fun e w' => e = .returned (.bool (a == t)) ∧ Below w.heap.size w w' := by
  have hg : g < w.heap.size := World.block_lt_of_cell? _ _ h
  go_enter Try.func45, Try.ntmps45
  go_wp2
  go_ret
  exact ⟨rfl, below_new (Below.refl _ _) _⟩

set_option maxHeartbeats 1000000 in
theorem index_any (P : List (Int × Int × Int)) (pa : Option Addr) (pl pc : Nat) (t : Int) (g : Nat) (w : World) (hP : RowsAt 3 enc3 w pa pl pc P) (h : w.cell? ⟨g, 0, none⟩ = some (.int .i64 t)) :
    Calls Try.prog 51 #[.slice pa pl pc, .func (.func 45) #[] #[.pointer (some ⟨g, 0, none⟩)]] w fun e w' => ∃ n : Int, e = .returned (.int .i64 n) ∧ decide (0 ≤ n) = seenIn P t ∧ Below w.heap.size w w' := by
  have hle := hP.le
  have hmax := hP.max
  have hg : g < w.heap.size := World.block_lt_of_cell? _ _ h
  go_enter Try.func51, Try.ntmps51
  go_wp2
  go_loopg [8] pl (fun m c wr => ∃ j : Nat, j + m = pl ∧ c = .int .i64 j ∧ Below w.heap.size w wr ∧ Hid (seenIn (P.take j) t = false))
  case atStart => exact ⟨0, by omega, rfl, Below.refl _ _, Lib.hid rfl⟩
  case round =>
    obtain ⟨j, hjm, rfl, hb, HS⟩ := hrel
    by_cases hj : j < pl
    · have hjd : decide ((j : Int) < (pl : Int)) = true := by simpa using hj
      have hj0 : (0 : Int) ≤ (j : Int) := by omega
      have hjl : (j : Int) < pl := by omega
      obtain ⟨g1, o1, x, rfl, hg1, hx, -, hc⟩ := (hP.below hb).row hj
      obtain ⟨a, b, c⟩ := x
      have k0 := hc 0 _ rfl
      have k1 := hc 1 _ rfl
      have k2 := hc 2 _ rfl
      rw [Nat.add_zero] at k0
      have hit := hit_any a b c t g wr ((hb.cell (p := ⟨g, 0, none⟩) hg).trans h)
      obtain ⟨q, hq⟩ : ∃ q, (a == t) = q := ⟨_, rfl⟩
      rw [hq] at hit
      have HIT := Lib.hid hit
      cases q with
      | true =>
        have HF : Hid (seenIn P t = true) := Lib.hid (by
          rw [seenIn, List.any_eq_true]
          exact ⟨_, List.mem_of_getElem? hx, hq⟩)
        clear hit hq hx hc
        go_wp2_with (go_at_call 45; go_must (refine HIT.out.mono ?_; rintro e' w3 ⟨rfl, hb3⟩))
        go_ret
        exact ⟨_, rfl, by rw [HF.out]; simp, below_step hb hb3⟩
      | false =>
        have HF : Hid (seenIn (P.take (j + 1)) t = false) := Lib.hid (by
          rw [List.take_add_one, hx]
          show seenIn (P.take j ++ [(a, b, c)]) t = false
          rw [seen_snoc, HS.out, hq]
          rfl)
        clear hit hq hx hc
        go_wp2_with (go_at_call 45; go_must (refine HIT.out.mono ?_; rintro e' w3 ⟨rfl, hb3⟩))
        go_roundg (pl - j - 1)
        case measure => omega
        case rel => exact ⟨j + 1, by omega, by go_num, below_step hb hb3, HF⟩
    · have hjd : decide ((j : Int) < (pl : Int)) = false := by simpa using hj
      have HF : Hid (seenIn P t = false) := Lib.hid (by have := HS.out; rw [List.take_of_length_le (by have := hP.len; omega)] at this; exact this)
      go_wp2
      go_ret
      exact ⟨_, rfl, by rw [HF.out]; decide, hb⟩
theorem contains_any (P : List (Int × Int × Int)) (pa : Option Addr) (pl pc : Nat) (t : Int) (g : Nat) (w : World) (hP : RowsAt 3 enc3 w pa pl pc P) (h : w.cell? ⟨g, 0, none⟩ = some (.int .i64 t)) :
    Calls Try.prog 44 #[.slice pa pl pc, .func (.func 45) #[] #[.pointer (some ⟨g, 0, none⟩)]] w fun e w' => e = .returned (.bool (seenIn P t)) ∧ Below w.heap.size w w' := by
  have HIX := Lib.hid (index_any P pa pl pc t g w hP h)
  go_enter Try.func44, Try.ntmps44
  go_wp2_with (go_at_call 51; go_must (refine HIX.out.mono ?_; rintro e' w3 ⟨n, rfl, hn, hb3⟩; have HN := Lib.hid hn))
  go_ret
  exact ⟨by rw [← HN.out]; rfl, hb3⟩
end Go.Proofs.Ytokldploloncgaa.topo
