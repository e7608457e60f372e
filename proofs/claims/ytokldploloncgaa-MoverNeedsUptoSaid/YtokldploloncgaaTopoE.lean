/-
  Maps that count; rows of steps of one's own; the way of a train as a list.
-/
import Derived.Test.YtokldploloncgaaTopoD
import Derived.Maps.OwnOps
import Derived.Maps.Views
import Derived.Maps.AppendAt
import Derived.DeepKeys4
import Derived.Deep.OwnRows
import Derived.Test.YtokldploloncgaaOpen
namespace Go.Proofs.Ytokldploloncgaa.topo
open Go.RowKit

@[go_sem] theorem ansP_some (x y : Int) : ansP (some (x, y)) = .tuple #[.int .i64 x, .int .i64 y, .bool true] := rfl
@[go_sem] theorem ansP_none : ansP none = .tuple #[.int .i64 0, .int .i64 0, .bool false] := rfl

theorem cell_set (w : World) (b o : Nat) (u : Value) {v : Value} (h : w.cell? ⟨b, o, none⟩ = some v) : (w.setCell ⟨b, o, none⟩ u).cell? ⟨b, o, none⟩ = some u := World.cell?_setCell_same' _ _ _ (by simp [h])
theorem box_cell {W w7 : World} {a b c : Value} {t : TypeId} (h : Below (W.alloc (.cells #[a, b, c] t)).heap.size (W.alloc (.cells #[a, b, c] t)) w7) : w7.cell? ⟨W.heap.size, 2, none⟩ = some c :=
  (h.cell (p := ⟨W.heap.size, 2, none⟩) (by simp)).trans (by simp)

/-! ### between -/
def btw (n lo hi : Int) : Bool := decide (lo ≤ n) && decide (n ≤ hi)
theorem btw_true {n lo hi : Int} (h : lo ≤ n ∧ n ≤ hi) : btw n lo hi = true := by simp [btw, h]
theorem btw_false {n lo hi : Int} (h : ¬(lo ≤ n ∧ n ≤ hi)) : btw n lo hi = false := by
  cases hb : btw n lo hi with
  | false => rfl
  | true => simp [btw] at hb; exact absurd hb h
theorem between_any (n lo hi : Int) (w : World) : Calls Try.prog 46 #[.int .i64 n, .int .i64 lo, .int .i64 hi] w fun e w' => e = .returned (.bool (btw n lo hi)) ∧ w = w' := by
  by_cases h1 : lo ≤ n
  · have b1 : decide (lo ≤ n) = true := by simpa using h1
    by_cases h2 : n ≤ hi
    · have b2 : decide (n ≤ hi) = true := by simpa using h2
      have E : Hid (btw n lo hi = true) := Lib.hid (btw_true ⟨h1, h2⟩)
      go_enter Try.func46, Try.ntmps46
      go_wp2
      go_ret
      exact ⟨by rw [E.out]; rfl, rfl⟩
    · have b2 : decide (n ≤ hi) = false := by simpa using h2
      have E : Hid (btw n lo hi = false) := Lib.hid (btw_false (by omega))
      go_enter Try.func46, Try.ntmps46
      go_wp2
      go_ret
      exact ⟨by rw [E.out]; rfl, rfl⟩
  · have b1 : decide (lo ≤ n) = false := by simpa using h1
    have E : Hid (btw n lo hi = false) := Lib.hid (btw_false (by omega))
    go_enter Try.func46, Try.ntmps46
    go_wp2
    go_ret
    exact ⟨by rw [E.out]; rfl, rfl⟩

/-! ### maps that count -/
theorem zeroE (w : World) : (zeroValue 3).run Try.prog w = .ok (.int .i64 0) w := by kernel_rfl
theorem lawI : Maps.Keyed Try.prog 3 := Maps.int_keyed Try.underlying3
theorem lawS : Maps.Keyed Try.prog 95 := Maps.Keyed.of_law (deep_law_laid (m := 9) (by kernel_rfl) (by decide) (of_decide_eq_true (by kernel_rfl)) (by kernel_rfl) (by kernel_rfl))

/-- Block b is a map from keys of type kt to numbers, of at most n entries, which reads c of each key. -/
def CountMap (kt : TypeId) (b n : Nat) (c : Value → Int) (w : World) : Prop :=
  ∃ D : DataW Unit, w.ownsMap Try.prog kt (plainElem Try.prog 3) b n D ∧ Maps.IsMap D ∧ ∀ key kl, keyOf Try.prog kt key = some kl → D.atKey kl (.lit (.int .i64 0)) = .lit (.int .i64 (c key))

section
variable {kt mt : TypeId} {b n : Nat} {c : Value → Int} {w w' : World}
theorem CountMap.made (kt : TypeId) (w : World) : CountMap kt w.heap.size 0 (fun _ => 0) (w.alloc (.map #[] 0)) :=
  ⟨.map [], World.ownsMap_made _ _ _ _, Maps.isMap_empty, fun _ _ _ => rfl⟩
theorem CountMap.lt (h : CountMap kt b n c w) : b < w.heap.size := let ⟨_, h1, _⟩ := h; h1.lt
theorem CountMap.kept {row : Option Nat} (h : CountMap kt b n c w) (hg : w.grownBy w' row) (hne : some b ≠ row) : CountMap kt b n c w' := let ⟨D, h1, h2⟩ := h; ⟨D, h1.kept hg hne, h2⟩
theorem CountMap.below (h : CountMap kt b n c w) (hb : Below w.heap.size w w') : CountMap kt b n c w' := h.kept (row := none) ⟨hb.os, hb.tape, hb.output, hb.size, fun i hi _ => hb.block i hi⟩ (by simp)
theorem CountMap.look (h : CountMap kt b n c w) (K : Maps.Keyed Try.prog kt) (ht : Try.prog.underlying mt = some (.map kt 3)) {key : Value} {kl : Lit} (hkey : keyOf Try.prog kt key = some kl) :
    (Instr.lookup mt (.map (some b)) key false).run Try.prog w = .ok (.int .i64 (c key)) w := by
  obtain ⟨D, h1, h2, h3⟩ := h
  obtain ⟨x, hrun, hat, -⟩ := h1.lookup_int K ht Try.underlying3 (zeroE w) hkey
  have e : c key = x := by
    have := (h3 key kl hkey).symm.trans hat
    simpa using this
  rw [e]
  exact hrun
open Classical in
theorem CountMap.update (h : CountMap kt b n c w) (K : Maps.Keyed Try.prog kt) (ht : Try.prog.underlying mt = some (.map kt 3)) (hn : n < maxLen) {key : Value} {kl : Lit} (hkey : keyOf Try.prog kt key = some kl) {x : Int} (hx : (Lit.int .i64 x).wf = true) :
    ∃ w', (Instr.mapUpdate mt (.map (some b)) key (.int .i64 x)).run Try.prog w = .ok () w' ∧ CountMap kt b (n + 1) (fun v => if v = key then x else c v) w' ∧ w.grownBy w' (some b) := by
  obtain ⟨D, h1, h2, h3⟩ := h
  obtain ⟨w', hrun, h4, h5⟩ := h1.update K ht hn hkey (plainElem_int Try.underlying3 hx)
  refine ⟨w', hrun, ⟨_, h4, h2.put _ _, fun key' kl' hk' => ?_⟩, h5⟩
  by_cases e : key' = key
  · subst e
    obtain rfl : kl = kl' := Option.some.inj (hkey.symm.trans hk')
    dsimp only
    rw [if_pos rfl]
    exact Maps.atKey_put_same h2 (K.key hkey) _ _
  · dsimp only
    rw [if_neg e]
    have hne : kl' ≠ kl := fun e2 => e (K.inj hk' (by rw [e2]; exact hkey))
    rw [Maps.atKey_put_other hne]
    exact h3 key' kl' hk'
end

theorem int_wf {n : Int} (h : -9223372036854775808 ≤ n ∧ n ≤ 9223372036854775807) : (Lit.int .i64 n).wf = true := by
  have h1 : IntKind.i64.min = -9223372036854775808 := rfl
  have h2 : IntKind.i64.max = 9223372036854775807 := rfl
  simp only [Lit.wf, Bool.and_eq_true, decide_eq_true_eq]
  omega
theorem key_int {n : Int} (h : -9223372036854775808 ≤ n ∧ n ≤ 9223372036854775807) : keyOf Try.prog 3 (.int .i64 n) = some (.int .i64 n) := Maps.keyOf_int_mk Try.underlying3 (int_wf h)

/-! ### the way of a train -/
def kindAt (S : List (Int × Int × Int)) (s : Int) : Int := (S.getD s.toNat (0, 0, 0)).1
def posAt (P : List Int) (s : Int) : Int := if s < P.length then P.getD s.toNat 0 else 0
def goodAt (S : List (Int × Int × Int)) (s i : Int) : Prop := (0 ≤ s ∧ s < S.length) ∧ 0 ≤ i ∧ i < endsT (kindAt S s)
instance (S : List (Int × Int × Int)) (s i : Int) : Decidable (goodAt S s i) := by unfold goodAt; infer_instance
def seenIn (L : List (Int × Int × Int)) (s : Int) : Bool := L.any fun x => x.1 == s

def followT (S : List (Int × Int × Int)) (J : List (Int × Int × Int × Int)) (P : List Int) : Nat → List (Int × Int × Int) → Int → Int → List (Int × Int × Int)
  | 0, L, _, _ => L
  | m + 1, L, s, i =>
    if goodAt S s i ∧ seenIn L s = false then
      match wayT (kindAt S s) i (posAt P s) with
      | none => L ++ [(s, i, -1)]
      | some e => match nextT J s e with
        | none => L ++ [(s, i, e)]
        | some (s', i') => followT S J P m (L ++ [(s, i, e)]) s' i'
    else L

/-- How many sections were not met yet. -/
def unseen (n : Nat) (L : List (Int × Int × Int)) : Nat := ((List.range n).filter fun x : Nat => !seenIn L (x : Int)).length
theorem unseen_nil (n : Nat) : unseen n [] = n := by
  unfold unseen
  have : ((List.range n).filter fun x : Nat => !seenIn [] (x : Int)) = List.range n := List.filter_eq_self.2 (fun _ _ => rfl)
  rw [this, List.length_range]
theorem filter_drop_one (p : Nat → Bool) (s : Nat) : ∀ n, s < n → p s = true → ((List.range n).filter fun x => p x && !decide (x = s)).length + 1 = ((List.range n).filter p).length
  | 0, h, _ => by omega
  | n + 1, h, hp => by
    rw [List.range_succ, List.filter_append, List.filter_append, List.length_append, List.length_append]
    by_cases e : s = n
    · subst e
      have : (List.range s).filter (fun x => p x && !decide (x = s)) = (List.range s).filter p := by
        refine List.filter_congr fun x hx => ?_
        have : x < s := by simpa using hx
        have : ¬ x = s := by omega
        simp [this]
      rw [this]
      simp [hp]
    · have ih := filter_drop_one p s n (by omega) hp
      have hd : decide (n = s) = false := by simp; omega
      simp only [List.filter_cons, List.filter_nil, hd, Bool.not_false, Bool.and_true]
      omega
theorem seen_snoc (L : List (Int × Int × Int)) (s i e t : Int) : seenIn (L ++ [(s, i, e)]) t = (seenIn L t || (s == t)) := by simp [seenIn]
theorem unseen_snoc {n : Nat} {L : List (Int × Int × Int)} {s i e : Int} (h0 : 0 ≤ s) (hn : s < n) (hs : seenIn L s = false) : unseen n (L ++ [(s, i, e)]) + 1 = unseen n L := by
  obtain ⟨k, rfl⟩ := Int.eq_ofNat_of_zero_le h0
  have := filter_drop_one (fun x : Nat => !seenIn L (x : Int)) k n (by omega) (by simpa using hs)
  unfold unseen
  rw [← this]
  congr 2
  refine List.filter_congr fun x _ => ?_
  rw [seen_snoc, Bool.not_or]
  congr 2
  rw [Bool.eq_iff_iff]
  simp
  omega

/-! ### rows of steps -/
def flat (L : List (Int × Int × Int)) : List Value := L.flatMap enc3
theorem flat_snoc (L : List (Int × Int × Int)) (s i e : Int) : flat (L ++ [(s, i, e)]) = flat L ++ [.int .i64 s, .int .i64 i, .int .i64 e] := by simp [flat, enc3]
theorem info_step : (Try.prog.info? 71).map (fun i => (i.zero, i.size, i.bytes)) = some (some (.agg #[.int .i64 0, .int .i64 0, .int .i64 0]), 3, 24) := by kernel_rfl
theorem own_base {w : World} {B B' e s n : Nat} {v : Value} {xs : List Value} (h : w.ownsRow B e s v n xs) (hb : B' ≤ B) : w.ownsRow B' e s v n xs := by
  refine ⟨h.1, ?_⟩
  rcases h.2 with hn | ⟨g, cap, cur, hv, hg, rest⟩
  · exact .inl hn
  · exact .inr ⟨g, cap, cur, hv, Nat.le_trans hb hg, rest⟩
theorem own_later {w w' : World} {B e s n : Nat} {v : Value} {xs : List Value} (h : w.ownsRow B e s v n xs) (ht : Below w.heap.size w w') : w'.ownsRow B e s v n xs := by
  refine ⟨h.1, ?_⟩
  rcases h.2 with hn | ⟨g, cap, cur, hv, hg, hc, rest⟩
  · exact .inl hn
  · exact .inr ⟨g, cap, cur, hv, hg, (ht.block g (Array.getElem?_eq_some_iff.1 hc).1).trans hc, rest⟩

/-- What Follow leaves. -/
def Steps (w : World) (L : List (Int × Int × Int)) (e : Ending) (w' : World) : Prop := ∃ v, e = .returned v ∧ w'.ownsRow w.heap.size 71 3 v L.length (flat L) ∧ Below w.heap.size w w'

/-- Within Follow: the map is block B, the row of steps lies behind it. -/
structure Fol (w : World) (B : Nat) (wr : World) (v : Value) (L : List (Int × Int × Int)) : Prop where
  row : wr.ownsRow (B + 1) 71 3 v L.length (flat L)
  map : CountMap 3 B L.length (fun k => match k with | .int .i64 s => if seenIn L s then 1 else 0 | _ => 0) wr
  below : Below B w wr
  size : w.heap.size = B

section
variable {w wr w' : World} {B : Nat} {v : Value} {L : List (Int × Int × Int)}
theorem Fol.later (h : Fol w B wr v L) (hb : Below wr.heap.size wr w') : Fol w B w' v L :=
  ⟨own_later h.row hb, h.map.below hb, h.below.trans (hb.mono (by have := h.below.size; have := h.size; omega)), h.size⟩
theorem Fol.look (h : Fol w B wr v L) {s : Int} (hs : -9223372036854775808 ≤ s ∧ s ≤ 9223372036854775807) {c : Bool} (hc : seenIn L s = c) :
    (Instr.lookup 76 (.map (some B)) (.int .i64 s) false).run Try.prog wr = .ok (.int .i64 (if c then 1 else 0)) wr := by
  have := h.map.look lawI Try.underlying76 (key_int hs)
  rw [this]
  subst hc
  rfl
/-- The section is marked: the map alone has turned. -/
theorem Fol.mark (h : Fol w B wr v L) {s i e : Int} (hs : -9223372036854775808 ≤ s ∧ s ≤ 9223372036854775807) (hl : L.length < maxLen) :
    ∃ w1, (Instr.mapUpdate 76 (.map (some B)) (.int .i64 s) (.int .i64 1)).run Try.prog wr = .ok () w1 ∧ w1.ownsRow (B + 1) 71 3 v L.length (flat L) ∧
      CountMap 3 B (L ++ [(s, i, e)]).length (fun k => match k with | .int .i64 t => if seenIn (L ++ [(s, i, e)]) t then 1 else 0 | _ => 0) w1 ∧ Below B w w1 ∧ wr.grownBy w1 (some B) := by
  obtain ⟨w1, h1, h2, h3⟩ := h.map.update lawI Try.underlying76 hl (key_int hs) (x := 1) (by decide)
  refine ⟨w1, h1, h.row.kept h3 ?_, ?_, h.below.grown h3 (by have := h.below.size; have := h.size; omega) (fun j hj => by injection hj; omega), h3⟩
  · cases hv : v.ownBlock with
    | none => exact .inl rfl
    | some g => exact .inr fun e2 => by injection e2 with e2; have := (h.row.lt g hv).1; omega
  · obtain ⟨D, d1, d2, d3⟩ := h2
    refine ⟨D, by simpa using d1, d2, fun key kl hk => ?_⟩
    refine (d3 key kl hk).trans (congrArg (fun z : Int => DataW.lit (.int .i64 z)) ?_)
    by_cases e2 : key = .int .i64 s
    · subst e2
      simp only [seen_snoc]
      simp
    · simp only [if_neg e2]
      split
      · rename_i t
        have : (s == t) = false := by rw [beq_eq_false_iff_ne]; intro e3; exact e2 (by rw [e3])
        rw [seen_snoc, this, Bool.or_false]
      · rfl

/-- .. the section is marked, the step not there yet. -/
structure Fol2 (w : World) (B : Nat) (wr : World) (v : Value) (L L' : List (Int × Int × Int)) : Prop where
  row : wr.ownsRow (B + 1) 71 3 v L.length (flat L)
  map : CountMap 3 B L'.length (fun k => match k with | .int .i64 s => if seenIn L' s then 1 else 0 | _ => 0) wr
  below : Below B w wr
  size : w.heap.size = B
theorem Fol2.later {L' : List (Int × Int × Int)} (h : Fol2 w B wr v L L') (hb : Below wr.heap.size wr w') : Fol2 w B w' v L L' :=
  ⟨own_later h.row hb, h.map.below hb, h.below.trans (hb.mono (by have := h.below.size; have := h.size; omega)), h.size⟩
theorem Fol2.set {L' : List (Int × Int × Int)} (h : Fol2 w B wr v L L') {g o : Nat} {u : Value} (hg : B < g) (hv : v.ownBlock ≠ some g) : Fol2 w B (wr.setCell ⟨g, o, none⟩ u) v L L' := by
  refine ⟨ownsRow_setCell_other h.row hv _, h.map.kept (row := some g) ⟨rfl, rfl, rfl, by simp [World.setCell], fun i hi hn => Below.heap_setCell wr ⟨g, o, none⟩ u i (fun e => hn (by rw [e]))⟩ (by intro e; injection e; omega), h.below.setCell (by show B ≤ g; omega) _, h.size⟩
theorem Fol2.notIn {L' : List (Int × Int × Int)} (h : Fol2 w B wr v L L') : ∀ g, wr.heap.size ≤ g → v.ownBlock ≠ some g := fun g hg e => by have := (h.row.lt g e).2; omega
theorem Fol2.push {s i e : Int} (h : Fol2 w B wr v L (L ++ [(s, i, e)])) {v' : Value} (k1 : w'.ownsRow (B + 1) 71 3 v' (L.length + 1) (flat L ++ [.int .i64 s, .int .i64 i, .int .i64 e])) (k2 : wr.grownBy w' v.ownBlock) : Fol w B w' v' (L ++ [(s, i, e)]) := by
  have hne : ∀ j, j < B + 1 → some j ≠ v.ownBlock := fun j hj e1 => by have := (h.row.lt j e1.symm).1; omega
  exact ⟨by rw [flat_snoc, List.length_append]; exact k1, h.map.kept k2 (hne B (by omega)), h.below.grown k2 (by have := h.below.size; have := h.size; omega) (fun j hj => by have := (h.row.lt j hj).1; omega), h.size⟩
theorem Fol.mark2 (h : Fol w B wr v L) {s i e : Int} (hs : -9223372036854775808 ≤ s ∧ s ≤ 9223372036854775807) (hl : L.length < maxLen) :
    ∃ w1, (Instr.mapUpdate 76 (.map (some B)) (.int .i64 s) (.int .i64 1)).run Try.prog wr = .ok () w1 ∧ Fol2 w B w1 v L (L ++ [(s, i, e)]) ∧ wr.heap.size ≤ w1.heap.size := by
  obtain ⟨w1, h1, h2, h3, h4, h5⟩ := h.mark (i := i) (e := e) hs hl
  exact ⟨w1, h1, ⟨h2, h3, h4, h.size⟩, h5.size⟩
theorem Fol.look0 (h : Fol w B wr v L) {s : Int} (hs : -9223372036854775808 ≤ s ∧ s ≤ 9223372036854775807) (hc : seenIn L s = false) :
    (Instr.lookup 76 (.map (some B)) (.int .i64 s) false).run Try.prog wr = .ok (.int .i64 0) wr := h.look hs hc
theorem Fol.look1 (h : Fol w B wr v L) {s : Int} (hs : -9223372036854775808 ≤ s ∧ s ≤ 9223372036854775807) (hc : seenIn L s = true) :
    (Instr.lookup 76 (.map (some B)) (.int .i64 s) false).run Try.prog wr = .ok (.int .i64 1) wr := h.look hs hc
end

/-- Three cells that were laid just now, as append wants them. -/
theorem news3 (W : World) (a b c : Value) (t : TypeId) : ∀ j u, [a, b, c][j]? = some u → (W.alloc (.cells #[a, b, c] t)).cell? ((⟨W.heap.size, 0, none⟩ : Addr).add j) = some u := by
  intro j u hu
  rw [plain_add, Nat.zero_add, cell_of_row _ _ j _ _ _ (heap_alloc_new W _)]
  simpa using hu
theorem news3' (W : World) (a b c : Value) (t : TypeId) (N : Nat) (hN : W.heap.size = N) : ∀ j u, [a, b, c][j]? = some u → (W.alloc (.cells #[a, b, c] t)).cell? ((⟨N, 0, none⟩ : Addr).add j) = some u := by subst hN; exact news3 W a b c t
theorem one3 (a b c : Int) : ∀ u ∈ [Value.int .i64 a, .int .i64 b, .int .i64 c], u.oneCell' = true := by
  intro u hu
  simp only [List.mem_cons, List.not_mem_nil, or_false] at hu
  rcases hu with rfl | rfl | rfl <;> rfl
theorem endsT_in (k : Int) : 0 ≤ endsT k ∧ endsT k ≤ 4 := by unfold endsT; split <;> (try split) <;> (try split) <;> omega
theorem kindAt_of {S : List (Int × Int × Int)} {n : Nat} {x : Int × Int × Int} (h : S[n]? = some x) : kindAt S (n : Int) = x.1 := by simp [kindAt, h]
theorem posAt_of {P : List Int} {n : Nat} {x : Int} (h : P[n]? = some x) : posAt P (n : Int) = x := by
  have hl := (List.getElem?_eq_some_iff.1 h).1
  unfold posAt
  rw [if_pos (by omega), Int.toNat_natCast, List.getD_eq_getElem?_getD, h]
  rfl
theorem posAt_none {P : List Int} {n : Nat} (h : P.length ≤ n) : posAt P (n : Int) = 0 := by
  unfold posAt
  rw [if_neg (by omega)]
end Go.Proofs.Ytokldploloncgaa.topo
