/-
  Check of the program: what it asks, as a walk over the joints and the sections; what its two maps hold.
-/
import Derived.Test.YtokldploloncgaaTopoI
namespace Go.Proofs.Ytokldploloncgaa.topo
open Go.RowKit

def spotOk (S : List (Int × Int × Int)) (x : Int × Int) : Bool := decide (0 ≤ x.1 ∧ x.1 < S.length ∧ 0 ≤ x.2 ∧ x.2 < endsT (kindAt S x.1))
/-- The spots of a joint, one behind the other: each is there, and was not taken. -/
def runI (S : List (Int × Int × Int)) : List (Int × Int) → List (Int × Int) → Bool
  | _, [] => true
  | T, x :: r => spotOk S x && !T.contains x && runI S (T ++ [x]) r
def runJ (S : List (Int × Int × Int)) : List (Int × Int) → List (Int × Int × Int × Int) → Bool
  | _, [] => true
  | T, (a, ae, b, be) :: r => runI S T [(a, ae), (b, be)] && decide (a ≠ b) && runJ S (T ++ [(a, ae), (b, be)]) r
def secOk (T : List (Int × Int)) (i : Nat) (Ls : List Int) (x : Int × Int × Int) : Bool :=
  decide (endsT x.1 ≠ 0 ∧ (0 ≤ x.2.1 ∧ x.2.1 ≤ 3) ∧ (0 ≤ x.2.2 ∧ x.2.2 ≤ 3)) && (decide (x.2.2 = 0) || (decide (x.1 = 0) && !T.contains ((i : Int), 1) && decide (Ls.count x.2.2 = 0)))
def runS (T : List (Int × Int)) : Nat → List Int → List (Int × Int × Int) → Bool
  | _, _, [] => true
  | i, Ls, x :: r => secOk T i Ls x && runS T (i + 1) (Ls ++ [x.2.2]) r
def spots (J : List (Int × Int × Int × Int)) : List (Int × Int) := J.flatMap fun (a, ae, b, be) => [(a, ae), (b, be)]
def okT (S : List (Int × Int × Int)) (J : List (Int × Int × Int × Int)) : Bool := decide (1 ≤ S.length ∧ S.length ≤ 16) && decide (J.length ≤ 24) && runJ S [] J && runS (spots J) 0 [] S
def errT (b : Bool) : Int := if b then 0 else 6

/-- Only block b may have turned, and what is new. -/
structure Only (b : Nat) (w w' : World) : Prop where
  os : w'.os = w.os
  tape : w'.tape = w.tape
  output : w'.output = w.output
  size : w.heap.size ≤ w'.heap.size
  block : ∀ k, k < w.heap.size → k ≠ b → w'.heap[k]? = w.heap[k]?
theorem Only.refl (b : Nat) (w : World) : Only b w w := ⟨rfl, rfl, rfl, Nat.le_refl _, fun _ _ _ => rfl⟩
theorem Only.trans {b : Nat} {a c d : World} (h : Only b a c) (k : Only b c d) : Only b a d :=
  ⟨k.os.trans h.os, k.tape.trans h.tape, k.output.trans h.output, Nat.le_trans h.size k.size, fun i hi hn => (k.block i (Nat.lt_of_lt_of_le hi h.size) hn).trans (h.block i hi hn)⟩
theorem Only.of_below {w w' : World} (b : Nat) (h : Below w.heap.size w w') : Only b w w' := ⟨h.os, h.tape, h.output, h.size, fun k hk _ => h.block k hk⟩
theorem Only.of_grown {w w' : World} {b : Nat} (h : w.grownBy w' (some b)) : Only b w w' := ⟨h.os, h.tape, h.output, h.size, fun k hk hn => h.block k hk (fun e => hn (by injection e))⟩
theorem Only.later {w a c : World} {b : Nat} (h : Only b w a) (k : Below a.heap.size a c) : Only b w c := h.trans (Only.of_below b k)
theorem Only.cell {w w' : World} {b g o : Nat} {v : Value} (h : Only b w w') (hc : w.cell? ⟨g, o, none⟩ = some v) (hg : g ≠ b) : w'.cell? ⟨g, o, none⟩ = some v :=
  (World.cell?_of_block (h.block g (World.block_lt_of_cell? w ⟨g, o, none⟩ hc) hg)).trans hc
theorem Only.below {w w' : World} {b B : Nat} (h : Only b w w') (hB : B ≤ b) (hs : B ≤ w.heap.size) : Below B w w' := ⟨h.os, h.tape, h.output, h.size, fun k hk => h.block k (by omega) (by omega)⟩
theorem Only.rows {α : Type} {m : Nat} {enc : α → List Value} {w w' : World} {b : Nat} {ao : Option Addr} {ln lc : Nat} {L : List α} (h : Only b w w') (hr : RowsAt m enc w ao ln lc L) (hb : ∀ a, ao = some a → a.block ≠ b) : RowsAt m enc w' ao ln lc L := by
  refine ⟨hr.len, hr.le, hr.max, hr.nil, ?_⟩
  rcases hr.at' with h0 | ⟨g, o, e, hg, hc⟩
  · exact .inl h0
  · exact .inr ⟨g, o, e, Nat.lt_of_lt_of_le hg h.size, fun i x hx j u hu => h.cell (hc i x hx j u hu) (hb _ e)⟩
theorem CountMap.only {kt : TypeId} {b b' n : Nat} {c : Value → Int} {w w' : World} (h : CountMap kt b n c w) (ho : Only b' w w') (hne : b ≠ b') : CountMap kt b n c w' :=
  h.kept (row := some b') ⟨ho.os, ho.tape, ho.output, ho.size, fun i hi hn => ho.block i hi (fun e => hn (by rw [e]))⟩ (fun e => hne (by injection e))

open Classical in
/-- The spots that were taken, each once. -/
def Taken (B : Nat) (T : List (Int × Int)) (w : World) : Prop := CountMap 95 B T.length (fun k => if k ∈ T.map spotV then 1 else 0) w
theorem keyLawS : WideMaps.KeyLaw Try.prog 95 := deep_law_laid (m := 9) (by kernel_rfl) (by decide) (of_decide_eq_true (by kernel_rfl)) (by kernel_rfl) (by kernel_rfl)
theorem mem_spotV {T : List (Int × Int)} {x : Int × Int} : spotV x ∈ T.map spotV ↔ x ∈ T := by
  constructor
  · intro h
    obtain ⟨y, hy, e⟩ := List.mem_map.1 h
    exact (spotV_inj e) ▸ hy
  · exact fun h => List.mem_map.2 ⟨x, h, rfl⟩
section
variable {B : Nat} {T : List (Int × Int)} {w w' : World} {a e : Int}
theorem Taken.look (h : Taken B T w) (ha : (Lit.int .i64 a).wf = true) (he : (Lit.int .i64 e).wf = true) :
    (Instr.lookup 93 (.map (some B)) (.agg #[.int .i64 a, .int .i64 e]) false).run Try.prog w = .ok (.int .i64 (if T.contains (a, e) then 1 else 0)) w := by
  obtain ⟨kl, hk⟩ := key_spot ha he
  have := CountMap.look (key := spotV (a, e)) h lawS Try.underlying93 hk
  refine this.trans (congrArg (fun z : Int => Result.ok (Value.int .i64 z) w) ?_)
  by_cases hm : (a, e) ∈ T
  · rw [if_pos (mem_spotV.2 hm), if_pos (by simpa using hm)]
  · rw [if_neg (fun h => hm (mem_spotV.1 h)), if_neg (by simpa using hm)]
theorem Taken.look1 (h : Taken B T w) (ha : (Lit.int .i64 a).wf = true) (he : (Lit.int .i64 e).wf = true) (ht : T.contains (a, e) = true) :
    (Instr.lookup 93 (.map (some B)) (.agg #[.int .i64 a, .int .i64 e]) false).run Try.prog w = .ok (.int .i64 1) w := by
  have := h.look ha he
  rw [ht] at this
  exact this
theorem Taken.look0 (h : Taken B T w) (ha : (Lit.int .i64 a).wf = true) (he : (Lit.int .i64 e).wf = true) (ht : T.contains (a, e) = false) :
    (Instr.lookup 93 (.map (some B)) (.agg #[.int .i64 a, .int .i64 e]) false).run Try.prog w = .ok (.int .i64 0) w := by
  have := h.look ha he
  rw [ht] at this
  exact this
theorem Taken.take (h : Taken B T w) (ha : (Lit.int .i64 a).wf = true) (he : (Lit.int .i64 e).wf = true) (ht : T.contains (a, e) = false) (hn : T.length < maxLen) :
    ∃ (v0 : Value) (st : Nat) (w1 w2 : World), (Instr.mapEntry 93 (.map (some B)) (.agg #[.int .i64 a, .int .i64 e])).run Try.prog w = .ok (.tuple #[v0, goInt st]) w1 ∧
      (Instr.lookup 93 (.map (some B)) (.agg #[.int .i64 a, .int .i64 e]) false).run Try.prog w1 = .ok (.int .i64 0) w1 ∧
      (Instr.entryStore 93 (.map (some B)) (goInt st) (.int .i64 1)).run Try.prog w1 = .ok () w2 ∧ Taken B (T ++ [(a, e)]) w2 ∧ Only B w w2 := by
  obtain ⟨kl, hk⟩ := key_spot ha he
  have hm : ¬ (a, e) ∈ T := by simpa using ht
  obtain ⟨v0, st, w1, w2, h1, h2, h3, h4, h5⟩ := CountMap.entry (key := spotV (a, e)) h keyLawS Try.underlying93 hn hk (if_neg (fun hh => hm (mem_spotV.1 hh)))
  refine ⟨v0, st, w1, w2, h1, h2, h3, ?_, Only.of_grown h5⟩
  obtain ⟨D, d1, d2, d3⟩ := h4
  refine ⟨D, by simpa using d1, d2, fun key kl' hk' => (d3 key kl' hk').trans (congrArg (fun z : Int => DataW.lit (.int .i64 z)) ?_)⟩
  by_cases e1 : key = spotV (a, e)
  · subst e1
    simp
  · dsimp only
    rw [if_neg e1]
    have hiff : key ∈ (T ++ [(a, e)]).map spotV ↔ key ∈ T.map spotV := by
      rw [List.map_append, List.mem_append]
      exact ⟨fun h => h.resolve_right (fun h => e1 (by simpa using h)), .inl⟩
    by_cases hk2 : key ∈ T.map spotV
    · rw [if_pos hk2, if_pos (hiff.2 hk2)]
    · rw [if_neg hk2, if_neg (fun h => hk2 (hiff.1 h))]
end

/-- The lines that were met. -/
def Lines (B : Nat) (Ls : List Int) (w : World) : Prop := CountMap 3 B Ls.length (fun k => match k with | .int .i64 l => (Ls.count l : Int) | _ => 0) w
theorem Lines.look {B : Nat} {Ls : List Int} {w : World} {l : Int} (h : Lines B Ls w) (hl : -9223372036854775808 ≤ l ∧ l ≤ 9223372036854775807) (n : Nat) (hn : Ls.count l = n) :
    (Instr.lookup 76 (.map (some B)) (.int .i64 l) false).run Try.prog w = .ok (.int .i64 (n : Int)) w := by
  subst hn
  exact CountMap.look h lawI Try.underlying76 (key_int hl)
theorem Lines.more {B : Nat} {Ls : List Int} {w : World} {l : Int} (h : Lines B Ls w) (hl : -9223372036854775808 ≤ l ∧ l ≤ 9223372036854775807) (hn : Ls.length < 1000) (n : Nat) (hc : Ls.count l = n) :
    ∃ w1, (Instr.mapUpdate 76 (.map (some B)) (.int .i64 l) (.int .i64 ((n : Int) + 1))).run Try.prog w = .ok () w1 ∧ Lines B (Ls ++ [l]) w1 ∧ Only B w w1 := by
  have hle : n ≤ Ls.length := hc ▸ List.count_le_length
  obtain ⟨w1, h1, h2, h3⟩ := CountMap.update h lawI Try.underlying76 (by unfold maxLen; omega) (key_int hl) (x := (n : Int) + 1) (int_wf (by omega))
  refine ⟨w1, h1, ?_, Only.of_grown h3⟩
  obtain ⟨D, d1, d2, d3⟩ := h2
  refine ⟨D, by simpa using d1, d2, fun key kl' hk' => (d3 key kl' hk').trans (congrArg (fun z : Int => DataW.lit (.int .i64 z)) ?_)⟩
  by_cases e1 : key = .int .i64 l
  · subst e1
    simp [hc]
  · simp only [if_neg e1]
    split
    · rename_i t
      have hne : ¬ l = t := fun e2 => e1 (by rw [e2])
      simp [List.count_append, hne]
    · rfl
theorem spots_snoc (J : List (Int × Int × Int × Int)) (a ae b be : Int) : spots (J ++ [(a, ae, b, be)]) = spots J ++ [(a, ae), (b, be)] := by simp [spots]
theorem taken_made (w : World) : Taken w.heap.size [] (w.alloc (.map #[] 0)) := by
  obtain ⟨D, h1, h2, h3⟩ := CountMap.made 95 w
  exact ⟨D, h1, h2, fun key kl hk => (h3 key kl hk).trans (congrArg (fun z : Int => DataW.lit (.int .i64 z)) (by simp))⟩
theorem lines_made (w : World) : Lines w.heap.size [] (w.alloc (.map #[] 0)) := by
  obtain ⟨D, h1, h2, h3⟩ := CountMap.made 3 w
  exact ⟨D, h1, h2, fun key kl hk => (h3 key kl hk).trans (congrArg (fun z : Int => DataW.lit (.int .i64 z)) (by dsimp only; split <;> simp))⟩
end Go.Proofs.Ytokldploloncgaa.topo
