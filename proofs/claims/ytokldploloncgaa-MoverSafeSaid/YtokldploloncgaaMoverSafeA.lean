/-
  A thing that a command comes to: what (*thing).arrives leaves; and what a cycle leaves of the law's invariant, in numbers alone.
-/
import Derived.Test.YtokldploloncgaaMoverLives
namespace Go.Proofs.Ytokldploloncgaa.mover
open Go.RowKit

/-- Position, aim and stamp behind the arrival of a command of cycle s. -/
def arr (pos to st s cm : Int) : Int × Int × Int := if s ≤ st ∨ cm = 0 then (pos, to, st) else if cm = to then (pos, to, s) else (0, cm, s)

/-- The three cells of the thing. -/
structure Thing (w : World) (T : Nat) (pos to st : Int) : Prop where
  c0 : w.cell? ⟨T, 0, none⟩ = some (.int .i64 pos)
  c1 : w.cell? ⟨T, 1, none⟩ = some (.int .i64 to)
  c2 : w.cell? ⟨T, 2, none⟩ = some (.int .i64 st)
  free : ∀ o, w.frozen? ⟨T, o, none⟩ = false

theorem grown_refl (w : World) (row : Option Nat) : w.grownBy w row := ⟨rfl, rfl, rfl, Nat.le_refl _, fun _ _ _ => rfl⟩
theorem grown_set {a w : World} {g : Nat} (h : a.grownBy w (some g)) (o : Nat) (u : Value) : a.grownBy (w.setCell ⟨g, o, none⟩ u) (some g) :=
  ⟨h.os, h.tape, h.output, by simpa [World.setCell] using h.size, fun i hi hne => (Below.heap_setCell w ⟨g, o, none⟩ u i (fun e => hne (by rw [e]))).trans (h.block i hi hne)⟩
theorem grown_trans {a b c : World} {row : Option Nat} (h : a.grownBy b row) (k : b.grownBy c row) : a.grownBy c row :=
  ⟨k.os.trans h.os, k.tape.trans h.tape, k.output.trans h.output, Nat.le_trans h.size k.size, fun i hi hne => (k.block i (Nat.lt_of_lt_of_le hi h.size) hne).trans (h.block i hi hne)⟩
theorem grown_below {a b c : World} {row : Option Nat} (h : a.grownBy b row) (k : Below b.heap.size b c) : a.grownBy c row :=
  ⟨k.os.trans h.os, k.tape.trans h.tape, k.output.trans h.output, Nat.le_trans h.size k.size, fun i hi hne => (k.block i (Nat.lt_of_lt_of_le hi h.size)).trans (h.block i hi hne)⟩

theorem Thing.set0 {w : World} {T : Nat} {pos to st : Int} (h : Thing w T pos to st) (p : Int) : Thing (w.setCell ⟨T, 0, none⟩ (.int .i64 p)) T p to st :=
  ⟨World.cell?_setCell_same' _ _ _ (by simp [h.c0]), (World.cell?_setCell_other _ _ _ _ (by simp)).trans h.c1, (World.cell?_setCell_other _ _ _ _ (by simp)).trans h.c2, fun o => (World.frozen?_setCell _ _ _ _).trans (h.free o)⟩
theorem Thing.set1 {w : World} {T : Nat} {pos to st : Int} (h : Thing w T pos to st) (p : Int) : Thing (w.setCell ⟨T, 1, none⟩ (.int .i64 p)) T pos p st :=
  ⟨(World.cell?_setCell_other _ _ _ _ (by simp)).trans h.c0, World.cell?_setCell_same' _ _ _ (by simp [h.c1]), (World.cell?_setCell_other _ _ _ _ (by simp)).trans h.c2, fun o => (World.frozen?_setCell _ _ _ _).trans (h.free o)⟩
theorem Thing.set2 {w : World} {T : Nat} {pos to st : Int} (h : Thing w T pos to st) (p : Int) : Thing (w.setCell ⟨T, 2, none⟩ (.int .i64 p)) T pos to p :=
  ⟨(World.cell?_setCell_other _ _ _ _ (by simp)).trans h.c0, (World.cell?_setCell_other _ _ _ _ (by simp)).trans h.c1, World.cell?_setCell_same' _ _ _ (by simp [h.c2]), fun o => (World.frozen?_setCell _ _ _ _).trans (h.free o)⟩
theorem Thing.below {w w' : World} {T : Nat} {pos to st : Int} (h : Thing w T pos to st) (hb : Below w.heap.size w w') : Thing w' T pos to st :=
  have hT : T < w.heap.size := World.block_lt_of_cell? w _ h.c0
  ⟨(hb.cell (p := ⟨T, 0, none⟩) hT).trans h.c0, (hb.cell (p := ⟨T, 1, none⟩) hT).trans h.c1, (hb.cell (p := ⟨T, 2, none⟩) hT).trans h.c2, fun o => (hb.frozen (p := ⟨T, o, none⟩) hT).trans (h.free o)⟩
theorem Thing.grown {w w' : World} {T : Nat} {pos to st : Int} {row : Option Nat} (h : Thing w T pos to st) (hb : w.grownBy w' row) (hne : some T ≠ row) : Thing w' T pos to st :=
  have hT : T < w.heap.size := World.block_lt_of_cell? w _ h.c0
  have e := hb.block T hT hne
  ⟨(World.cell?_of_block (a := ⟨T, 0, none⟩) e).trans h.c0, (World.cell?_of_block (a := ⟨T, 1, none⟩) e).trans h.c1, (World.cell?_of_block (a := ⟨T, 2, none⟩) e).trans h.c2, fun o => (World.frozen?_of_block (a := ⟨T, o, none⟩) e).trans (h.free o)⟩

theorem arrives_any (T : Nat) (pos to st s cm : Int) (w : World) (h : Thing w T pos to st) :
    Calls Try.prog 20 #[.pointer (some ⟨T, 0, none⟩), .int .i64 s, .int .i64 cm] w fun e w' =>
      e = .returned (.tuple #[]) ∧ Thing w' T (arr pos to st s cm).1 (arr pos to st s cm).2.1 (arr pos to st s cm).2.2 ∧ w.grownBy w' (some T) := by
  obtain ⟨h0, h1, h2, hf⟩ := id h
  have f0 := hf 0
  have f1 := hf 1
  have f2 := hf 2
  have H := Lib.hid h
  clear h hf
  by_cases hs : s ≤ st
  · have e : arr pos to st s cm = (pos, to, st) := if_pos (.inl hs)
    rw [e]
    go_enter Try.func20, Try.ntmps20
    go_wp2
    refine bodyPost_ret (results_none rfl _ _ _) rfl ⟨rfl, H.out, grown_refl _ _⟩
  by_cases hc : cm = 0
  · have e : arr pos to st s cm = (pos, to, st) := if_pos (.inr hc)
    rw [e]
    subst hc
    go_enter Try.func20, Try.ntmps20
    go_wp2
    refine bodyPost_ret (results_none rfl _ _ _) rfl ⟨rfl, H.out, grown_refl _ _⟩
  have b0 : (cm == 0) = false := by simpa using hc
  by_cases ht : cm = to
  · have e : arr pos to st s cm = (pos, to, s) := by unfold arr; rw [if_neg (by omega), if_pos ht]
    rw [e]
    subst ht
    go_enter Try.func20, Try.ntmps20
    go_wp2
    refine bodyPost_end (results_none rfl _ _ _) rfl ⟨rfl, H.out.set2 s, grown_set (grown_refl _ _) _ _⟩
  · have e : arr pos to st s cm = (0, cm, s) := by unfold arr; rw [if_neg (by omega), if_neg ht]
    have b1 : (cm != to) = true := by simpa using ht
    rw [e]
    go_enter Try.func20, Try.ntmps20
    go_wp2
    refine bodyPost_end (results_none rfl _ _ _) rfl ⟨rfl, ((H.out.set2 s).set1 cm).set0 0, grown_set (grown_set (grown_set (grown_refl _ _) _ _) _ _) _ _⟩

/-! ### The invariant, in numbers -/
structure Inv (age : Int) (now : Nat) (cs : List Int) (c o pos to : Int) (pr : Bool) : Prop where
  len : cs.length = now
  oth : -1 ≤ o ∧ o < now
  same : ∀ s : Nat, o ≤ s → s < now → cs.getD s 0 = c
  std : pos = 0 ∨ pos = to
  proved : pr = true → pos = c ∧ c ≠ 0 ∧ o + age < now

theorem Inv.stands {age : Int} {now : Nat} {cs : List Int} {c o pos to : Int} {pr : Bool} (h : Inv age now cs c o pos to pr) : Inv age now cs c o to to pr :=
  ⟨h.len, h.oth, h.same, .inr rfl, fun hp => by have := h.proved hp; have := h.std; omega⟩

theorem Inv.seen {age : Int} {now : Nat} {cs : List Int} {c o pos to : Int} {pr : Bool} (h : Inv age now cs c o pos to pr) (ha : 1 ≤ age ∧ age ≤ 6) (hp : prv c o pos now true age = true) : Inv age now cs c o pos to true := by
  refine ⟨h.len, h.oth, h.same, h.std, fun _ => ?_⟩
  simp only [prv, Bool.true_and, Bool.and_eq_true, Bool.not_eq_true', beq_eq_false_iff_ne, beq_iff_eq, decide_eq_true_eq] at hp
  obtain ⟨⟨h1, h2⟩, h3⟩ := hp
  have ho := h.oth
  have e1 : bnd age = age := by unfold bnd; rw [if_neg (by omega), if_neg (by omega)]
  have e2 : bnd now ≤ now := by unfold bnd; split <;> (try split) <;> omega
  have e3 : o ≤ bnd o ∨ 4611686018427387904 ≤ bnd o := by unfold bnd; split <;> (try split) <;> omega
  have e4 := bnd_in (now : Int)
  exact ⟨h2, h1, by omega⟩

/-- A cycle's own command is given, and written down. -/
theorem Inv.command {age : Int} {now : Nat} {cs : List Int} {c o pos to : Int} {pr : Bool} (h : Inv age now cs c o pos to pr) (cm : Int) :
    Inv age (now + 1) (cs ++ [cm]) cm (othOf c o now cm) pos to (pr && c == cm) := by
  have ho := h.oth
  unfold othOf
  refine ⟨by simp [h.len], by split <;> omega, fun s h1 h2 => ?_, h.std, fun hp => ?_⟩
  · by_cases hs : s = now
    · subst hs
      rw [List.getD_eq_getElem?_getD, ← h.len, List.getElem?_concat_length]
      rfl
    · have : s < cs.length := by rw [h.len]; omega
      rw [List.getD_eq_getElem?_getD, List.getElem?_append_left this, ← List.getD_eq_getElem?_getD]
      split at h1
      · rename_i e; rw [← e]; exact h.same s h1 (by omega)
      · omega
  · simp only [Bool.and_eq_true, beq_iff_eq] at hp
    have := h.proved hp.1
    rw [if_pos hp.2]
    rw [← hp.2]
    omega

/-- A command that is not older than the age arrives. -/
theorem Inv.arrives {age : Int} {now : Nat} {cs : List Int} {c o pos to : Int} {pr : Bool} (h : Inv age (now + 1) cs c o pos to pr) (st : Int) (d : Nat) (hd : (d : Int) ≤ age) (hn : d ≤ now) :
    Inv age (now + 1) cs c o (arr pos to st ((now : Int) - d) (cs.getD (now - d) 0)).1 (arr pos to st ((now : Int) - d) (cs.getD (now - d) 0)).2.1 pr := by
  refine ⟨h.len, h.oth, h.same, ?_, fun hp => ?_⟩
  · unfold arr
    have := h.std
    split
    · exact this
    · split
      · exact this
      · exact .inl rfl
  · have h1 := h.proved hp
    have h2 := h.std
    have h3 := h.same (now - d) (by omega) (by omega)
    unfold arr
    rw [h3]
    split
    · exact h1
    · rw [if_pos (by omega)]
      exact h1
end Go.Proofs.Ytokldploloncgaa.mover
