/-
  'm[k]++' of a map of one's own whose key is a struct, in whatever order.
-/
import Derived.Test.YtokldploloncgaaTopoE
import Derived.WideKeyEntry
namespace Go.Proofs.Ytokldploloncgaa.topo
open Go.RowKit
open Go.ChangeMaps (setBlock)

theorem setBlock_self {w : World} {b : Nat} {o : Obj} (h : w.heap[b]? = some o) : setBlock w b o = w := by
  unfold setBlock
  have : w.heap.setIfInBounds b o = w.heap := by
    apply Array.ext_getElem?
    intro i
    rw [Array.getElem?_setIfInBounds]
    split
    · rename_i e
      subst e
      have hl := (Array.getElem?_eq_some_iff.1 h).1
      rw [if_pos hl, h]
    · rfl
  rw [this]
theorem setBlock_twice (w : World) (b : Nat) (o p : Obj) : setBlock (setBlock w b o) b p = setBlock w b p := by
  unfold setBlock
  simp

/-- A spot as a key. -/
def spotV (x : Int × Int) : Value := .agg #[.int .i64 x.1, .int .i64 x.2]
theorem spotV_inj {x y : Int × Int} (h : spotV x = spotV y) : x = y := by
  obtain ⟨a, b⟩ := x
  obtain ⟨c, d⟩ := y
  simp only [spotV, Value.agg.injEq] at h
  simpa using h
theorem lits_int {d : Nat} {a : Int} (h : (Lit.int .i64 a).wf = true) : Try.prog.keyLits (d + 1) 3 [.int .i64 a] = some [.int .i64 a] := by
  unfold Program.keyLits
  rw [Try.underlying3]
  simp [h]
theorem key_spot {a b : Int} (ha : (Lit.int .i64 a).wf = true) (hb : (Lit.int .i64 b).wf = true) : ∃ kl, keyOf Try.prog 95 (.agg #[.int .i64 a, .int .i64 b]) = some kl := by
  have c1 : Try.prog.cellsOf 3 = 1 := by kernel_rfl
  have c2 : Try.prog.cellsOf 95 = 2 := by kernel_rfl
  have kt : Try.prog.keyType 95 = true := by kernel_rfl
  obtain ⟨m, hm⟩ : ∃ m, Try.prog.types.size = m + 1 := ⟨Try.prog.types.size - 1, by have : 0 < Try.prog.types.size := of_decide_eq_true (by kernel_rfl); omega⟩
  have hl : Try.prog.keyLits (Try.prog.types.size + 1) 95 [.int .i64 a, .int .i64 b] = some [.int .i64 a, .int .i64 b] := by
    rw [hm]
    unfold Program.keyLits
    rw [Try.underlying95]
    simp [c1, c2, lits_int ha, lits_int hb]
  refine ⟨.string (keyBytes [.int .i64 a, .int .i64 b]), ?_⟩
  unfold keyOf
  rw [Try.underlying95]
  simp [kt, Value.formed, Try.underlying95, Value.cells, c2]
  exact ⟨[.int .i64 a, .int .i64 b], by simpa using hl, rfl⟩

open Classical in
theorem CountMap.entry {kt mt : TypeId} {b n : Nat} {c : Value → Int} {w : World} (h : CountMap kt b n c w) (K : WideMaps.KeyLaw Try.prog kt) (ht : Try.prog.underlying mt = some (.map kt 3)) (hn : n < maxLen) {key : Value} {kl : Lit} (hkey : keyOf Try.prog kt key = some kl) (hc : c key = 0) :
    ∃ (v0 : Value) (st : Nat) (w1 w2 : World), (Instr.mapEntry mt (.map (some b)) key).run Try.prog w = .ok (.tuple #[v0, goInt st]) w1 ∧ (Instr.lookup mt (.map (some b)) key false).run Try.prog w1 = .ok (.int .i64 0) w1 ∧
      (Instr.entryStore mt (.map (some b)) (goInt st) (.int .i64 1)).run Try.prog w1 = .ok () w2 ∧ CountMap kt b (n + 1) (fun v => if v = key then 1 else c v) w2 ∧ w.grownBy w2 (some b) := by
  have KK := Maps.Keyed.of_law K
  have hlook := h.look KK ht hkey
  rw [hc] at hlook
  obtain ⟨w0, u0, u1, -⟩ := h.update KK ht hn hkey (x := 0) (by decide)
  obtain ⟨w2, t0, t1, t2⟩ := h.update KK ht hn hkey (x := 1) (by decide)
  obtain ⟨D, ⟨es, clock, hb, F, hs, -⟩, -, -⟩ := h
  obtain ⟨v0, st, es1, clock1, e1, -, e3⟩ := WideElems.entry_then_store K ht (z := .int .i64 0) zeroE hb F hkey
  have hb1 : (setBlock w b (.map es1 clock1)).heap[b]? = some (.map es1 clock1) := ChangeMaps.heap_setBlock_same hb _
  obtain ⟨es', clock', s1, s2⟩ := e3 (setBlock w b (.map es1 clock1)) (.int .i64 1) hb1
  have hw2 : setBlock w b (.map es' clock') = w2 := by
    have := s2.symm.trans t0
    injection this
  rw [setBlock_twice, hw2] at s1
  refine ⟨v0, st, _, w2, e1, ?_, s1, t1, t2⟩
  rcases KK.find w hkey es.toList F.keys with ⟨f1, f2⟩ | ⟨j, e0, f1, f2, f3⟩
  · have m1 : (Instr.mapEntry mt (.map (some b)) key).run Try.prog w = .ok (.tuple #[.int .i64 0, goInt clock]) (setBlock w b (.map (es.push ⟨key, .int .i64 0, clock⟩) (clock + 1))) := by
      simp [Instr.mapEntry, run_underlying ht, MapKept.run_getObj_map hb, KK.check w false hkey, f1, MapKept.run_setObj_map _ hb, Result.andThen, setBlock]
    have m2 : (Instr.mapUpdate mt (.map (some b)) key (.int .i64 0)).run Try.prog w = .ok () (setBlock w b (.map (es.push ⟨key, .int .i64 0, clock⟩) (clock + 1))) := by
      simp [Instr.mapUpdate, run_underlying ht, MapKept.run_getObj_map hb, KK.check w false hkey, f1, MapKept.run_setObj_map _ hb, Result.andThen, setBlock]
    have a1 : setBlock w b (.map es1 clock1) = setBlock w b (.map (es.push ⟨key, .int .i64 0, clock⟩) (clock + 1)) := by
      have := e1.symm.trans m1
      injection this
    have a2 : w0 = setBlock w b (.map (es.push ⟨key, .int .i64 0, clock⟩) (clock + 1)) := by
      have := u0.symm.trans m2
      injection this
    rw [a1, ← a2]
    have := u1.look KK ht hkey
    simpa using this
  · have hj : es[j]? = some e0 := by simpa using f2
    have hsame : es.modify j (fun e => { e with key := key }) = es := by
      apply Array.ext'
      rw [Array.toList_modify, ChangeMaps.modify_eq_set _ _ _ _ f2]
      have e9 : ({ e0 with key := key } : MapEntry) = e0 := by rw [← f3]
      rw [e9]
      exact WideElems.set_self _ _ _ f2
    have m1 : (Instr.mapEntry mt (.map (some b)) key).run Try.prog w = .ok (.tuple #[e0.val, goInt e0.born]) (setBlock w b (.map es clock)) := by
      simp [Instr.mapEntry, run_underlying ht, MapKept.run_getObj_map hb, KK.check w false hkey, f1, hj, f3, KK.stays w hkey, hsame, MapKept.run_setObj_map _ hb, Result.andThen, setBlock]
    have a1 : setBlock w b (.map es1 clock1) = setBlock w b (.map es clock) := by
      have := e1.symm.trans m1
      injection this
    rw [a1, setBlock_self hb]
    exact hlook
end Go.Proofs.Ytokldploloncgaa.topo
