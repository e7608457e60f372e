/-
  MoverNeeds answers true of every configuration and number, and leaves all that was there as it was.
  Conditions: the input is of bulk at most 1048576 (the second form).
-/
import Derived.Test.YtokldploloncgaaNeedE
import Derived.Test.YtokldploloncgaaTopoP
import Derived.SizedLaws
import Derived.Deep.CondSized
namespace Go.Proofs.Ytokldploloncgaa.topo
open Go.RowKit

def shPair : Sh := .struct [.int, .int]
def shRoute : Sh := .struct [.int, .int, .slice 24 shS, .slice 16 shPair, .slice 8 .int, .bool]
def shTiming : Sh := .struct [.int, .int, .int, .int]
def shConf : Sh := .struct [.slice 24 shS, .slice 32 shJ, .slice 16 shPair, .slice 8 .int, .slice 96 shRoute, shTiming]
theorem pairs_of {w : World} {N : Nat} {ao : Option Addr} {len cap : Nat} (h : Sh.holds w N (.slice 16 shPair) [.slice ao len cap]) : ∃ L, RowsAt 2 enc2 w ao len cap L ∧ len ≤ N := by
  obtain ⟨L, h1, -, -, h2⟩ := rows_of (m := 2) (enc := enc2) rfl (by omega) h (fun _ => True) (fun cs hh => by
    obtain ⟨c1, r1, rfl, ⟨a, rfl, -⟩, c2, r2, rfl, ⟨b, rfl, -⟩, rfl⟩ := hh
    exact ⟨(a, b), rfl, trivial⟩) (fun _ => rfl)
  exact ⟨L, h1, h2⟩
/-- A configuration as it comes in. -/
theorem conf_of {w : World} {N : Nat} {cs : List Value} (h : shConf.holds w N cs) (r : Int) :
    ∃ sa sl sc da dl dc ga gl gc xa xl xc ra rl rc t0 t1 t2 t3 S X, cs = [.slice sa sl sc, .slice da dl dc, .slice ga gl gc, .slice xa xl xc, .slice ra rl rc, .int .i64 t0, .int .i64 t1, .int .i64 t2, .int .i64 t3] ∧
      RowsAt 3 enc3 w sa sl sc S ∧ RowsAt 1 enc1 w xa xl xc X ∧ xl ≤ N ∧
      ∃ en ex pa pl pc fa fl fc oa ol oc sh k P F, RouteAt w ra rl r en ex pa pl pc fa fl fc oa ol oc sh k ∧ RowsAt 3 enc3 w pa pl pc P ∧ RowsAt 2 enc2 w fa fl fc F ∧ pl ≤ N ∧ fl ≤ N := by
  obtain ⟨c1, r1, rfl, h1, c2, r2, rfl, h2, c3, r3, rfl, h3, c4, r4, rfl, h4, c5, r5, rfl, h5, c6, r6, rfl, h6, rfl⟩ := h
  have h1' := h1
  have h4' := h4
  have h5' := h5
  obtain ⟨sa, sl, sc, rfl, -⟩ := h1
  obtain ⟨da, dl, dc, rfl, -⟩ := h2
  obtain ⟨ga, gl, gc, rfl, -⟩ := h3
  obtain ⟨xa, xl, xc, rfl, -⟩ := h4
  obtain ⟨ra, rl, rc, rfl, -⟩ := h5
  obtain ⟨d1, q1, rfl, ⟨t0, rfl, -⟩, d2, q2, rfl, ⟨t1, rfl, -⟩, d3, q3, rfl, ⟨t2, rfl, -⟩, d4, q4, rfl, ⟨t3, rfl, -⟩, rfl⟩ := h6
  obtain ⟨S, s1, -, -, -⟩ := secs_of h1'
  obtain ⟨X, x1, -, -, x2⟩ := ints_of h4'
  refine ⟨sa, sl, sc, da, dl, dc, ga, gl, gc, xa, xl, xc, ra, rl, rc, t0, t1, t2, t3, S, X, rfl, s1, x1, x2, ?_⟩
  by_cases hr : 0 ≤ r ∧ r < rl
  · obtain ⟨n, rfl⟩ := Int.eq_ofNat_of_zero_le hr.1
    have hn : n < rl := by omega
    obtain ⟨ao, len, cap, e1, -, -, -, -, -, hat⟩ := h5'
    simp only [List.cons.injEq, Value.slice.injEq, and_true] at e1
    obtain ⟨rfl, rfl, rfl⟩ := e1
    rcases hat with h0 | ⟨b, off, rfl, hc⟩
    · omega
    · obtain ⟨cs', hcells, hh⟩ := hc n hn
      obtain ⟨e1, q1, rfl, ⟨en, rfl, -⟩, e2, q2, rfl, ⟨ex, rfl, -⟩, e3, q3, rfl, hp, e4, q4, rfl, hf, e5, q5, rfl, ho, e6, q6, rfl, ⟨sh, rfl⟩, rfl⟩ := hh
      have hp' := hp
      have hf' := hf
      obtain ⟨pa, pl, pc, rfl, -⟩ := hp
      obtain ⟨fa, fl, fc, rfl, -⟩ := hf
      obtain ⟨oa, ol, oc, rfl, -⟩ := ho
      obtain ⟨P, p1, -, -, p2⟩ := secs_of hp'
      obtain ⟨F, f1, f2⟩ := pairs_of hf'
      have z0 := hcells 0 _ rfl
      have hb : b < w.heap.size := World.block_lt_of_cell? _ _ z0
      exact ⟨en, ex, pa, pl, pc, fa, fl, fc, oa, ol, oc, sh, true, P, F, ⟨.inr ⟨rfl, n, rfl, hn, b, off, rfl, hb, z0, hcells 1 _ rfl, hcells 2 _ rfl, hcells 3 _ rfl, hcells 4 _ rfl, hcells 5 _ rfl⟩⟩, p1, f1, p2, f2⟩
  · exact ⟨0, 0, none, 0, 0, none, 0, 0, none, 0, 0, false, false, [], [], ⟨.inl ⟨hr, rfl, rfl, rfl, ⟨rfl, rfl, rfl⟩, ⟨rfl, rfl, rfl⟩, ⟨rfl, rfl, rfl⟩, rfl⟩⟩,
      ⟨rfl, by omega, by omega, fun _ => rfl, .inl rfl⟩, ⟨rfl, by omega, by omega, fun _ => rfl, .inl rfl⟩, by omega, by omega⟩
end Go.Proofs.Ytokldploloncgaa.topo

namespace Go.Proofs.Ytokldploloncgaa.moverNeeds
open Go.ChangeShapes Go.WideShapes Go.ChangeAt Go.RowKit Go.Joins

set_option maxRecDepth 100000 in
theorem contract (H : Type) (enc : TypeId × Value → H) (W : World) (base : Nat) (args : Array Value) (ds gs : List (DataW H)) (before : List MemPlace)
    (hval0 : ∀ (j : Nat) t v, Try.f6.params[j]? = some t → args[j]? = some v → Value.okWide Try.prog W .any base t v)
    (hW : DataW.Whole enc Try.prog Try.f6.params.toList Rows.moverNeedsSpec.vars false W args.toList ds gs before)
    (hsz0 : (DataW.weightsEach Try.prog (Try.f6.params.toList ++ Rows.moverNeedsSpec.plain.varTypes Try.prog) (ds ++ gs)).all (· ≤ reachBytes) = true)
    (hk0 : Rows.uptoSmall H (ds ++ gs) = true) :
    Calls Try.prog 6 args W fun e W' => e = .returned (.bool true) ∧ Below W.heap.size W W' := by
  have hval := hval0
  have hsz := hsz0
  have hk := of_decide_eq_true hk0
  clear hval0 hsz0 hk0
  obtain ⟨p, q, hA0, hV, _, _, _⟩ := hW
  have hA : DataW.TrodAll enc Try.prog W 0 (fun _ => true) true Try.f6.params.toList args.toList ds p := hA0
  obtain ⟨rfl, rfl⟩ := trodVars_none hV
  rw [Try.params6] at hA hval hsz
  obtain ⟨v0, vs0, d0, ds0, p0, q0, hargs, rfl, rfl, h0, r0⟩ := trodAll_cons hA
  obtain ⟨v1, vs1, d1, ds1, p1, q1, rfl, rfl, rfl, h1, r1⟩ := trodAll_cons r0
  obtain ⟨rfl, rfl, rfl⟩ := trodAll_nil r1
  have hargs' : args = #[v0, v1] := by apply Array.ext'; rw [hargs]
  subst hargs'
  have ho := hval 0 _ v0 rfl rfl
  simp only [Value.okWide] at ho
  obtain ⟨cs, rfl, -, -⟩ := ho
  obtain ⟨r, rfl, -, -, -⟩ := open_int Try.underlying3 (hval 1 _ v1 rfl rfl) h1
  have hs : topo.shConf.holds W 1048576 cs.toList := Sh.opened (by kernel_rfl) h0 hsz 0 rfl rfl _ (.inr hk)
  obtain ⟨sa, sl, sc, da, dl, dc, ga, gl, gc, xa, xl, xc, ra, rl, rc, t0, t1, t2, t3, S, X, hcs, hS, hX, hxs, en, ex, pa, pl, pc, fa, fl, fc, oa, ol, oc, sh, k, P, F, hR, hP, hF, hps, hfs⟩ := topo.conf_of hs r
  have hcs' : cs = #[.slice sa sl sc, .slice da dl dc, .slice ga gl gc, .slice xa xl xc, .slice ra rl rc, .int .i64 t0, .int .i64 t1, .int .i64 t2, .int .i64 t3] := by apply Array.ext'; rw [hcs]
  subst hcs'
  exact topo.needsLaw_any S P F X sa sl sc da dl dc ga gl gc xa xl xc ra rl rc t0 t1 t2 t3 r W en ex pa pl pc fa fl fc oa ol oc sh k hR hS hP hF hX hps hfs hxs


set_option maxRecDepth 100000 in
theorem lifted (os : Os) (started : os.Started) (H : Type) (enc : TypeId × Value → H) (F : Stop.Interp) :
    ReturnsInHanded {} Try.checked os 6 .any ((Rows.OpenSpec.upto Rows.moverNeedsSpec).pre6 enc Try.prog Try.f6 Rows.moverNeedsUptoRow.domain false) (((Rows.OpenSpec.upto Rows.moverNeedsSpec).at F).post enc Try.prog Try.f6 false true false false) := by
  refine returnsInHanded_of_cond_sized (C := Try.checked) (s := Rows.OpenSpec.upto Rows.moverNeedsSpec) (k := Rows.uptoSmall) rfl own started (by kernel_rfl) Try.func6
    (OpenSpec.witness (enc := enc) (C := Try.checked) (s := Rows.OpenSpec.upto Rows.moverNeedsSpec) (k := Rows.uptoSmall) rfl false ⟨#[], #[.agg #[.slice none 0 0, .slice none 0 0, .slice none 0 0, .slice none 0 0, .slice none 0 0, .int .i64 0, .int .i64 0, .int .i64 0, .int .i64 0], .int .i64 0], []⟩ 8 (by kernel_rfl) (by kernel_rfl) (by kernel_rfl)
      (x := ([.agg [.nil, .nil, .nil, .nil, .nil, .agg [.lit (.int .i64 0), .lit (.int .i64 0), .lit (.int .i64 0), .lit (.int .i64 0)]], .lit (.int .i64 0)], [], [])) (by kernel_rfl) rfl (by kernel_rfl)) ?_
  intro W base args ds gs before hval hW _ hk hsz _
  have hW0 : DataW.Whole enc Try.prog Try.f6.params.toList Rows.moverNeedsSpec.vars false W args.toList ds gs before := hW
  refine (contract H enc W base args ds gs before hval hW hsz hk).mono fun e W' ⟨he, hb⟩ => ⟨_, he, post_law laidOut (by kernel_rfl) (by kernel_rfl : Try.prog.underlying 4 = some .bool) (by kernel_rfl) rfl hW0 ?_ hb⟩
  obtain ⟨p, q, hA0, _⟩ := hW0
  have hA : DataW.TrodAll enc Try.prog W 0 (fun _ => true) true Try.f6.params.toList args.toList ds p := hA0
  rw [Try.params6] at hA
  obtain ⟨v0, vs0, d0, ds0, p0, q0, hargs, rfl, rfl, h0, r0⟩ := trodAll_cons hA
  obtain ⟨v1, vs1, d1, ds1, p1, q1, rfl, rfl, rfl, h1, r1⟩ := trodAll_cons r0
  obtain ⟨rfl, rfl, rfl⟩ := trodAll_nil r1
  rfl

theorem holds : Rows.MoverNeedsUptoSaid :=
  OpenClaim.holds_of_cond 6 Try.f6 rfl rfl rfl rfl rfl rfl rfl ⟨rfl, rfl, rfl, rfl, rfl⟩ rfl rfl rfl rfl rfl (by kernel_rfl) Try.func6 (by kernel_rfl)
    (of_decide_eq_true (by kernel_rfl)) (by unfold Func.isWrapper; first | (rw [if_pos (by decide +kernel)]; kernel_rfl) | (rw [if_neg (by decide +kernel)]; exact ⟨rfl, rfl⟩))
    (fun os started H enc _ F => lifted os started H enc F)
#print axioms holds
end Go.Proofs.Ytokldploloncgaa.moverNeeds
