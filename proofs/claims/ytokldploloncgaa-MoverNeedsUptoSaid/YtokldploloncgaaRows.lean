/-
  No cell of these rows narrows 'for every input' (looked for: loops, veiled, ifaces, maps, wideKeys, modest, calm, conditions, laid).
  DERIVED. THE GIVEN ROWS OF THIS SEAT. 11 by the template 'for every input the law returns true; each argument reads behind the call as it read before'; 0 by the template 'total and deterministic' (their statements: YtokldploloncgaaTotals.lean).
  GIVEN WITH THE SEED: the statements are not yours to turn. If you find one false, say at which input.
  Laid BY PROGRAM, IN A SANDBOX (cutbox-rows.mjs): the forced cells as the released guide's own fill.sh prints them over the translation 6fa81fb8c352b1e3… (all of the seat's roots in one cut). By AI agents, Wed Nov 11 2026. No macro, syntax, notation, axiom, sorry.
-/
import Derived.Test.YtokldploloncgaaChecked
import GoSem.Claim
import GoSem.ClaimJoined
import GoSem.ClaimMapViews
import Derived.JoinedTies
import Derived.KernelRfl
namespace Go.Proofs.Ytokldploloncgaa
/- THE CELL 'sum', in the pinned program and in every row, IS THE sha256 OF THE DUMP (.gsa) THAT YtokldploloncgaaProg.lean LOADS. Nothing in Lean hashes anything: it is a label: what it is worth is what the hold of that sum in a sandbox is worth. -/
noncomputable def Try.pinned : Pinned := { name := "ytokldploloncgaa", sum := "6fa81fb8c352b1e34fcbbfbc44d3d780e36917928ce7ccb267d664d221d1a2c1", checked := Try.checked }
namespace Rows
def none {H : Type} : Left H := { results := [], args := [] }

/-- 'ballastlaw12.MoverExact': WHATEVER THE INPUT: true; the input reads as it did. -/
def moverExactSpec : ChangeSpec := { name := "moverExact", fn := fun _ => fun
  | [d1, d2, d3] => { results := [.lit (.bool true)], args := [d1, d2, d3] }
  | _ => none }
def moverExactRow : OpenClaim := { program := "ytokldploloncgaa", sum := "6fa81fb8c352b1e34fcbbfbc44d3d780e36917928ce7ccb267d664d221d1a2c1", func := "ballast/ballastlaw12.MoverExact", spec := "moverExact", plainKeys := false, apart := false }
def MoverExactSaid : Prop := moverExactRow.holds Try.pinned (OpenSpec.ofChange moverExactSpec)

/-- ITS FALSE NEIGHBOUR: 'it returns false'. Refute it at one input. -/
def moverExactWrong : ChangeSpec := { name := "moverExact", fn := fun _ => fun
  | [d1, d2, d3] => { results := [.lit (.bool false)], args := [d1, d2, d3] }
  | _ => none }
def MoverExactWrongFalsely : Prop := moverExactRow.holds Try.pinned (OpenSpec.ofChange moverExactWrong)

/-- 'ballastlaw12.MoverSafe': WHATEVER THE INPUT: true; the input reads as it did. -/
def moverSafeSpec : ChangeSpec := { name := "moverSafe", fn := fun _ => fun
  | [d1, d2, d3] => { results := [.lit (.bool true)], args := [d1, d2, d3] }
  | _ => none }
def moverSafeRow : OpenClaim := { program := "ytokldploloncgaa", sum := "6fa81fb8c352b1e34fcbbfbc44d3d780e36917928ce7ccb267d664d221d1a2c1", func := "ballast/ballastlaw12.MoverSafe", spec := "moverSafe", plainKeys := false, apart := false }
def MoverSafeSaid : Prop := moverSafeRow.holds Try.pinned (OpenSpec.ofChange moverSafeSpec)

/-- ITS FALSE NEIGHBOUR: 'it returns false'. Refute it at one input. -/
def moverSafeWrong : ChangeSpec := { name := "moverSafe", fn := fun _ => fun
  | [d1, d2, d3] => { results := [.lit (.bool false)], args := [d1, d2, d3] }
  | _ => none }
def MoverSafeWrongFalsely : Prop := moverSafeRow.holds Try.pinned (OpenSpec.ofChange moverSafeWrong)

/-- 'ballastlaw12.MoverTwice': WHATEVER THE INPUT: true; the input reads as it did. -/
def moverTwiceSpec : ChangeSpec := { name := "moverTwice", fn := fun _ => fun
  | [d1, d2, d3] => { results := [.lit (.bool true)], args := [d1, d2, d3] }
  | _ => none }
def moverTwiceRow : OpenClaim := { program := "ytokldploloncgaa", sum := "6fa81fb8c352b1e34fcbbfbc44d3d780e36917928ce7ccb267d664d221d1a2c1", func := "ballast/ballastlaw12.MoverTwice", spec := "moverTwice", plainKeys := false, apart := false }
def MoverTwiceSaid : Prop := moverTwiceRow.holds Try.pinned (OpenSpec.ofChange moverTwiceSpec)

/-- ITS FALSE NEIGHBOUR: 'it returns false'. Refute it at one input. -/
def moverTwiceWrong : ChangeSpec := { name := "moverTwice", fn := fun _ => fun
  | [d1, d2, d3] => { results := [.lit (.bool false)], args := [d1, d2, d3] }
  | _ => none }
def MoverTwiceWrongFalsely : Prop := moverTwiceRow.holds Try.pinned (OpenSpec.ofChange moverTwiceWrong)

/-- 'ballastlaw12.MoverNeeds': WHATEVER THE INPUT: true; the input reads as it did. -/
def moverNeedsSpec : ChangeSpec := { name := "moverNeeds", fn := fun _ => fun
  | [d1, d2] => { results := [.lit (.bool true)], args := [d1, d2] }
  | _ => none }
def moverNeedsRow : OpenClaim := { program := "ytokldploloncgaa", sum := "6fa81fb8c352b1e34fcbbfbc44d3d780e36917928ce7ccb267d664d221d1a2c1", func := "ballast/ballastlaw12.MoverNeeds", spec := "moverNeeds", unfollowed := true, recurses := true, plainKeys := false, apart := false }
def MoverNeedsSaid : Prop := moverNeedsRow.holds Try.pinned (OpenSpec.ofChange moverNeedsSpec)

/-- ITS FALSE NEIGHBOUR: 'it returns false'. Refute it at one input. -/
def moverNeedsWrong : ChangeSpec := { name := "moverNeeds", fn := fun _ => fun
  | [d1, d2] => { results := [.lit (.bool false)], args := [d1, d2] }
  | _ => none }
def MoverNeedsWrongFalsely : Prop := moverNeedsRow.holds Try.pinned (OpenSpec.ofChange moverNeedsWrong)

/-- 'ballastlaw05.TopoPlans': WHATEVER THE INPUT: true; the input reads as it did. -/
def topoPlansSpec : ChangeSpec := { name := "topoPlans", fn := fun _ => fun
  | [d1, d2, d3] => { results := [.lit (.bool true)], args := [d1, d2, d3] }
  | _ => none }
def topoPlansRow : OpenClaim := { program := "ytokldploloncgaa", sum := "6fa81fb8c352b1e34fcbbfbc44d3d780e36917928ce7ccb267d664d221d1a2c1", func := "ballast/ballastlaw05.TopoPlans", spec := "topoPlans", plainKeys := false, apart := false }
def TopoPlansSaid : Prop := topoPlansRow.holds Try.pinned (OpenSpec.ofChange topoPlansSpec)

/-- ITS FALSE NEIGHBOUR: 'it returns false'. Refute it at one input. -/
def topoPlansWrong : ChangeSpec := { name := "topoPlans", fn := fun _ => fun
  | [d1, d2, d3] => { results := [.lit (.bool false)], args := [d1, d2, d3] }
  | _ => none }
def TopoPlansWrongFalsely : Prop := topoPlansRow.holds Try.pinned (OpenSpec.ofChange topoPlansWrong)

/-- 'ballastlaw05.TopoFollows': WHATEVER THE INPUT: true; the input reads as it did. -/
def topoFollowsSpec : ChangeSpec := { name := "topoFollows", fn := fun _ => fun
  | [d1, d2, d3] => { results := [.lit (.bool true)], args := [d1, d2, d3] }
  | _ => none }
def topoFollowsRow : OpenClaim := { program := "ytokldploloncgaa", sum := "6fa81fb8c352b1e34fcbbfbc44d3d780e36917928ce7ccb267d664d221d1a2c1", func := "ballast/ballastlaw05.TopoFollows", spec := "topoFollows", plainKeys := false, apart := false }
def TopoFollowsSaid : Prop := topoFollowsRow.holds Try.pinned (OpenSpec.ofChange topoFollowsSpec)

/-- ITS FALSE NEIGHBOUR: 'it returns false'. Refute it at one input. -/
def topoFollowsWrong : ChangeSpec := { name := "topoFollows", fn := fun _ => fun
  | [d1, d2, d3] => { results := [.lit (.bool false)], args := [d1, d2, d3] }
  | _ => none }
def TopoFollowsWrongFalsely : Prop := topoFollowsRow.holds Try.pinned (OpenSpec.ofChange topoFollowsWrong)

/-- 'ballastlaw05.TopoMeets': WHATEVER THE INPUT: true; the input reads as it did. -/
def topoMeetsSpec : ChangeSpec := { name := "topoMeets", fn := fun _ => fun
  | [d] => { results := [.lit (.bool true)], args := [d] }
  | _ => none }
def topoMeetsRow : OpenClaim := { program := "ytokldploloncgaa", sum := "6fa81fb8c352b1e34fcbbfbc44d3d780e36917928ce7ccb267d664d221d1a2c1", func := "ballast/ballastlaw05.TopoMeets", spec := "topoMeets", plainKeys := false, apart := false }
def TopoMeetsSaid : Prop := topoMeetsRow.holds Try.pinned (OpenSpec.ofChange topoMeetsSpec)

/-- ITS FALSE NEIGHBOUR: 'it returns false'. Refute it at one input. -/
def topoMeetsWrong : ChangeSpec := { name := "topoMeets", fn := fun _ => fun
  | [d] => { results := [.lit (.bool false)], args := [d] }
  | _ => none }
def TopoMeetsWrongFalsely : Prop := topoMeetsRow.holds Try.pinned (OpenSpec.ofChange topoMeetsWrong)

/-- 'ballastlaw05.TopoBack': WHATEVER THE INPUT: true; the input reads as it did. -/
def topoBackSpec : ChangeSpec := { name := "topoBack", fn := fun _ => fun
  | [d1, d2, d3] => { results := [.lit (.bool true)], args := [d1, d2, d3] }
  | _ => none }
def topoBackRow : OpenClaim := { program := "ytokldploloncgaa", sum := "6fa81fb8c352b1e34fcbbfbc44d3d780e36917928ce7ccb267d664d221d1a2c1", func := "ballast/ballastlaw05.TopoBack", spec := "topoBack", plainKeys := false, apart := false }
def TopoBackSaid : Prop := topoBackRow.holds Try.pinned (OpenSpec.ofChange topoBackSpec)

/-- ITS FALSE NEIGHBOUR: 'it returns false'. Refute it at one input. -/
def topoBackWrong : ChangeSpec := { name := "topoBack", fn := fun _ => fun
  | [d1, d2, d3] => { results := [.lit (.bool false)], args := [d1, d2, d3] }
  | _ => none }
def TopoBackWrongFalsely : Prop := topoBackRow.holds Try.pinned (OpenSpec.ofChange topoBackWrong)

/-- 'ballastlaw05.TopoEnds': WHATEVER THE INPUT: true; the input reads as it did. -/
def topoEndsSpec : ChangeSpec := { name := "topoEnds", fn := fun _ => fun
  | [d1, d2] => { results := [.lit (.bool true)], args := [d1, d2] }
  | _ => none }
def topoEndsRow : OpenClaim := { program := "ytokldploloncgaa", sum := "6fa81fb8c352b1e34fcbbfbc44d3d780e36917928ce7ccb267d664d221d1a2c1", func := "ballast/ballastlaw05.TopoEnds", spec := "topoEnds", plainKeys := false, apart := false }
def TopoEndsSaid : Prop := topoEndsRow.holds Try.pinned (OpenSpec.ofChange topoEndsSpec)

/-- ITS FALSE NEIGHBOUR: 'it returns false'. Refute it at one input. -/
def topoEndsWrong : ChangeSpec := { name := "topoEnds", fn := fun _ => fun
  | [d1, d2] => { results := [.lit (.bool false)], args := [d1, d2] }
  | _ => none }
def TopoEndsWrongFalsely : Prop := topoEndsRow.holds Try.pinned (OpenSpec.ofChange topoEndsWrong)

/-- 'ballastlaw05.TopoBlind': WHATEVER THE INPUT: true; the input reads as it did. -/
def topoBlindSpec : ChangeSpec := { name := "topoBlind", fn := fun _ => fun
  | [d1, d2, d3] => { results := [.lit (.bool true)], args := [d1, d2, d3] }
  | _ => none }
def topoBlindRow : OpenClaim := { program := "ytokldploloncgaa", sum := "6fa81fb8c352b1e34fcbbfbc44d3d780e36917928ce7ccb267d664d221d1a2c1", func := "ballast/ballastlaw05.TopoBlind", spec := "topoBlind", plainKeys := false, apart := false }
def TopoBlindSaid : Prop := topoBlindRow.holds Try.pinned (OpenSpec.ofChange topoBlindSpec)

/-- ITS FALSE NEIGHBOUR: 'it returns false'. Refute it at one input. -/
def topoBlindWrong : ChangeSpec := { name := "topoBlind", fn := fun _ => fun
  | [d1, d2, d3] => { results := [.lit (.bool false)], args := [d1, d2, d3] }
  | _ => none }
def TopoBlindWrongFalsely : Prop := topoBlindRow.holds Try.pinned (OpenSpec.ofChange topoBlindWrong)

/-- 'ballastlaw05.TopoWays': WHATEVER THE INPUT: true; the input reads as it did. -/
def topoWaysSpec : ChangeSpec := { name := "topoWays", fn := fun _ => fun
  | [d1, d2] => { results := [.lit (.bool true)], args := [d1, d2] }
  | _ => none }
def topoWaysRow : OpenClaim := { program := "ytokldploloncgaa", sum := "6fa81fb8c352b1e34fcbbfbc44d3d780e36917928ce7ccb267d664d221d1a2c1", func := "ballast/ballastlaw05.TopoWays", spec := "topoWays", plainKeys := false, apart := false }
def TopoWaysSaid : Prop := topoWaysRow.holds Try.pinned (OpenSpec.ofChange topoWaysSpec)

/-- ITS FALSE NEIGHBOUR: 'it returns false'. Refute it at one input. -/
def topoWaysWrong : ChangeSpec := { name := "topoWays", fn := fun _ => fun
  | [d1, d2] => { results := [.lit (.bool false)], args := [d1, d2] }
  | _ => none }
def TopoWaysWrongFalsely : Prop := topoWaysRow.holds Try.pinned (OpenSpec.ofChange topoWaysWrong)

/- THE SECOND FORM. 'bulk': how many values and letters a reading holds, each counted each time it is reached (what is shared counts as often as it is met; a slice's spare places count too). A statement '..UptoSaid' is the law's where the arguments, and the package variables that the reading takes, are together of bulk at most 1048576: NARROWER than '..Said'. Prove '..Said' where nothing that the law and all that it calls make is longer than what came in: it says more and counts as full. Else prove '..UptoSaid'. A law counts once. -/
mutual
def uptoBulk {H : Type} : DataW H → Nat
  | .lit (.string bytes) => bytes.length + 1
  | .lit _ => 1
  | .nil => 1
  | .ptr d => uptoBulk d + 1
  | .slice elems spare => uptoBulkAll elems + uptoBulkAll spare + 1
  | .agg parts => uptoBulkAll parts + 1
  | .iface _ d => uptoBulk d + 1
  | .map entries => uptoBulkEntries entries + 1
  | .held _ => 1
def uptoBulkAll {H : Type} : List (DataW H) → Nat
  | [] => 0
  | d :: r => uptoBulk d + uptoBulkAll r
def uptoBulkEntries {H : Type} : List (Lit × DataW H) → Nat
  | [] => 0
  | x :: r => uptoBulkEntry x + uptoBulkEntries r
def uptoBulkEntry {H : Type} : Lit × DataW H → Nat
  | (.string bytes, d) => bytes.length + uptoBulk d + 1
  | (_, d) => uptoBulk d + 1
 end
def uptoSmall : (H : Type) → List (DataW H) → Bool := fun _ ds => decide (uptoBulkAll ds ≤ 1048576)
def OpenSpec.upto (s : _root_.Go.ChangeSpec) : _root_.Go.OpenSpec := { _root_.Go.OpenSpec.ofChange s with cond := some uptoSmall }

/-- 'ballastlaw12.MoverExact', WHERE WHAT IT READS IS OF BULK AT MOST 1048576: true; the input reads as it did. -/
def moverExactUptoRow : OpenClaim := { program := "ytokldploloncgaa", sum := "6fa81fb8c352b1e34fcbbfbc44d3d780e36917928ce7ccb267d664d221d1a2c1", func := "ballast/ballastlaw12.MoverExact", spec := "moverExact", plainKeys := false, apart := false, narrowed := true }
def MoverExactUptoSaid : Prop := moverExactUptoRow.holds Try.pinned (OpenSpec.upto moverExactSpec)

/-- 'ballastlaw12.MoverSafe', WHERE WHAT IT READS IS OF BULK AT MOST 1048576: true; the input reads as it did. -/
def moverSafeUptoRow : OpenClaim := { program := "ytokldploloncgaa", sum := "6fa81fb8c352b1e34fcbbfbc44d3d780e36917928ce7ccb267d664d221d1a2c1", func := "ballast/ballastlaw12.MoverSafe", spec := "moverSafe", plainKeys := false, apart := false, narrowed := true }
def MoverSafeUptoSaid : Prop := moverSafeUptoRow.holds Try.pinned (OpenSpec.upto moverSafeSpec)

/-- 'ballastlaw12.MoverTwice', WHERE WHAT IT READS IS OF BULK AT MOST 1048576: true; the input reads as it did. -/
def moverTwiceUptoRow : OpenClaim := { program := "ytokldploloncgaa", sum := "6fa81fb8c352b1e34fcbbfbc44d3d780e36917928ce7ccb267d664d221d1a2c1", func := "ballast/ballastlaw12.MoverTwice", spec := "moverTwice", plainKeys := false, apart := false, narrowed := true }
def MoverTwiceUptoSaid : Prop := moverTwiceUptoRow.holds Try.pinned (OpenSpec.upto moverTwiceSpec)

/-- 'ballastlaw12.MoverNeeds', WHERE WHAT IT READS IS OF BULK AT MOST 1048576: true; the input reads as it did. -/
def moverNeedsUptoRow : OpenClaim := { program := "ytokldploloncgaa", sum := "6fa81fb8c352b1e34fcbbfbc44d3d780e36917928ce7ccb267d664d221d1a2c1", func := "ballast/ballastlaw12.MoverNeeds", spec := "moverNeeds", unfollowed := true, recurses := true, plainKeys := false, apart := false, narrowed := true }
def MoverNeedsUptoSaid : Prop := moverNeedsUptoRow.holds Try.pinned (OpenSpec.upto moverNeedsSpec)

/-- 'ballastlaw05.TopoPlans', WHERE WHAT IT READS IS OF BULK AT MOST 1048576: true; the input reads as it did. -/
def topoPlansUptoRow : OpenClaim := { program := "ytokldploloncgaa", sum := "6fa81fb8c352b1e34fcbbfbc44d3d780e36917928ce7ccb267d664d221d1a2c1", func := "ballast/ballastlaw05.TopoPlans", spec := "topoPlans", plainKeys := false, apart := false, narrowed := true }
def TopoPlansUptoSaid : Prop := topoPlansUptoRow.holds Try.pinned (OpenSpec.upto topoPlansSpec)

/-- 'ballastlaw05.TopoFollows', WHERE WHAT IT READS IS OF BULK AT MOST 1048576: true; the input reads as it did. -/
def topoFollowsUptoRow : OpenClaim := { program := "ytokldploloncgaa", sum := "6fa81fb8c352b1e34fcbbfbc44d3d780e36917928ce7ccb267d664d221d1a2c1", func := "ballast/ballastlaw05.TopoFollows", spec := "topoFollows", plainKeys := false, apart := false, narrowed := true }
def TopoFollowsUptoSaid : Prop := topoFollowsUptoRow.holds Try.pinned (OpenSpec.upto topoFollowsSpec)

/-- 'ballastlaw05.TopoMeets', WHERE WHAT IT READS IS OF BULK AT MOST 1048576: true; the input reads as it did. -/
def topoMeetsUptoRow : OpenClaim := { program := "ytokldploloncgaa", sum := "6fa81fb8c352b1e34fcbbfbc44d3d780e36917928ce7ccb267d664d221d1a2c1", func := "ballast/ballastlaw05.TopoMeets", spec := "topoMeets", plainKeys := false, apart := false, narrowed := true }
def TopoMeetsUptoSaid : Prop := topoMeetsUptoRow.holds Try.pinned (OpenSpec.upto topoMeetsSpec)

/-- 'ballastlaw05.TopoBack', WHERE WHAT IT READS IS OF BULK AT MOST 1048576: true; the input reads as it did. -/
def topoBackUptoRow : OpenClaim := { program := "ytokldploloncgaa", sum := "6fa81fb8c352b1e34fcbbfbc44d3d780e36917928ce7ccb267d664d221d1a2c1", func := "ballast/ballastlaw05.TopoBack", spec := "topoBack", plainKeys := false, apart := false, narrowed := true }
def TopoBackUptoSaid : Prop := topoBackUptoRow.holds Try.pinned (OpenSpec.upto topoBackSpec)

/-- 'ballastlaw05.TopoEnds', WHERE WHAT IT READS IS OF BULK AT MOST 1048576: true; the input reads as it did. -/
def topoEndsUptoRow : OpenClaim := { program := "ytokldploloncgaa", sum := "6fa81fb8c352b1e34fcbbfbc44d3d780e36917928ce7ccb267d664d221d1a2c1", func := "ballast/ballastlaw05.TopoEnds", spec := "topoEnds", plainKeys := false, apart := false, narrowed := true }
def TopoEndsUptoSaid : Prop := topoEndsUptoRow.holds Try.pinned (OpenSpec.upto topoEndsSpec)

/-- 'ballastlaw05.TopoBlind', WHERE WHAT IT READS IS OF BULK AT MOST 1048576: true; the input reads as it did. -/
def topoBlindUptoRow : OpenClaim := { program := "ytokldploloncgaa", sum := "6fa81fb8c352b1e34fcbbfbc44d3d780e36917928ce7ccb267d664d221d1a2c1", func := "ballast/ballastlaw05.TopoBlind", spec := "topoBlind", plainKeys := false, apart := false, narrowed := true }
def TopoBlindUptoSaid : Prop := topoBlindUptoRow.holds Try.pinned (OpenSpec.upto topoBlindSpec)

/-- 'ballastlaw05.TopoWays', WHERE WHAT IT READS IS OF BULK AT MOST 1048576: true; the input reads as it did. -/
def topoWaysUptoRow : OpenClaim := { program := "ytokldploloncgaa", sum := "6fa81fb8c352b1e34fcbbfbc44d3d780e36917928ce7ccb267d664d221d1a2c1", func := "ballast/ballastlaw05.TopoWays", spec := "topoWays", plainKeys := false, apart := false, narrowed := true }
def TopoWaysUptoSaid : Prop := topoWaysUptoRow.holds Try.pinned (OpenSpec.upto topoWaysSpec)

end Rows
end Go.Proofs.Ytokldploloncgaa
