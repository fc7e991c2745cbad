/-
  No cell of these rows narrows 'for every input' (looked for: loops, veiled, ifaces, maps, wideKeys, modest, calm, conditions, laid).
  DERIVED. THE GIVEN ROWS OF THIS SEAT. 14 by the template 'for every input the law returns true; each argument reads behind the call as it read before'; 0 by the template 'total and deterministic' (their statements: YtalknmdbamlabaaGreatTotals.lean).
  GIVEN WITH THE SEED: the statements are not yours to turn. If you find one false, say at which input.
  Laid BY PROGRAM, IN A SANDBOX (cutbox-rows.mjs): the forced cells as the released guide's own fill.sh prints them over the translation ea7737b45f71259b… (all of the seat's roots in one cut). By AI agents, Wed Nov 11 2026. No macro, syntax, notation, axiom, sorry.
-/
import Derived.Test.YtalknmdbamlabaaGreatChecked
import GoSem.Claim
import GoSem.ClaimJoined
import GoSem.ClaimMapViews
import Derived.JoinedTies
import Derived.KernelRfl
namespace Go.Proofs.YtalknmdbamlabaaGreat
/- THE CELL 'sum', in the pinned program and in every row, IS THE sha256 OF THE DUMP (.gsa) THAT YtalknmdbamlabaaGreatProg.lean LOADS. Nothing in Lean hashes anything: it is a label: what it is worth is what the hold of that sum in a sandbox is worth. -/
noncomputable def Tryz.pinned : Pinned := { name := "ytalknmdbamlabaagreat", sum := "ea7737b45f71259ba9acaf5aad6651468f8bd7b7876ef283d8d3917b243d3272", checked := Tryz.checked }
namespace Rows
def none {H : Type} : Left H := { results := [], args := [] }

/-- 'argosylaw16.LocksLeave': WHATEVER THE INPUT: true; the input reads as it did. -/
def locksLeaveSpec : ChangeSpec := { name := "locksLeave", fn := fun _ => fun
  | [d1, d2] => { results := [.lit (.bool true)], args := [d1, d2] }
  | _ => none }
def locksLeaveRow : OpenClaim := { program := "ytalknmdbamlabaagreat", sum := "ea7737b45f71259ba9acaf5aad6651468f8bd7b7876ef283d8d3917b243d3272", func := "argosy/argosylaw16.LocksLeave", spec := "locksLeave", inPlace := ["slices.overlaps[argosy/btree.item[string, argosy/api.Record]]", "slices.overlaps[*argosy/btree.node[string, argosy/api.Record]]"], unfollowed := true, recurses := true, plainKeys := false, apart := false }
def LocksLeaveSaid : Prop := locksLeaveRow.holds Tryz.pinned (OpenSpec.ofChange locksLeaveSpec)

/-- ITS FALSE NEIGHBOUR: 'it returns false'. Refute it at one input. -/
def locksLeaveWrong : ChangeSpec := { name := "locksLeave", fn := fun _ => fun
  | [d1, d2] => { results := [.lit (.bool false)], args := [d1, d2] }
  | _ => none }
def LocksLeaveWrongFalsely : Prop := locksLeaveRow.holds Tryz.pinned (OpenSpec.ofChange locksLeaveWrong)

/-- 'argosylaw07.EvalRuns': WHATEVER THE INPUT: true; the input reads as it did. -/
def evalRunsSpec : ChangeSpec := { name := "evalRuns", fn := fun _ => fun
  | [d1, d2] => { results := [.lit (.bool true)], args := [d1, d2] }
  | _ => none }
def evalRunsRow : OpenClaim := { program := "ytalknmdbamlabaagreat", sum := "ea7737b45f71259ba9acaf5aad6651468f8bd7b7876ef283d8d3917b243d3272", func := "argosy/argosylaw07.EvalRuns", spec := "evalRuns", inPlace := ["slices.overlaps[argosy/btree.item[string, argosy/api.Record]]", "slices.overlaps[*argosy/btree.node[string, argosy/api.Record]]"], unfollowed := true, recurses := true, plainKeys := false, apart := false }
def EvalRunsSaid : Prop := evalRunsRow.holds Tryz.pinned (OpenSpec.ofChange evalRunsSpec)

/-- ITS FALSE NEIGHBOUR: 'it returns false'. Refute it at one input. -/
def evalRunsWrong : ChangeSpec := { name := "evalRuns", fn := fun _ => fun
  | [d1, d2] => { results := [.lit (.bool false)], args := [d1, d2] }
  | _ => none }
def EvalRunsWrongFalsely : Prop := evalRunsRow.holds Tryz.pinned (OpenSpec.ofChange evalRunsWrong)

/-- 'argosylaw07.EvalPlays': WHATEVER THE INPUT: true; the input reads as it did. -/
def evalPlaysSpec : ChangeSpec := { name := "evalPlays", fn := fun _ => fun
  | [d] => { results := [.lit (.bool true)], args := [d] }
  | _ => none }
def evalPlaysRow : OpenClaim := { program := "ytalknmdbamlabaagreat", sum := "ea7737b45f71259ba9acaf5aad6651468f8bd7b7876ef283d8d3917b243d3272", func := "argosy/argosylaw07.EvalPlays", spec := "evalPlays", inPlace := ["slices.overlaps[argosy/btree.item[string, argosy/api.Record]]", "slices.overlaps[*argosy/btree.node[string, argosy/api.Record]]"], unfollowed := true, recurses := true, plainKeys := false, apart := false }
def EvalPlaysSaid : Prop := evalPlaysRow.holds Tryz.pinned (OpenSpec.ofChange evalPlaysSpec)

/-- ITS FALSE NEIGHBOUR: 'it returns false'. Refute it at one input. -/
def evalPlaysWrong : ChangeSpec := { name := "evalPlays", fn := fun _ => fun
  | [d] => { results := [.lit (.bool false)], args := [d] }
  | _ => none }
def EvalPlaysWrongFalsely : Prop := evalPlaysRow.holds Tryz.pinned (OpenSpec.ofChange evalPlaysWrong)

/-- 'argosylaw22.DurableStates': WHATEVER THE INPUT: true; the input reads as it did. -/
def durableStatesSpec : ChangeSpec := { name := "durableStates", fn := fun _ => fun
  | [d1, d2, d3] => { results := [.lit (.bool true)], args := [d1, d2, d3] }
  | _ => none }
def durableStatesRow : OpenClaim := { program := "ytalknmdbamlabaagreat", sum := "ea7737b45f71259ba9acaf5aad6651468f8bd7b7876ef283d8d3917b243d3272", func := "argosy/argosylaw22.DurableStates", spec := "durableStates", inPlace := ["slices.overlaps[argosy/btree.item[int, argosy/api.Vote[string]]]", "slices.overlaps[*argosy/btree.node[int, argosy/api.Vote[string]]]"], unfollowed := true, recurses := true, plainKeys := false, apart := false }
def DurableStatesSaid : Prop := durableStatesRow.holds Tryz.pinned (OpenSpec.ofChange durableStatesSpec)

/-- ITS FALSE NEIGHBOUR: 'it returns false'. Refute it at one input. -/
def durableStatesWrong : ChangeSpec := { name := "durableStates", fn := fun _ => fun
  | [d1, d2, d3] => { results := [.lit (.bool false)], args := [d1, d2, d3] }
  | _ => none }
def DurableStatesWrongFalsely : Prop := durableStatesRow.holds Tryz.pinned (OpenSpec.ofChange durableStatesWrong)

/-- 'argosylaw22.DurableLives': WHATEVER THE INPUT: true; the input reads as it did. -/
def durableLivesSpec : ChangeSpec := { name := "durableLives", fn := fun _ => fun
  | [d1, d2, d3] => { results := [.lit (.bool true)], args := [d1, d2, d3] }
  | _ => none }
def durableLivesRow : OpenClaim := { program := "ytalknmdbamlabaagreat", sum := "ea7737b45f71259ba9acaf5aad6651468f8bd7b7876ef283d8d3917b243d3272", func := "argosy/argosylaw22.DurableLives", spec := "durableLives", inPlace := ["slices.overlaps[argosy/btree.item[int, argosy/api.Vote[string]]]", "slices.overlaps[*argosy/btree.node[int, argosy/api.Vote[string]]]"], unfollowed := true, recurses := true, plainKeys := false, apart := false }
def DurableLivesSaid : Prop := durableLivesRow.holds Tryz.pinned (OpenSpec.ofChange durableLivesSpec)

/-- ITS FALSE NEIGHBOUR: 'it returns false'. Refute it at one input. -/
def durableLivesWrong : ChangeSpec := { name := "durableLives", fn := fun _ => fun
  | [d1, d2, d3] => { results := [.lit (.bool false)], args := [d1, d2, d3] }
  | _ => none }
def DurableLivesWrongFalsely : Prop := durableLivesRow.holds Tryz.pinned (OpenSpec.ofChange durableLivesWrong)

/-- 'argosylaw22.DurablePlays': WHATEVER THE INPUT: true; the input reads as it did. -/
def durablePlaysSpec : ChangeSpec := { name := "durablePlays", fn := fun _ => fun
  | [d1, d2, d3] => { results := [.lit (.bool true)], args := [d1, d2, d3] }
  | _ => none }
def durablePlaysRow : OpenClaim := { program := "ytalknmdbamlabaagreat", sum := "ea7737b45f71259ba9acaf5aad6651468f8bd7b7876ef283d8d3917b243d3272", func := "argosy/argosylaw22.DurablePlays", spec := "durablePlays", inPlace := ["slices.overlaps[argosy/btree.item[int, argosy/api.Vote[string]]]", "slices.overlaps[*argosy/btree.node[int, argosy/api.Vote[string]]]"], unfollowed := true, recurses := true, plainKeys := false, apart := false }
def DurablePlaysSaid : Prop := durablePlaysRow.holds Tryz.pinned (OpenSpec.ofChange durablePlaysSpec)

/-- ITS FALSE NEIGHBOUR: 'it returns false'. Refute it at one input. -/
def durablePlaysWrong : ChangeSpec := { name := "durablePlays", fn := fun _ => fun
  | [d1, d2, d3] => { results := [.lit (.bool false)], args := [d1, d2, d3] }
  | _ => none }
def DurablePlaysWrongFalsely : Prop := durablePlaysRow.holds Tryz.pinned (OpenSpec.ofChange durablePlaysWrong)

/-- 'argosylaw17.SchedWhole': WHATEVER THE INPUT: true; the input reads as it did. -/
def schedWholeSpec : ChangeSpec := { name := "schedWhole", fn := fun _ => fun
  | [d1, d2] => { results := [.lit (.bool true)], args := [d1, d2] }
  | _ => none }
def schedWholeRow : OpenClaim := { program := "ytalknmdbamlabaagreat", sum := "ea7737b45f71259ba9acaf5aad6651468f8bd7b7876ef283d8d3917b243d3272", func := "argosy/argosylaw17.SchedWhole", spec := "schedWhole", inPlace := ["slices.overlaps[argosy/btree.item[string, argosy/api.Record]]", "slices.overlaps[*argosy/btree.node[string, argosy/api.Record]]"], unfollowed := true, recurses := true, plainKeys := false, apart := false }
def SchedWholeSaid : Prop := schedWholeRow.holds Tryz.pinned (OpenSpec.ofChange schedWholeSpec)

/-- ITS FALSE NEIGHBOUR: 'it returns false'. Refute it at one input. -/
def schedWholeWrong : ChangeSpec := { name := "schedWhole", fn := fun _ => fun
  | [d1, d2] => { results := [.lit (.bool false)], args := [d1, d2] }
  | _ => none }
def SchedWholeWrongFalsely : Prop := schedWholeRow.holds Tryz.pinned (OpenSpec.ofChange schedWholeWrong)

/-- 'argosylaw21.FrontTells': WHATEVER THE INPUT: true; the input reads as it did. -/
def frontTellsSpec : ChangeSpec := { name := "frontTells", fn := fun _ => fun
  | [d1, d2] => { results := [.lit (.bool true)], args := [d1, d2] }
  | _ => none }
def frontTellsRow : OpenClaim := { program := "ytalknmdbamlabaagreat", sum := "ea7737b45f71259ba9acaf5aad6651468f8bd7b7876ef283d8d3917b243d3272", func := "argosy/argosylaw21.FrontTells", spec := "frontTells", inPlace := ["slices.overlaps[argosy/btree.item[string, argosy/api.Record]]", "slices.overlaps[*argosy/btree.node[string, argosy/api.Record]]"], unfollowed := true, recurses := true, plainKeys := false, apart := false }
def FrontTellsSaid : Prop := frontTellsRow.holds Tryz.pinned (OpenSpec.ofChange frontTellsSpec)

/-- ITS FALSE NEIGHBOUR: 'it returns false'. Refute it at one input. -/
def frontTellsWrong : ChangeSpec := { name := "frontTells", fn := fun _ => fun
  | [d1, d2] => { results := [.lit (.bool false)], args := [d1, d2] }
  | _ => none }
def FrontTellsWrongFalsely : Prop := frontTellsRow.holds Tryz.pinned (OpenSpec.ofChange frontTellsWrong)

/-- 'argosylaw17.SchedSerial': WHATEVER THE INPUT: true; the input reads as it did. -/
def schedSerialSpec : ChangeSpec := { name := "schedSerial", fn := fun _ => fun
  | [d1, d2] => { results := [.lit (.bool true)], args := [d1, d2] }
  | _ => none }
def schedSerialRow : OpenClaim := { program := "ytalknmdbamlabaagreat", sum := "ea7737b45f71259ba9acaf5aad6651468f8bd7b7876ef283d8d3917b243d3272", func := "argosy/argosylaw17.SchedSerial", spec := "schedSerial", inPlace := ["slices.overlaps[argosy/btree.item[string, argosy/api.Record]]", "slices.overlaps[*argosy/btree.node[string, argosy/api.Record]]"], unfollowed := true, recurses := true, plainKeys := false, apart := false }
def SchedSerialSaid : Prop := schedSerialRow.holds Tryz.pinned (OpenSpec.ofChange schedSerialSpec)

/-- ITS FALSE NEIGHBOUR: 'it returns false'. Refute it at one input. -/
def schedSerialWrong : ChangeSpec := { name := "schedSerial", fn := fun _ => fun
  | [d1, d2] => { results := [.lit (.bool false)], args := [d1, d2] }
  | _ => none }
def SchedSerialWrongFalsely : Prop := schedSerialRow.holds Tryz.pinned (OpenSpec.ofChange schedSerialWrong)

/-- 'argosylaw21.FrontPlays': WHATEVER THE INPUT: true; the input reads as it did. -/
def frontPlaysSpec : ChangeSpec := { name := "frontPlays", fn := fun _ => fun
  | [d1, d2] => { results := [.lit (.bool true)], args := [d1, d2] }
  | _ => none }
def frontPlaysRow : OpenClaim := { program := "ytalknmdbamlabaagreat", sum := "ea7737b45f71259ba9acaf5aad6651468f8bd7b7876ef283d8d3917b243d3272", func := "argosy/argosylaw21.FrontPlays", spec := "frontPlays", inPlace := ["slices.overlaps[argosy/btree.item[string, argosy/api.Record]]", "slices.overlaps[*argosy/btree.node[string, argosy/api.Record]]"], unfollowed := true, recurses := true, plainKeys := false, apart := false }
def FrontPlaysSaid : Prop := frontPlaysRow.holds Tryz.pinned (OpenSpec.ofChange frontPlaysSpec)

/-- ITS FALSE NEIGHBOUR: 'it returns false'. Refute it at one input. -/
def frontPlaysWrong : ChangeSpec := { name := "frontPlays", fn := fun _ => fun
  | [d1, d2] => { results := [.lit (.bool false)], args := [d1, d2] }
  | _ => none }
def FrontPlaysWrongFalsely : Prop := frontPlaysRow.holds Tryz.pinned (OpenSpec.ofChange frontPlaysWrong)

/-- 'argosylaw17.SchedTwice': WHATEVER THE INPUT: true; the input reads as it did. -/
def schedTwiceSpec : ChangeSpec := { name := "schedTwice", fn := fun _ => fun
  | [d1, d2] => { results := [.lit (.bool true)], args := [d1, d2] }
  | _ => none }
def schedTwiceRow : OpenClaim := { program := "ytalknmdbamlabaagreat", sum := "ea7737b45f71259ba9acaf5aad6651468f8bd7b7876ef283d8d3917b243d3272", func := "argosy/argosylaw17.SchedTwice", spec := "schedTwice", inPlace := ["slices.overlaps[argosy/btree.item[string, argosy/api.Record]]", "slices.overlaps[*argosy/btree.node[string, argosy/api.Record]]"], unfollowed := true, recurses := true, plainKeys := false, apart := false }
def SchedTwiceSaid : Prop := schedTwiceRow.holds Tryz.pinned (OpenSpec.ofChange schedTwiceSpec)

/-- ITS FALSE NEIGHBOUR: 'it returns false'. Refute it at one input. -/
def schedTwiceWrong : ChangeSpec := { name := "schedTwice", fn := fun _ => fun
  | [d1, d2] => { results := [.lit (.bool false)], args := [d1, d2] }
  | _ => none }
def SchedTwiceWrongFalsely : Prop := schedTwiceRow.holds Tryz.pinned (OpenSpec.ofChange schedTwiceWrong)

/-- 'argosylaw17.SchedPlays': WHATEVER THE INPUT: true; the input reads as it did. -/
def schedPlaysSpec : ChangeSpec := { name := "schedPlays", fn := fun _ => fun
  | [d1, d2] => { results := [.lit (.bool true)], args := [d1, d2] }
  | _ => none }
def schedPlaysRow : OpenClaim := { program := "ytalknmdbamlabaagreat", sum := "ea7737b45f71259ba9acaf5aad6651468f8bd7b7876ef283d8d3917b243d3272", func := "argosy/argosylaw17.SchedPlays", spec := "schedPlays", inPlace := ["slices.overlaps[argosy/btree.item[string, argosy/api.Record]]", "slices.overlaps[*argosy/btree.node[string, argosy/api.Record]]"], unfollowed := true, recurses := true, plainKeys := false, apart := false }
def SchedPlaysSaid : Prop := schedPlaysRow.holds Tryz.pinned (OpenSpec.ofChange schedPlaysSpec)

/-- ITS FALSE NEIGHBOUR: 'it returns false'. Refute it at one input. -/
def schedPlaysWrong : ChangeSpec := { name := "schedPlays", fn := fun _ => fun
  | [d1, d2] => { results := [.lit (.bool false)], args := [d1, d2] }
  | _ => none }
def SchedPlaysWrongFalsely : Prop := schedPlaysRow.holds Tryz.pinned (OpenSpec.ofChange schedPlaysWrong)

/-- 'argosylaw17.SchedRestores': WHATEVER THE INPUT: true; the input reads as it did. -/
def schedRestoresSpec : ChangeSpec := { name := "schedRestores", fn := fun _ => fun
  | [d1, d2, d3] => { results := [.lit (.bool true)], args := [d1, d2, d3] }
  | _ => none }
def schedRestoresRow : OpenClaim := { program := "ytalknmdbamlabaagreat", sum := "ea7737b45f71259ba9acaf5aad6651468f8bd7b7876ef283d8d3917b243d3272", func := "argosy/argosylaw17.SchedRestores", spec := "schedRestores", inPlace := ["slices.overlaps[argosy/btree.item[string, argosy/api.Record]]", "slices.overlaps[*argosy/btree.node[string, argosy/api.Record]]"], unfollowed := true, recurses := true, plainKeys := false, apart := false }
def SchedRestoresSaid : Prop := schedRestoresRow.holds Tryz.pinned (OpenSpec.ofChange schedRestoresSpec)

/-- ITS FALSE NEIGHBOUR: 'it returns false'. Refute it at one input. -/
def schedRestoresWrong : ChangeSpec := { name := "schedRestores", fn := fun _ => fun
  | [d1, d2, d3] => { results := [.lit (.bool false)], args := [d1, d2, d3] }
  | _ => none }
def SchedRestoresWrongFalsely : Prop := schedRestoresRow.holds Tryz.pinned (OpenSpec.ofChange schedRestoresWrong)

/-- 'argosylaw17.SchedGoesOn': WHATEVER THE INPUT: true; the input reads as it did. -/
def schedGoesOnSpec : ChangeSpec := { name := "schedGoesOn", fn := fun _ => fun
  | [d1, d2, d3] => { results := [.lit (.bool true)], args := [d1, d2, d3] }
  | _ => none }
def schedGoesOnRow : OpenClaim := { program := "ytalknmdbamlabaagreat", sum := "ea7737b45f71259ba9acaf5aad6651468f8bd7b7876ef283d8d3917b243d3272", func := "argosy/argosylaw17.SchedGoesOn", spec := "schedGoesOn", inPlace := ["slices.overlaps[argosy/btree.item[string, argosy/api.Record]]", "slices.overlaps[*argosy/btree.node[string, argosy/api.Record]]"], unfollowed := true, recurses := true, plainKeys := false, apart := false }
def SchedGoesOnSaid : Prop := schedGoesOnRow.holds Tryz.pinned (OpenSpec.ofChange schedGoesOnSpec)

/-- ITS FALSE NEIGHBOUR: 'it returns false'. Refute it at one input. -/
def schedGoesOnWrong : ChangeSpec := { name := "schedGoesOn", fn := fun _ => fun
  | [d1, d2, d3] => { results := [.lit (.bool false)], args := [d1, d2, d3] }
  | _ => none }
def SchedGoesOnWrongFalsely : Prop := schedGoesOnRow.holds Tryz.pinned (OpenSpec.ofChange schedGoesOnWrong)

/- THE SECOND FORM. 'bulk': how many values and letters a reading holds, each counted each time it is reached (what is shared counts as often as it is met; a slice's spare places count too). A statement '..UptoSaid' is the law's where the arguments, and the package variables that the reading takes, are together of bulk at most 1048576: NARROWER than '..Said'. Prove '..Said' where nothing that the law and all that it calls make is longer than what came in: it says more and counts as full. Else prove '..UptoSaid'. A law counts once. -/
mutual
def uptoBulk {H : Type} : DataW H → Nat
  | .lit (.string bytes) => bytes.length + 1
  | .lit _ => 1
  | .nil => 1
  | .ptr d => uptoBulk d + 1
  | .slice elems spare => uptoBulkAll elems + uptoBulkAll spare + 1
  | .agg parts => uptoBulkAll parts + 1
  | .iface _ d => uptoBulk d + 1
  | .map entries => uptoBulkEntries entries + 1
  | .held _ => 1
def uptoBulkAll {H : Type} : List (DataW H) → Nat
  | [] => 0
  | d :: r => uptoBulk d + uptoBulkAll r
def uptoBulkEntries {H : Type} : List (Lit × DataW H) → Nat
  | [] => 0
  | x :: r => uptoBulkEntry x + uptoBulkEntries r
def uptoBulkEntry {H : Type} : Lit × DataW H → Nat
  | (.string bytes, d) => bytes.length + uptoBulk d + 1
  | (_, d) => uptoBulk d + 1
 end
def uptoSmall : (H : Type) → List (DataW H) → Bool := fun _ ds => decide (uptoBulkAll ds ≤ 1048576)
def OpenSpec.upto (s : _root_.Go.ChangeSpec) : _root_.Go.OpenSpec := { _root_.Go.OpenSpec.ofChange s with cond := some uptoSmall }

/-- 'argosylaw16.LocksLeave', WHERE WHAT IT READS IS OF BULK AT MOST 1048576: true; the input reads as it did. -/
def locksLeaveUptoRow : OpenClaim := { program := "ytalknmdbamlabaagreat", sum := "ea7737b45f71259ba9acaf5aad6651468f8bd7b7876ef283d8d3917b243d3272", func := "argosy/argosylaw16.LocksLeave", spec := "locksLeave", inPlace := ["slices.overlaps[argosy/btree.item[string, argosy/api.Record]]", "slices.overlaps[*argosy/btree.node[string, argosy/api.Record]]"], unfollowed := true, recurses := true, plainKeys := false, apart := false, narrowed := true }
def LocksLeaveUptoSaid : Prop := locksLeaveUptoRow.holds Tryz.pinned (OpenSpec.upto locksLeaveSpec)

/-- 'argosylaw07.EvalRuns', WHERE WHAT IT READS IS OF BULK AT MOST 1048576: true; the input reads as it did. -/
def evalRunsUptoRow : OpenClaim := { program := "ytalknmdbamlabaagreat", sum := "ea7737b45f71259ba9acaf5aad6651468f8bd7b7876ef283d8d3917b243d3272", func := "argosy/argosylaw07.EvalRuns", spec := "evalRuns", inPlace := ["slices.overlaps[argosy/btree.item[string, argosy/api.Record]]", "slices.overlaps[*argosy/btree.node[string, argosy/api.Record]]"], unfollowed := true, recurses := true, plainKeys := false, apart := false, narrowed := true }
def EvalRunsUptoSaid : Prop := evalRunsUptoRow.holds Tryz.pinned (OpenSpec.upto evalRunsSpec)

/-- 'argosylaw07.EvalPlays', WHERE WHAT IT READS IS OF BULK AT MOST 1048576: true; the input reads as it did. -/
def evalPlaysUptoRow : OpenClaim := { program := "ytalknmdbamlabaagreat", sum := "ea7737b45f71259ba9acaf5aad6651468f8bd7b7876ef283d8d3917b243d3272", func := "argosy/argosylaw07.EvalPlays", spec := "evalPlays", inPlace := ["slices.overlaps[argosy/btree.item[string, argosy/api.Record]]", "slices.overlaps[*argosy/btree.node[string, argosy/api.Record]]"], unfollowed := true, recurses := true, plainKeys := false, apart := false, narrowed := true }
def EvalPlaysUptoSaid : Prop := evalPlaysUptoRow.holds Tryz.pinned (OpenSpec.upto evalPlaysSpec)

/-- 'argosylaw22.DurableStates', WHERE WHAT IT READS IS OF BULK AT MOST 1048576: true; the input reads as it did. -/
def durableStatesUptoRow : OpenClaim := { program := "ytalknmdbamlabaagreat", sum := "ea7737b45f71259ba9acaf5aad6651468f8bd7b7876ef283d8d3917b243d3272", func := "argosy/argosylaw22.DurableStates", spec := "durableStates", inPlace := ["slices.overlaps[argosy/btree.item[int, argosy/api.Vote[string]]]", "slices.overlaps[*argosy/btree.node[int, argosy/api.Vote[string]]]"], unfollowed := true, recurses := true, plainKeys := false, apart := false, narrowed := true }
def DurableStatesUptoSaid : Prop := durableStatesUptoRow.holds Tryz.pinned (OpenSpec.upto durableStatesSpec)

/-- 'argosylaw22.DurableLives', WHERE WHAT IT READS IS OF BULK AT MOST 1048576: true; the input reads as it did. -/
def durableLivesUptoRow : OpenClaim := { program := "ytalknmdbamlabaagreat", sum := "ea7737b45f71259ba9acaf5aad6651468f8bd7b7876ef283d8d3917b243d3272", func := "argosy/argosylaw22.DurableLives", spec := "durableLives", inPlace := ["slices.overlaps[argosy/btree.item[int, argosy/api.Vote[string]]]", "slices.overlaps[*argosy/btree.node[int, argosy/api.Vote[string]]]"], unfollowed := true, recurses := true, plainKeys := false, apart := false, narrowed := true }
def DurableLivesUptoSaid : Prop := durableLivesUptoRow.holds Tryz.pinned (OpenSpec.upto durableLivesSpec)

/-- 'argosylaw22.DurablePlays', WHERE WHAT IT READS IS OF BULK AT MOST 1048576: true; the input reads as it did. -/
def durablePlaysUptoRow : OpenClaim := { program := "ytalknmdbamlabaagreat", sum := "ea7737b45f71259ba9acaf5aad6651468f8bd7b7876ef283d8d3917b243d3272", func := "argosy/argosylaw22.DurablePlays", spec := "durablePlays", inPlace := ["slices.overlaps[argosy/btree.item[int, argosy/api.Vote[string]]]", "slices.overlaps[*argosy/btree.node[int, argosy/api.Vote[string]]]"], unfollowed := true, recurses := true, plainKeys := false, apart := false, narrowed := true }
def DurablePlaysUptoSaid : Prop := durablePlaysUptoRow.holds Tryz.pinned (OpenSpec.upto durablePlaysSpec)

/-- 'argosylaw17.SchedWhole', WHERE WHAT IT READS IS OF BULK AT MOST 1048576: true; the input reads as it did. -/
def schedWholeUptoRow : OpenClaim := { program := "ytalknmdbamlabaagreat", sum := "ea7737b45f71259ba9acaf5aad6651468f8bd7b7876ef283d8d3917b243d3272", func := "argosy/argosylaw17.SchedWhole", spec := "schedWhole", inPlace := ["slices.overlaps[argosy/btree.item[string, argosy/api.Record]]", "slices.overlaps[*argosy/btree.node[string, argosy/api.Record]]"], unfollowed := true, recurses := true, plainKeys := false, apart := false, narrowed := true }
def SchedWholeUptoSaid : Prop := schedWholeUptoRow.holds Tryz.pinned (OpenSpec.upto schedWholeSpec)

/-- 'argosylaw21.FrontTells', WHERE WHAT IT READS IS OF BULK AT MOST 1048576: true; the input reads as it did. -/
def frontTellsUptoRow : OpenClaim := { program := "ytalknmdbamlabaagreat", sum := "ea7737b45f71259ba9acaf5aad6651468f8bd7b7876ef283d8d3917b243d3272", func := "argosy/argosylaw21.FrontTells", spec := "frontTells", inPlace := ["slices.overlaps[argosy/btree.item[string, argosy/api.Record]]", "slices.overlaps[*argosy/btree.node[string, argosy/api.Record]]"], unfollowed := true, recurses := true, plainKeys := false, apart := false, narrowed := true }
def FrontTellsUptoSaid : Prop := frontTellsUptoRow.holds Tryz.pinned (OpenSpec.upto frontTellsSpec)

/-- 'argosylaw17.SchedSerial', WHERE WHAT IT READS IS OF BULK AT MOST 1048576: true; the input reads as it did. -/
def schedSerialUptoRow : OpenClaim := { program := "ytalknmdbamlabaagreat", sum := "ea7737b45f71259ba9acaf5aad6651468f8bd7b7876ef283d8d3917b243d3272", func := "argosy/argosylaw17.SchedSerial", spec := "schedSerial", inPlace := ["slices.overlaps[argosy/btree.item[string, argosy/api.Record]]", "slices.overlaps[*argosy/btree.node[string, argosy/api.Record]]"], unfollowed := true, recurses := true, plainKeys := false, apart := false, narrowed := true }
def SchedSerialUptoSaid : Prop := schedSerialUptoRow.holds Tryz.pinned (OpenSpec.upto schedSerialSpec)

/-- 'argosylaw21.FrontPlays', WHERE WHAT IT READS IS OF BULK AT MOST 1048576: true; the input reads as it did. -/
def frontPlaysUptoRow : OpenClaim := { program := "ytalknmdbamlabaagreat", sum := "ea7737b45f71259ba9acaf5aad6651468f8bd7b7876ef283d8d3917b243d3272", func := "argosy/argosylaw21.FrontPlays", spec := "frontPlays", inPlace := ["slices.overlaps[argosy/btree.item[string, argosy/api.Record]]", "slices.overlaps[*argosy/btree.node[string, argosy/api.Record]]"], unfollowed := true, recurses := true, plainKeys := false, apart := false, narrowed := true }
def FrontPlaysUptoSaid : Prop := frontPlaysUptoRow.holds Tryz.pinned (OpenSpec.upto frontPlaysSpec)

/-- 'argosylaw17.SchedTwice', WHERE WHAT IT READS IS OF BULK AT MOST 1048576: true; the input reads as it did. -/
def schedTwiceUptoRow : OpenClaim := { program := "ytalknmdbamlabaagreat", sum := "ea7737b45f71259ba9acaf5aad6651468f8bd7b7876ef283d8d3917b243d3272", func := "argosy/argosylaw17.SchedTwice", spec := "schedTwice", inPlace := ["slices.overlaps[argosy/btree.item[string, argosy/api.Record]]", "slices.overlaps[*argosy/btree.node[string, argosy/api.Record]]"], unfollowed := true, recurses := true, plainKeys := false, apart := false, narrowed := true }
def SchedTwiceUptoSaid : Prop := schedTwiceUptoRow.holds Tryz.pinned (OpenSpec.upto schedTwiceSpec)

/-- 'argosylaw17.SchedPlays', WHERE WHAT IT READS IS OF BULK AT MOST 1048576: true; the input reads as it did. -/
def schedPlaysUptoRow : OpenClaim := { program := "ytalknmdbamlabaagreat", sum := "ea7737b45f71259ba9acaf5aad6651468f8bd7b7876ef283d8d3917b243d3272", func := "argosy/argosylaw17.SchedPlays", spec := "schedPlays", inPlace := ["slices.overlaps[argosy/btree.item[string, argosy/api.Record]]", "slices.overlaps[*argosy/btree.node[string, argosy/api.Record]]"], unfollowed := true, recurses := true, plainKeys := false, apart := false, narrowed := true }
def SchedPlaysUptoSaid : Prop := schedPlaysUptoRow.holds Tryz.pinned (OpenSpec.upto schedPlaysSpec)

/-- 'argosylaw17.SchedRestores', WHERE WHAT IT READS IS OF BULK AT MOST 1048576: true; the input reads as it did. -/
def schedRestoresUptoRow : OpenClaim := { program := "ytalknmdbamlabaagreat", sum := "ea7737b45f71259ba9acaf5aad6651468f8bd7b7876ef283d8d3917b243d3272", func := "argosy/argosylaw17.SchedRestores", spec := "schedRestores", inPlace := ["slices.overlaps[argosy/btree.item[string, argosy/api.Record]]", "slices.overlaps[*argosy/btree.node[string, argosy/api.Record]]"], unfollowed := true, recurses := true, plainKeys := false, apart := false, narrowed := true }
def SchedRestoresUptoSaid : Prop := schedRestoresUptoRow.holds Tryz.pinned (OpenSpec.upto schedRestoresSpec)

/-- 'argosylaw17.SchedGoesOn', WHERE WHAT IT READS IS OF BULK AT MOST 1048576: true; the input reads as it did. -/
def schedGoesOnUptoRow : OpenClaim := { program := "ytalknmdbamlabaagreat", sum := "ea7737b45f71259ba9acaf5aad6651468f8bd7b7876ef283d8d3917b243d3272", func := "argosy/argosylaw17.SchedGoesOn", spec := "schedGoesOn", inPlace := ["slices.overlaps[argosy/btree.item[string, argosy/api.Record]]", "slices.overlaps[*argosy/btree.node[string, argosy/api.Record]]"], unfollowed := true, recurses := true, plainKeys := false, apart := false, narrowed := true }
def SchedGoesOnUptoSaid : Prop := schedGoesOnUptoRow.holds Tryz.pinned (OpenSpec.upto schedGoesOnSpec)

end Rows
end Go.Proofs.YtalknmdbamlabaaGreat
