/- Closed facts about the whole program. Conditions: none. -/
import Derived.Test.YtalknmdbamlabaaGreatRows
import Derived.JoinedOf
namespace Go.Proofs.YtalknmdbamlabaaGreat.Q
open Go
theorem a2 {a b : Bool} (h : a = true) (h' : b = true) : (a && b) = true := by rw [h, h']; rfl
theorem f_laid : laidOutB Tryz.prog = true := by kernel_rfl
theorem f_maps : mapsRowed Tryz.prog = true := by kernel_rfl
theorem f_plain : (Rows.locksLeaveRow.plainKeys == Tryz.prog.plainKeys) = true := by kernel_rfl
theorem f_stops : (Tryz.prog.stops == []) = true := by kernel_rfl
theorem f_knobs : (Tryz.prog.stopKnobs == []) = true := by kernel_rfl
theorem f_lifts : (Rows.locksLeaveRow.lifted == Tryz.prog.liftsFinal) = true := by kernel_rfl
theorem f_make : (Tryz.prog.make == some Rows.locksLeaveRow.make) = true := by kernel_rfl
theorem f_enter : Tryz.prog.mayEnter = true := by kernel_rfl
theorem f_heard : Tryz.prog.stopsHeard = true := by kernel_rfl
theorem own : ownKnob Tryz.prog.godebug = none := by kernel_rfl
end Go.Proofs.YtalknmdbamlabaaGreat.Q
