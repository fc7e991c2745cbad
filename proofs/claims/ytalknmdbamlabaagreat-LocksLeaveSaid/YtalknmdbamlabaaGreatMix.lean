/- The program follows the mixed orders. Conditions: none. -/
import Derived.Test.YtalknmdbamlabaaGreatBase
import Derived.Test.YtalknmdbamlabaaGreatProg
namespace Go.Proofs.YtalknmdbamlabaaGreat.Q
open Go
theorem mixed : Tryz.prog.follows .mixedOrders = true := by kernel_rfl
end Go.Proofs.YtalknmdbamlabaaGreat.Q
