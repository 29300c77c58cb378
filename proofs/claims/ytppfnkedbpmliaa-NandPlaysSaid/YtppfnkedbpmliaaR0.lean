/- A closed fact of the loaded program: its regions may go in every order that their edges let. -/
import Derived.Test.YtppfnkedbpmliaaExC
import Derived.Test.YtppfnkedbpmliaaProg
namespace Go.Proofs.Ytppfnkedbpmliaa
theorem mixed : Try.prog.follows .mixedOrders = true := by kernel_rfl
end Go.Proofs.Ytppfnkedbpmliaa
