/- The program's form. (A help: no statement of the seat is proved here.) -/
import Derived.Test.YtgmlklaehklmoaaVxR
import Derived.Test.YtgmlklaehklmoaaChecked
import Derived.KernelRfl
set_option maxRecDepth 1000000
namespace Go.Vx
open Go Go.Vx Go.Proofs
theorem Base.mixed : Try.prog.follows .mixedOrders = true := by kernel_rfl
theorem Base.prog_ok : progOk Try.prog = true := by kernel_rfl
def book0 : Book := Book.none
theorem book0_ok : BookOk Try.prog book0 := BookOk.none _
end Go.Vx
