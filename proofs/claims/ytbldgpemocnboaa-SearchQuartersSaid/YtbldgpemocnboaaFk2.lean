/- A fact on the whole program, by itself: together they outgrow one Lean's memory. -/
import Derived.Test.YtbldgpemocnboaaRows
import Derived.JoinedOf
import Derived.KernelRfl
namespace Go.Proofs.Ytbldgpemocnboaa
open Go
theorem liftsT : (Rows.planeDrawsRow.lifted == Try.prog.liftsFinal) = true := by kernel_rfl
end Go.Proofs.Ytbldgpemocnboaa
