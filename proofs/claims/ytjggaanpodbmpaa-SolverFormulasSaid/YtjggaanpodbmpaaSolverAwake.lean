/- The example of the statements of the solver: it runs, and says yes. -/
import Derived.Test.YtjggaanpodbmpaaTy
namespace Go.Ai
open Go.Proofs
theorem awake_run : saysTrue (runA Try.prog (fun _ => none) 100 (.fn 12) [] hZ) = true := by kernel_rfl
theorem awake (h : AH) (wf : h.WF) : Calling Try.prog (.fn 12) [] h (.bool true, h) := awake_ok prog_ok awake_run h wf
end Go.Ai
