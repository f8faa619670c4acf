/- The two runs of ClerkSuspends by the kernel: with minutes, and with none. No condition. -/
import Derived.Test.YteeplplddlkedaaGreatDoorEG
namespace Eng
open Go Go.Proofs
set_option maxRecDepth 100000
theorem clerkT : isT (enter (cx true) (callN (cx true) 200) Tryz.f3 [.sym 0 0, .sym 4 0] ⟨(cx true).sy.ng, .nil⟩) = true := by decide +kernel
end Eng
