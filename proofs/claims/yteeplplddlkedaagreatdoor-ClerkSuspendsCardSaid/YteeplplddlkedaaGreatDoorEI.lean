/- The second run of ClerkSuspends by the kernel: no minutes go by. No condition. -/
import Derived.Test.YteeplplddlkedaaGreatDoorEG
namespace Eng
open Go Go.Proofs
set_option maxRecDepth 100000
theorem clerkF : isT (enter (cx false) (callN (cx false) 200) Tryz.f3 [.sym 0 0, .sym 4 0] ⟨(cx false).sy.ng, .nil⟩) = true := by decide +kernel
end Eng
