/- The closed facts of ClerkSuspends's row, one by one. No condition. -/
import Derived.Test.YteeplplddlkedaaGreatDoorRows
import Derived.JoinedOf
import Derived.KernelRfl
namespace Go.Proofs.YteeplplddlkedaaGreatDoor
open Go
set_option maxRecDepth 100000
theorem j1 : (Rows.clerkSuspendsRow.inPlace == Tryz.pinned.checked.prog.inPlace 3) = true := by kernel_rfl
theorem j2 : (Rows.clerkSuspendsRow.unfollowed == Tryz.pinned.checked.prog.unfollowed 3) = true := by kernel_rfl
theorem j3 : (Rows.clerkSuspendsRow.recurses == Tryz.pinned.checked.prog.recurses 3) = true := by kernel_rfl
theorem j4 : (Rows.clerkSuspendsRow.named == Tryz.pinned.checked.prog.varsNamed 3) = true := by kernel_rfl
theorem j5 : laidOutB Tryz.pinned.checked.prog = true := by kernel_rfl
theorem j6 : mapsRowed Tryz.pinned.checked.prog = true := by kernel_rfl
theorem closed : joinedFacts Tryz.pinned.checked.prog 3 Tryz.f3 Rows.clerkSuspendsSpec Rows.clerkSuspendsRow = true := by
  unfold joinedFacts
  rw [j1, j2, j3, j4, j5, j6]
  kernel_rfl
end Go.Proofs.YteeplplddlkedaaGreatDoor
