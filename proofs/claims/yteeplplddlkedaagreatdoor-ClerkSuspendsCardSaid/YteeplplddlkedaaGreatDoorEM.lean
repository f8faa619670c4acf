/- ClerkSuspends answers true, whatever the two numbers: a job that is suspended, or not there, begins nothing: the tied card. No condition. -/
import Derived.Test.YteeplplddlkedaaGreatDoorEK
import Derived.Test.YteeplplddlkedaaGreatDoorEL
import Derived.ProofKit
import Derived.SevenTiedAt
namespace Go.Proofs.YteeplplddlkedaaGreatDoor
open Go
set_option maxRecDepth 100000
theorem clerkSuspends_holds : Rows.ClerkSuspendsSaid :=
  OpenClaim.holds_of_wide 3 Tryz.f3 rfl rfl rfl rfl rfl rfl rfl ⟨rfl, rfl, rfl, rfl, rfl⟩ rfl rfl rfl rfl rfl (by kernel_rfl) Tryz.func3 closed
    (of_decide_eq_true (by kernel_rfl)) (by unfold Func.isWrapper; first | (rw [if_pos (by decide +kernel)]; kernel_rfl) | (rw [if_neg (by decide +kernel)]; exact ⟨rfl, rfl⟩))
    (fun os started H enc _ => lifted os started H enc)
theorem clerkSuspends_goes : false = Rows.clerkSuspendsRow.goesBy Tryz.pinned.checked.prog := by kernel_rfl
theorem clerkSuspends_looks : true = Tryz.pinned.checked.prog.looks [] := by kernel_rfl
theorem clerkSuspends_main : Tryz.pinned.checked.prog.mainIs = some (true, "ac904b0c7b61bb264d54230c79cbf427384793277e59759ee4f58072b924ad39".toList) := by kernel_rfl
theorem clerkSuspends_wf : Rows.clerkSuspendsRow.wfByText (OpenSpec.ofChange Rows.clerkSuspendsSpec) = true := by kernel_rfl
theorem clerkSuspends_named : Tryz.prog.funcNamed "horologe/horologelaw19.ClerkSuspends" = some 3 := by kernel_rfl
theorem clerkSuspends_stand : ([3, 3].all fun u => !Tryz.prog.wantsStandIn u) = true := by kernel_rfl
theorem clerkSuspends_card : Rows.ClerkSuspendsCardSaid :=
  Claim7.holds_tied_plain_at .later [] [.data, .data, .data, .data, .pinned] true (true, "ac904b0c7b61bb264d54230c79cbf427384793277e59759ee4f58072b924ad39") true
    clerkSuspends_holds (fun _ h => by cases h) clerkSuspends_wf (fun _ h => by cases h) clerkSuspends_row_tie rfl ⟨rfl, rfl⟩ clerkSuspends_main rfl
    (fun f fn hf hfn => by
      obtain rfl : f = 3 := Option.some.inj (clerkSuspends_named.symm.trans hf) |>.symm
      obtain rfl : fn = Tryz.f3 := (Option.some.inj (Tryz.func3.symm.trans hfn)).symm
      exact ⟨clerkSuspends_looks, fun j t ht => by
        rw [Tryz.params3] at ht
        have hm : t ∈ [3, 3] := by simpa using Array.mem_of_getElem? ht
        exact (show Tryz.prog.wantsStandIn t = false by simpa using List.all_eq_true.1 clerkSuspends_stand t hm)⟩)
    clerkSuspends_goes
#print axioms clerkSuspends_card
end Go.Proofs.YteeplplddlkedaaGreatDoor
