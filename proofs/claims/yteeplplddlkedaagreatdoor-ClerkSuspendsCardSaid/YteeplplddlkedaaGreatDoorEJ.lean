/- ClerkSuspends answers true, whatever the two numbers: a job that is suspended, or not there, begins nothing. Conditions: the five listed tables read as they are laid by the program's text (the card ties them). -/
import Derived.Test.YteeplplddlkedaaGreatDoorRows
import Derived.Test.YteeplplddlkedaaGreatDoorCards
import Derived.Test.YteeplplddlkedaaGreatDoorTie
import Derived.Test.YteeplplddlkedaaGreatDoorEH
import Derived.Test.YteeplplddlkedaaGreatDoorEI
import Derived.ProofKit
import Derived.LaidMore
import Derived.OpenShut
import Derived.Lay
import Derived.Lib.LaidU8
import Derived.Stop.Joined
import Derived.SevenTiedAt
namespace Go.Proofs.YteeplplddlkedaaGreatDoor
open Go.ChangeShapes Go.WideShapes Go.ChangeAt Go.RowKit Go.Lib Eng
set_option maxRecDepth 100000

theorem own : ownKnob Tryz.prog.godebug = none := by kernel_rfl
theorem tabIs_of_reads {P : Program} {W : World} {name : String} {k : IntKind} {zs : List Int} {g : Nat} {t e : TypeId} {n : Nat}
    (hg : P.globalNamed name = some g) (hty : (P.globals[g]?).map (·.type) = some t) (ht : P.underlying t = some (.array n e)) (he : P.underlying e = some (.int k)) (hce : P.cellsOf e = 1) (hct : P.cellsOf t = n)
    (h : VarReads P W name (tabData k zs)) : TabIs P W name k zs := by
  obtain ⟨g', t', cs, fuel, p, hg', ht', hvar, hd⟩ := h
  obtain rfl := Option.some.inj (hg.symm.trans hg')
  obtain rfl := Option.some.inj (hty.symm.trans ht')
  unfold TabIs
  rw [hvar, ← cells_of_tab ht he hce hct hd]
theorem reads_lt {P : Program} {W : World} {name : String} {d : DataW Unit} {g : Nat} (hg : P.globalNamed name = some g) (h : VarReads P W name d) : g < W.heap.size := by
  obtain ⟨g', t', cs, fuel, p, hg', ht', hvar, hd⟩ := h
  unfold World.var? at hvar
  rw [hg] at hvar
  simp only [Option.bind_some] at hvar
  split at hvar
  · rename_i hc; exact (Array.getElem?_eq_some_iff.1 hc).1
  · cases hvar

/-- What the listed tables give the run. -/
theorem of_laid {W : World} (h : laidMetH Tryz.prog Rows.clerkSuspendsRow.laid W) : 6 ≤ W.heap.size ∧ TabIs Tryz.prog W "math/bits.deBruijn64tab" .u8 tabA ∧ TabIs Tryz.prog W "internal/strconv.uint64pow10" .u64 pow10Tab := by
  rw [MakeChecks.laidMetH_plain _ _ _ (by kernel_rfl)] at h
  have r5 : VarReads Tryz.prog W "math/bits.deBruijn32tab" Rows.laid_math_bits_deBruijn32tab := laidMet.reads h (.head _)
  have r3 : VarReads Tryz.prog W "math/bits.deBruijn64tab" (tabData .u8 tabA) := laidMet.reads h (.tail _ (.head _))
  have r4 : VarReads Tryz.prog W "internal/strconv.uint64pow10" (tabData .u64 pow10Tab) := laidMet.reads h (.tail _ (.tail _ (.head _)))
  refine ⟨reads_lt (g := 5) (by kernel_rfl) r5, ?_, ?_⟩
  · exact tabIs_of_reads (g := 3) (t := 411) (e := 5) (n := 64) (by kernel_rfl) (by kernel_rfl) (by kernel_rfl) (by kernel_rfl) (by kernel_rfl) (by kernel_rfl) r3
  · exact tabIs_of_reads (g := 4) (t := 414) (e := 133) (n := 20) (by kernel_rfl) (by kernel_rfl) (by kernel_rfl) (by kernel_rfl) (by kernel_rfl) (by kernel_rfl) r4

theorem ran {W : World} (h : laidMetH Tryz.prog Rows.clerkSuspendsRow.laid W) (a m : Int) : Calls Tryz.prog 3 #[.int .i64 a, .int .i64 m] W fun e w => e = .returned (.bool true) ∧ Below W.heap.size W w := by
  obtain ⟨h6, t3, t4⟩ := of_laid h
  have hf : FnOK Tryz.prog 3 Tryz.f3 := ⟨Tryz.func3, by decide +kernel⟩
  have hro : ∀ b : Bool, ∀ i f, (symC a m b).ro i = some f → i < 6 ∧ RoAt (symC a m b) (phi0 6) f ⟨i, 0, 0⟩ W.heap := by
    intro b i f hi
    rcases ro_lt hi with ⟨rfl, rfl⟩ | ⟨rfl, rfl⟩
    · exact ⟨by omega, ro_of_tab (g := 3) (by kernel_rfl) ro3_get t3 _ rfl⟩
    · exact ⟨by omega, ro_of_tab (g := 4) (by kernel_rfl) ro4_get t4 _ rfl⟩
  have ha : ∀ b : Bool, VRL (symC a m b) (phi0 6) [.sym 0 0, .sym 4 0] [.int .i64 a, .int .i64 m] := by
    intro b
    refine VRL.cons ?_ (VRL.one ?_)
    · show Value.int .i64 a = .int .i64 (a + 0)
      rw [Int.add_zero]
    · show Value.int .i64 m = .int .i64 (m + 0)
      rw [Int.add_zero]
  by_cases h0 : m % 1000 = 0
  · exact run_true (x := cx false) (S := symC a m false) (cxOK (fun h => by cases h) (fun _ => h0)) hf clerkF (ha false) h6 (hro false)
  · exact run_true (x := cx true) (S := symC a m true) (cxOK (fun _ => by omega) (fun h => by cases h)) hf clerkT (ha true) h6 (hro true)

end Go.Proofs.YteeplplddlkedaaGreatDoor
