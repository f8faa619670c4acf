/- Walks, third part: a text's number by the program. -/
import Derived.Test.YteeplplddlkedaaGreatDoorEW2
import Derived.Lib.Strings
namespace Eng
open Go Go.RowKit Go.Lib Go.Proofs

set_option maxRecDepth 100000 in
theorem noPrefix_calls (s : ByteArray) (w : World) (h1 : 1 ≤ s.size) (h2 : s[0].toNat ≠ 45) :
    Calls Tryz.prog 228 #[.string s, .string ⟨#[45]⟩] w fun e w' => e = .returned (.bool false) ∧ w' = w := by
  have hne : ((s.extract 0 1).toList == [45]) = false := by
    rw [beq_eq_false_iff_ne, extract_toList]
    intro h
    have hl : 0 < s.data.toList.length := by simp; omega
    have e := congrArg (fun l => l[0]?) h
    simp only [List.drop_zero, Nat.sub_zero, List.getElem?_take, if_true, Nat.zero_lt_one, List.getElem?_eq_getElem hl, List.getElem?_cons_zero, Option.some.injEq] at e
    have e2 : s[0].toNat = 45 := by
      have : s.data.toList[0] = s[0] := rfl
      rw [← this, e]; rfl
    exact h2 e2
  clear h2
  go_enter Tryz.func228, Tryz.ntmps228
  go_wp2
  go_ret
  exact ⟨rfl, rfl⟩
set_option maxRecDepth 100000 in
theorem noTrim_calls (s : ByteArray) (w : World) (h1 : 1 ≤ s.size) (h2 : s[0].toNat ≠ 45) :
    Calls Tryz.prog 211 #[.string s, .string ⟨#[45]⟩] w fun e w' => e = .returned (.string s) ∧ w' = w := by
  have j := Lib.hid (fun w => noPrefix_calls s w h1 h2)
  clear h1 h2
  go_enter Tryz.func211, Tryz.ntmps211
  go_wp2_with (first | (go_at_call 228; ((with_reducible refine (j.out _).mono ?_); rintro e w1 ⟨rfl, rfl⟩)) | go_in)
  go_ret
  exact ⟨rfl, rfl⟩

set_option maxRecDepth 100000 in
set_option maxHeartbeats 1000000 in
theorem number_calls (s : ByteArray) (w : World) (h1 : 1 ≤ s.size) (h18 : s.size ≤ 18) (hd : ∀ i (h : i < s.size), 48 ≤ s[i].toNat ∧ s[i].toNat ≤ 57) (h0 : s[0].toNat = 48 → s.toList = [48]) (hv : val s.data.toList < 1000000000) :
    Calls Tryz.prog 151 #[.string s] w fun e w' => e = .returned (.tuple #[.int .i64 (val s.data.toList), .bool true]) ∧ Below w.heap.size w w' := by
  have D := Lib.hid hd
  have V := Lib.hid hv
  have j := Lib.hid (fun w => noTrim_calls s w h1 (by have := hd 0 h1; omega))
  have n0 : s.toList.isEmpty = false := by
    rw [ByteArray.toList_eq]
    cases h : s.data.toList with
    | nil => have : s.data.toList.length = s.size := by simp; 
             rw [h] at this; simp at this; omega
    | cons a l => rfl
  have e2 : decide (18 < (s.size : Int)) = false := decide_eq_false (by omega)
  have e3 : ((s[0].toNat : Int) == 48) = false ∨ (((s[0].toNat : Int) == 48) = true ∧ (!(s.toList == [48])) = false) := by
    by_cases h : s[0].toNat = 48
    · exact Or.inr ⟨by rw [h]; rfl, by rw [h0 h]; rfl⟩
    · exact Or.inl (beq_eq_false_iff_ne.mpr (by omega))
  clear hd h0 hv
  rcases e3 with e3 | ⟨e3, e4⟩
  all_goals
    go_enter Tryz.func151, Tryz.ntmps151
    go_wp2_with (go_at_call 211; ((with_reducible refine (j.out _).mono ?_); rintro e w1 ⟨rfl, rfl⟩))
    go_loopw [5, 7] (fun n _ w' => ∃ k : Nat, k ≤ s.size ∧ w' = w1.iter s k ∧ n = .int .i64 (val (s.data.toList.take k))) (fun _ _ w' => s.size - w'.iterPos w1.heap.size)
    case atStart => exact ⟨0, Nat.zero_le _, rfl, rfl⟩
    case round =>
      obtain ⟨k, hk, rfl, rfl⟩ := hrel
      have b1 : val (s.data.toList.take k) < 1000000000 := Nat.lt_of_le_of_lt (val_take_le _ k) V.out
      by_cases hlt : k < s.size
      · have hdk := D.out k hlt
        have hnx : ∀ ty, (Instr.next (.pointer (some ⟨w1.heap.size, 0, none⟩)) true ty).run Tryz.prog (w1.iter s k) = _ := fun ty => run_next_ascii w1 s k ty hlt (by omega)
        have HS : Hid (val (s.data.toList.take (k + 1)) = 10 * val (s.data.toList.take k) + (s[k].toNat - 48)) := by rw [take_snoc s k hlt]; exact Lib.hid (val_snoc _ _)
        have g1 : decide ((s[k].toNat : Int) < 48) = false := decide_eq_false (by omega)
        have g2 : decide (57 < (s[k].toNat : Int)) = false := decide_eq_false (by omega)
        go_wp2
        go_roundw
        case rel => exact ⟨k + 1, by omega, rfl, by rw [HS.out]; go_num⟩
        case measure => simp; omega
      · have hnx : ∀ ty, (Instr.next (.pointer (some ⟨w1.heap.size, 0, none⟩)) true ty).run Tryz.prog (w1.iter s k) = _ := fun ty => run_next_end w1 s k ty hlt
        go_wp2
        go_ret2
        exact ⟨by rw [show s.data.toList.take k = s.data.toList from List.take_of_length_le (by simp; omega)]; rfl, (Below.refl _ _).alloc (Nat.le_refl _) _⟩
end Eng
