/- Walks, second part: a text without spaces, split; a text's number. -/
import Derived.Test.YteeplplddlkedaaGreatDoorEW
namespace Eng
open Go Go.RowKit Go.Lib Go.Proofs

theorem info9 : (Tryz.prog.info? 9).map (fun i => (i.zero, i.size, i.bytes)) = some (some (.string ⟨#[]⟩), 1, 16) := by kernel_rfl

set_option maxRecDepth 100000 in
set_option maxHeartbeats 1000000 in
theorem refSplit_calls (s : ByteArray) (w : World) (h18 : s.size ≤ 18) (hd : ∀ i (h : i < s.size), s[i].toNat ≠ 32) :
    Calls Tryz.prog 96 #[.string s, .int .i64 ((s.size : Int) + 1)] w fun e w' => ∃ v, e = .returned v ∧ w'.ownsRow w.heap.size 9 1 v 1 [.string s] ∧ Below w.heap.size w w' := by
  obtain ⟨i0, hi, hz0, hz1, hz2⟩ := info_parts info9
  have D := Lib.hid hd
  have u151 : Tryz.prog.underlying 151 = some (.slice 9) := by kernel_rfl
  clear hd
  go_enter Tryz.func96, Tryz.ntmps96
  go_wp2
  go_loop [5, 6, 7] (fun v m i => ∃ k : Nat, k ≤ s.size ∧ i = .int .i64 k ∧ v = .slice none 0 0 ∧ m = .int .i64 0) (fun _ _ i => s.size - (intOf i).toNat)
  case atStart => exact ⟨0, Nat.zero_le _, rfl, rfl, rfl⟩
  case round =>
    obtain ⟨k, hk, rfl, rfl, rfl⟩ := hrel
    by_cases hlt : k < s.size
    · have g0 : ((s[k].toNat : Int) == 32) = false := beq_eq_false_iff_ne.mpr (by have := D.out k hlt; omega)
      go_wp2
      go_round
      case rel => exact ⟨k + 1, by omega, by go_num, rfl, rfl⟩
      case measure => simp [intOf]; omega
    · have hs : s.extract 0 s.size = s := by simp
      go_wp2_with (at_builtin; refine wpList_append_own _ rfl _ _ 151 rfl w.heap.size 9 i0 (.string ⟨#[]⟩) 1 16 u151 hi hz0 hz1 hz2 rfl (by decide) _ _ _ rfl ((World.ownsRow_nil w w.heap.size 9 1).alloc _) ⟨w.heap.size, 0, none⟩ 1 1 [.string s] rfl rfl ?c1 ?c2 ?c3 ?c4 ?c5 ?_)
      case c2 => rfl
      case c3 => unfold maxLen; omega
      · intro v' w1 hown' hgrow _
        have hb : Below w.heap.size w w1 := ((Below.refl _ w).alloc (Nat.le_refl _) _).grown hgrow (by simp) (fun k e => by simp [Value.ownBlock] at e)
        have O := Lib.hid hown'
        have G := Lib.hid hb
        clear hown' hgrow hb
        go_wp2
        go_ret
        exact ⟨_, rfl, O.out, G.out⟩
end Eng
