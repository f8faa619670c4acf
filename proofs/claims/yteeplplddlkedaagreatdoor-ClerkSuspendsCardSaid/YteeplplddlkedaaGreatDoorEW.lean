/- Walks over the functions that a symbolic run leaves out: numbers' texts. -/
import Derived.Test.YteeplplddlkedaaGreatDoorProg
import Derived.WalkKit
import Derived.WalkSpells
import Derived.WalkLawsBesides
import Derived.Lib.ItoaLen
import Derived.Lib.Hide
namespace Eng
open Go Go.RowKit Go.Lib Go.Proofs

theorem ret_int {k : IntKind} {a b : Int} (h : a = b) : Ending.returned (.int k a) = .returned (.int k b) := by rw [h]
theorem ret_str {a b : List UInt8} (h : a = b) : Ending.returned (.string ⟨a.toArray⟩) = .returned (.string ⟨b.toArray⟩) := by rw [h]

theorem tmod_lt0 (a n : Int) (hn : 0 < n) : -n < Int.tmod a n ∧ Int.tmod a n < n := by
  have h1 := Int.tmod_lt_of_pos a hn
  have h2 := Int.tmod_lt_of_pos (-a) hn
  rw [Int.neg_tmod] at h2
  omega
theorem emod_tmod (a n : Int) (hn : 0 < n) : a % n = if Int.tmod a n < 0 then Int.tmod a n + n else Int.tmod a n := by
  have h := tmod_lt0 a n hn
  have h3 : a % n = Int.tmod a n % n := by
    have := Int.mul_tdiv_add_tmod a n
    conv => lhs; rw [← this]
    rw [Int.add_comm, Int.add_mul_emod_self_left]
  rw [h3]
  split
  · rw [← Int.add_emod_right, Int.emod_eq_of_lt (by omega) (by omega)]
  · rw [Int.emod_eq_of_lt (by omega) (by omega)]

theorem within_calls (a n : Int) (hn : 0 < n) (hn2 : n ≤ 4611686018427387904) (w : World) :
    Calls Tryz.prog 13 #[.int .i64 a, .int .i64 n] w fun e w' => e = .returned (.int .i64 (a % n)) ∧ w' = w := by
  have h1 := emod_tmod a n hn
  have h2 := tmod_lt0 a n hn
  have n0 : (n == 0) = false := beq_eq_false_iff_ne.mpr (by omega)
  by_cases h : Int.tmod a n < 0
  · rw [if_pos h] at h1
    have e : wrap64 (Int.tmod a n + n) = a % n := by unfold wrap64; omega
    have d0 : decide (Int.tmod a n < 0) = true := decide_eq_true h
    have H := Lib.hid e
    clear e h1 h2 h
    go_enter Tryz.func13, Tryz.ntmps13
    go_wp2
    go_ret
    exact ⟨ret_int H.out, rfl⟩
  · rw [if_neg h] at h1
    have H := Lib.hid h1
    have d0 : decide (Int.tmod a n < 0) = false := decide_eq_false h
    clear h1 h2 h
    go_enter Tryz.func13, Tryz.ntmps13
    go_wp2
    go_ret
    exact ⟨ret_int H.out.symm, rfl⟩

theorem decDigits_step (u : Nat) (h : ¬ u < 10) : decDigits u = decDigits (u / 10) ++ decDigits (u % 10) := by
  rw [decDigits, dif_neg h, decDigits_one (i := u % 10) (by omega)]

set_option maxRecDepth 100000 in
set_option maxHeartbeats 1000000 in
theorem digits_calls : ∀ (u : Nat) (_ : u < 1000000000) (w : World),
    Calls Tryz.prog 60 #[.int .u64 (u : Int)] w fun e w' => e = .returned (.string ⟨(decDigits u).toArray⟩) ∧ Below w.heap.size w w' := by
  intro u
  induction u using Nat.strongRecOn with
  | _ u ih =>
  intro hu w
  by_cases h : u < 10
  · have d0 : decide ((10 : Int) ≤ u) = false := decide_eq_false (by omega)
    have hw : IntKind.u64.wrap (48 + (u : Int)) % 256 = 48 + (u : Int) := by
      rw [show IntKind.u64.wrap (48 + (u : Int)) = (48 + (u : Int)) % 18446744073709551616 from rfl]; omega
    have hs : strOfNums [IntKind.u64.wrap (48 + (u : Int)) % 256] = ⟨(decDigits u).toArray⟩ := by
      rw [hw, decDigits_one h]
      have e : (48 + (u : Int)).toNat = 48 + u := by omega
      show (⟨([UInt8.ofNat (48 + (u : Int)).toNat]).toArray⟩ : ByteArray) = _
      rw [e]
    have hc : (convert 83 9 (.slice (some ⟨w.heap.size, 0, none⟩) 1 1)).run Tryz.prog (w.alloc (.cells #[.int .u8 (IntKind.u64.wrap (48 + (u : Int)) % 256)] 5)) = .ok (.string ⟨(decDigits u).toArray⟩) (w.alloc (.cells #[.int .u8 (IntKind.u64.wrap (48 + (u : Int)) % 256)] 5)) := by
      rw [← hs]
      refine run_convert_bytes_arg _ 83 5 (by kernel_rfl) (by kernel_rfl) w.heap.size 0 1 1 [IntKind.u64.wrap (48 + (u : Int)) % 256] rfl (fun i hi => ?_) 9 (by kernel_rfl)
      obtain rfl : i = 0 := by omega
      rw [World.cell?_alloc_new]; rfl
    clear ih h hu hw hs
    go_enter Tryz.func60, Tryz.ntmps60
    go_wp2
    go_ret
    exact ⟨rfl, (Below.refl _ _).alloc (Nat.le_refl _) _⟩
  · have d0 : decide ((10 : Int) ≤ u) = true := decide_eq_true (by omega)
    have i1 : ∀ w, Calls Tryz.prog 60 #[.int .u64 ((u : Int) / 10)] w fun e w' => e = .returned (.string ⟨(decDigits (u / 10)).toArray⟩) ∧ Below w.heap.size w w' := fun w => by
      rw [show ((u : Int) / 10) = ((u / 10 : Nat) : Int) by omega]; exact ih (u / 10) (by omega) (by omega) w
    have i2 : ∀ w, Calls Tryz.prog 60 #[.int .u64 ((u : Int) % 10)] w fun e w' => e = .returned (.string ⟨(decDigits (u % 10)).toArray⟩) ∧ Below w.heap.size w w' := fun w => by
      rw [show ((u : Int) % 10) = ((u % 10 : Nat) : Int) by omega]; exact ih (u % 10) (by omega) (by omega) w
    have j1 := Lib.hid i1
    have j2 := Lib.hid i2
    have H := Lib.hid (decDigits_step u h)
    have L : (decDigits (u / 10)).length + (decDigits (u % 10)).length ≤ 40 := by
      rw [decDigits_length, decDigits_length]
      have := nDigits_le20 (u / 10) (by omega)
      have := nDigits_le20 (u % 10) (by omega)
      omega
    clear ih i1 i2
    go_enter Tryz.func60, Tryz.ntmps60
    go_wp2_with (go_at_call 60; first | ((with_reducible refine (j1.out _).mono ?_); rintro e w1 ⟨rfl, hb1⟩) | ((with_reducible refine (j2.out _).mono ?_); rintro e w2 ⟨rfl, hb2⟩))
    go_ret
    refine ⟨?_, hb1.trans (hb2.mono hb1.size)⟩
    rw [H.out]
    show Ending.returned (.string _) = Ending.returned (.string _)
    congr 2

theorem decimal_calls (u : Nat) (hu : u < 1000000000) (w : World) :
    Calls Tryz.prog 20 #[.int .i64 (u : Int)] w fun e w' => e = .returned (.string ⟨(decDigits u).toArray⟩) ∧ Below w.heap.size w w' := by
  have d0 : decide ((u : Int) < 0) = false := decide_eq_false (by omega)
  have j := Lib.hid (digits_calls u hu)
  go_enter Tryz.func20, Tryz.ntmps20
  go_wp2_with (go_at_call 60; ((with_reducible refine (j.out _).mono ?_); rintro e w1 ⟨rfl, hb1⟩))
  go_ret
  exact ⟨rfl, hb1⟩

/-! ## A text's number -/
def val (l : List UInt8) : Nat := l.foldl (fun n c => 10 * n + (c.toNat - 48)) 0
theorem val_snoc (l : List UInt8) (c : UInt8) : val (l ++ [c]) = 10 * val l + (c.toNat - 48) := by unfold val; rw [List.foldl_append]; rfl
theorem val_le_append (l m : List UInt8) : val l ≤ val (l ++ m) := by
  induction m generalizing l with
  | nil => simp
  | cons c m ih =>
    have := ih (l ++ [c])
    rw [val_snoc, List.append_assoc] at this
    simp only [List.cons_append, List.nil_append] at this
    omega
theorem val_take_le (l : List UInt8) (k : Nat) : val (l.take k) ≤ val l := by
  have := val_le_append (l.take k) (l.drop k)
  rwa [List.take_append_drop] at this
theorem take_snoc (s : ByteArray) (k : Nat) (h : k < s.size) : s.data.toList.take (k + 1) = s.data.toList.take k ++ [s[k]] := by
  rw [List.take_succ_eq_append_getElem (by simpa using h)]; rfl
theorem val_dec (u : Nat) : val (decDigits u) = u := by
  induction u using Nat.strongRecOn with
  | _ u ih =>
    by_cases h : u < 10
    · rw [decDigits_one h]
      have e : (UInt8.ofNat (48 + u)).toNat = 48 + u := by simp; omega
      unfold val
      simp only [List.foldl_cons, List.foldl_nil, e]
      omega
    · rw [decDigits, dif_neg h, val_snoc, ih (u / 10) (by omega)]
      have e : (UInt8.ofNat (48 + u % 10)).toNat = 48 + u % 10 := by simp; omega
      rw [e]; omega
theorem dec_bytes (u : Nat) : ∀ c ∈ decDigits u, 48 ≤ c.toNat ∧ c.toNat ≤ 57 := by
  induction u using Nat.strongRecOn with
  | _ u ih =>
    intro c hc
    by_cases h : u < 10
    · rw [decDigits_one h] at hc
      have e : (UInt8.ofNat (48 + u)).toNat = 48 + u := by simp; omega
      simp only [List.mem_singleton] at hc
      subst hc; omega
    · rw [decDigits, dif_neg h] at hc
      rcases List.mem_append.1 hc with h1 | h1
      · exact ih (u / 10) (by omega) c h1
      · have e : (UInt8.ofNat (48 + u % 10)).toNat = 48 + u % 10 := by simp; omega
        simp only [List.mem_singleton] at h1
        subst h1; omega
theorem dec_head (u : Nat) (h : 0 < (decDigits u).length) (h0 : (decDigits u)[0].toNat = 48) : (decDigits u).length = 1 := by
  induction u using Nat.strongRecOn with
  | _ u ih =>
    by_cases hu : u < 10
    · rw [decDigits_one hu]; rfl
    · exfalso
      have hp : 0 < (decDigits (u / 10)).length := by rw [decDigits_length]; exact nDigits_pos _
      have e : (decDigits u)[0] = (decDigits (u / 10))[0] := by
        have : decDigits u = decDigits (u / 10) ++ [UInt8.ofNat (48 + u % 10)] := by rw [decDigits, dif_neg hu]
        simp only [this]
        rw [List.getElem_append_left hp]
      rw [e] at h0
      have h1 := ih (u / 10) (by omega) hp h0
      by_cases h10 : u / 10 < 10
      · simp only [decDigits_one h10, List.getElem_cons_zero] at h0
        have e : (UInt8.ofNat (48 + u / 10)).toNat = 48 + u / 10 := by simp; omega
        omega
      · rw [decDigits_length, nDigits_big h10] at h1
        have := nDigits_pos (u / 10 / 10)
        omega

set_option maxRecDepth 100000 in
set_option maxHeartbeats 1000000 in
theorem refNumber_calls (s : ByteArray) (w : World) (h1 : 1 ≤ s.size) (h18 : s.size ≤ 18) (hd : ∀ i (h : i < s.size), 48 ≤ s[i].toNat ∧ s[i].toNat ≤ 57) (h0 : s[0].toNat = 48 → s.size = 1) (hv : val s.data.toList < 1000000000) :
    Calls Tryz.prog 97 #[.string s] w fun e w' => e = .returned (.tuple #[.int .i64 (val s.data.toList), .bool true]) ∧ w' = w := by
  have D := Lib.hid hd
  have H0 := Lib.hid h0
  have V := Lib.hid hv
  have n45 : ((s[0].toNat : Int) == 45) = false := beq_eq_false_iff_ne.mpr (by have := hd 0 (by omega); omega)
  have e1 : decide ((s.size : Int) < 1) = false := decide_eq_false (by omega)
  have e2 : decide (18 < (s.size : Int)) = false := decide_eq_false (by omega)
  have e3 : ((s[0].toNat : Int) == 48) = false ∨ (((s[0].toNat : Int) == 48) = true ∧ decide (1 < (s.size : Int)) = false) := by
    by_cases h : s[0].toNat = 48
    · exact Or.inr ⟨by rw [h]; rfl, decide_eq_false (by have := h0 h; omega)⟩
    · exact Or.inl (beq_eq_false_iff_ne.mpr (by omega))
  clear hd h0 hv
  rcases e3 with e3 | ⟨e3, e4⟩
  all_goals
    go_enter Tryz.func97, Tryz.ntmps97
    go_wp2
    go_loop [5, 6] (fun n i => ∃ k : Nat, k ≤ s.size ∧ i = .int .i64 k ∧ n = .int .i64 (val (s.data.toList.take k))) (fun _ i => s.size - (intOf i).toNat)
    case atStart => exact ⟨0, Nat.zero_le _, rfl, rfl⟩
    case round =>
      obtain ⟨k, hk, rfl, rfl⟩ := hrel
      have b1 : val (s.data.toList.take k) < 1000000000 := Nat.lt_of_le_of_lt (val_take_le _ k) V.out
      by_cases hlt : k < s.size
      · have hdk := D.out k hlt
        have HS : Hid (val (s.data.toList.take (k + 1)) = 10 * val (s.data.toList.take k) + (s[k].toNat - 48)) := by rw [take_snoc s k hlt]; exact Lib.hid (val_snoc _ _)
        have g1 : decide ((s[k].toNat : Int) < 48) = false := decide_eq_false (by omega)
        have g2 : decide (57 < (s[k].toNat : Int)) = false := decide_eq_false (by omega)
        go_wp2
        go_round
        case rel => exact ⟨k + 1, by omega, by go_num, by rw [HS.out]; go_num⟩
        case measure => simp [intOf]; omega
      · go_wp2
        go_ret2
        exact ⟨by rw [show s.data.toList.take k = s.data.toList from List.take_of_length_le (by simp; omega)]; rfl, rfl⟩
end Eng
