/- The context of the run of ClerkSuspends; its functions met by contract. No condition. -/
import Derived.Test.YteeplplddlkedaaGreatDoorEF
import Derived.Test.YteeplplddlkedaaGreatDoorEW3
import Derived.Test.YteeplplddlkedaaGreatDoorES
namespace Eng
open Go Go.Lib Go.RowKit Go.Proofs
set_option maxRecDepth 100000
def tabA : List Int := [0, 1, 56, 2, 57, 49, 28, 3, 61, 58, 42, 50, 38, 29, 17, 4, 62, 47, 59, 36, 45, 43, 51, 22, 53, 39, 33, 30, 24, 18, 12, 5, 63, 55, 48, 27, 60, 41, 37, 16, 46, 35, 44, 21, 52, 32, 23, 11, 54, 26, 40, 15, 34, 20, 31, 10, 25, 14, 19, 9, 13, 8, 7, 6]
def ro3 : T V := .node (.some (.int .u8 (.ofNat 0))) (.node (.some (.int .u8 (.ofNat 1))) (.node (.some (.int .u8 (.ofNat 49))) (lf (.int .u8 (.ofNat 43))) (lf (.int .u8 (.ofNat 41))) (lf (.int .u8 (.ofNat 20))) (.nil)) (.node (.some (.int .u8 (.ofNat 58))) (lf (.int .u8 (.ofNat 39))) (lf (.int .u8 (.ofNat 35))) (lf (.int .u8 (.ofNat 14))) (.nil)) (.node (.some (.int .u8 (.ofNat 29))) (lf (.int .u8 (.ofNat 18))) (lf (.int .u8 (.ofNat 32))) (lf (.int .u8 (.ofNat 8))) (.nil)) (.node (.some (.int .u8 (.ofNat 47))) (lf (.int .u8 (.ofNat 55))) (lf (.int .u8 (.ofNat 26))) (.nil) (.nil))) (.node (.some (.int .u8 (.ofNat 56))) (.node (.some (.int .u8 (.ofNat 28))) (lf (.int .u8 (.ofNat 51))) (lf (.int .u8 (.ofNat 37))) (lf (.int .u8 (.ofNat 31))) (.nil)) (.node (.some (.int .u8 (.ofNat 42))) (lf (.int .u8 (.ofNat 33))) (lf (.int .u8 (.ofNat 44))) (lf (.int .u8 (.ofNat 19))) (.nil)) (.node (.some (.int .u8 (.ofNat 17))) (lf (.int .u8 (.ofNat 12))) (lf (.int .u8 (.ofNat 23))) (lf (.int .u8 (.ofNat 7))) (.nil)) (.node (.some (.int .u8 (.ofNat 59))) (lf (.int .u8 (.ofNat 48))) (lf (.int .u8 (.ofNat 40))) (.nil) (.nil))) (.node (.some (.int .u8 (.ofNat 2))) (.node (.some (.int .u8 (.ofNat 3))) (lf (.int .u8 (.ofNat 22))) (lf (.int .u8 (.ofNat 16))) (lf (.int .u8 (.ofNat 10))) (.nil)) (.node (.some (.int .u8 (.ofNat 50))) (lf (.int .u8 (.ofNat 30))) (lf (.int .u8 (.ofNat 21))) (lf (.int .u8 (.ofNat 9))) (.nil)) (.node (.some (.int .u8 (.ofNat 4))) (lf (.int .u8 (.ofNat 5))) (lf (.int .u8 (.ofNat 11))) (lf (.int .u8 (.ofNat 6))) (.nil)) (.node (.some (.int .u8 (.ofNat 36))) (lf (.int .u8 (.ofNat 27))) (lf (.int .u8 (.ofNat 15))) (.nil) (.nil))) (.node (.some (.int .u8 (.ofNat 57))) (.node (.some (.int .u8 (.ofNat 61))) (lf (.int .u8 (.ofNat 53))) (lf (.int .u8 (.ofNat 46))) (lf (.int .u8 (.ofNat 25))) (.nil)) (.node (.some (.int .u8 (.ofNat 38))) (lf (.int .u8 (.ofNat 24))) (lf (.int .u8 (.ofNat 52))) (lf (.int .u8 (.ofNat 13))) (.nil)) (.node (.some (.int .u8 (.ofNat 62))) (lf (.int .u8 (.ofNat 63))) (lf (.int .u8 (.ofNat 54))) (.nil) (.nil)) (.node (.some (.int .u8 (.ofNat 45))) (lf (.int .u8 (.ofNat 60))) (lf (.int .u8 (.ofNat 34))) (.nil) (.nil)))
def ro4 : T V := .node (.some (.int .u64 (.ofNat 1))) (.node (.some (.int .u64 (.ofNat 10))) (lf (.int .u64 (.ofNat 100000))) (lf (.int .u64 (.ofNat 1000000000))) (lf (.int .u64 (.ofNat 10000000000000))) (lf (.int .u64 (.ofNat 100000000000000000)))) (.node (.some (.int .u64 (.ofNat 100))) (lf (.int .u64 (.ofNat 1000000))) (lf (.int .u64 (.ofNat 10000000000))) (lf (.int .u64 (.ofNat 100000000000000))) (lf (.int .u64 (.ofNat 1000000000000000000)))) (.node (.some (.int .u64 (.ofNat 1000))) (lf (.int .u64 (.ofNat 10000000))) (lf (.int .u64 (.ofNat 100000000000))) (lf (.int .u64 (.ofNat 1000000000000000))) (lf (.int .u64 (.ofNat 10000000000000000000)))) (.node (.some (.int .u64 (.ofNat 10000))) (lf (.int .u64 (.ofNat 100000000))) (lf (.int .u64 (.ofNat 1000000000000))) (lf (.int .u64 (.ofNat 10000000000000000))) (.nil))
theorem ro3_get : ∀ i, ro3.get i = (tabA[i]?).map fun z => V.int .u8 z := by
  have e : ro3 = T.ofL (tabA.map fun z => V.int .u8 z) := by kernel_rfl
  intro i; rw [e, T.ofL_get]; simp
theorem ro4_get : ∀ i, ro4.get i = (pow10Tab[i]?).map fun z => V.int .u64 z := by
  have e : ro4 = T.ofL (pow10Tab.map fun z => V.int .u64 z) := by kernel_rfl
  intro i; rw [e, T.ofL_get]; simp
def roC : Nat → Option (T V)
  | 3 => some ro3
  | 4 => some ro4
  | _ => none
noncomputable section
def loT : Nat → Option Int
  | 1 => some 0
  | 2 => some 1
  | 3 => some 1
  | 5 => some 1
  | _ => none
def hiT : Nat → Option Int
  | 1 => some 49999999
  | 2 => some 999
  | 3 => some 50000998
  | 5 => some 21
  | _ => none
def loF : Nat → Option Int
  | 1 => some 0
  | 5 => some 1
  | _ => none
def hiF : Nat → Option Int
  | 1 => some 49999999
  | 5 => some 21
  | _ => none
def sumT (i j : Nat) : Option Nat := bIf (Nat.beq i 1) (bIf (Nat.beq j 2) (some 3) none) none
def difT (i j : Nat) : Option (Int × Int) := bIf (Nat.beq i 3) (bIf (Nat.beq j 1) (some (1, 999)) none) (bIf (Nat.beq i 1) (bIf (Nat.beq j 3) (some (-999, -1)) none) none)
/-- Where no minutes go by (b = false), nothing is asked of the symbols 2 and 3. -/
def syD (b : Bool) : Sy := ⟨bIf b loT loF, bIf b hiT hiF, bIf b sumT fun _ _ => none, bIf b difT fun _ _ => none, fun i d => gd (Nat.beq i (bIf b 3 1)) (gd (iEq d 0) (some 5)), roC, 6, fun t => eqsT.get t⟩
def extsC (b : Bool) : T Ext :=
  .set (.set (.set (.set (.set (.set (.set (.set (.set (.set .nil 13 (xWithin b)) 113 xDec) 20 xDec) 151 xNum) 97 xNum) 96 (xSplit (bIf b 3 1))) 305 xCount) 277 xNoEscape) 278 (xMakeNoZero 5)) 322 xIndexByteS
def cx (b : Bool) : Ctx := ⟨ty, msF msL, syD b, fns, extsC b⟩
end
def nC (a m : Int) (b : Bool) : Nat → Int
  | 0 => a
  | 1 => a % 50000000
  | 2 => m % 1000
  | 3 => a % 50000000 + m % 1000
  | 4 => m
  | 5 => ((itoa (if b then a % 50000000 + m % 1000 else a % 50000000)).length : Int)
  | _ => 0
def symC (a m : Int) (b : Bool) : Sym := ⟨nC a m b, fun n => ⟨(itoa n).toArray⟩, roC⟩
theorem dec_zero (u : Nat) (h : 0 < (decDigits u).length) (h0 : (decDigits u)[0].toNat = 48) : (⟨(decDigits u).toArray⟩ : ByteArray).toList = [48] := by
  rw [ByteArray.toList_eq]
  have h1 := dec_head u h h0
  match hl : decDigits u, h1 with
  | [c], _ =>
    simp only [hl, List.getElem_cons_zero] at h0
    have : c = 48 := by apply UInt8.toNat_inj.1; rw [h0]; rfl
    rw [this]
theorem below_grown (W : World) (k : Nat) (os : Array Go.Obj) : Below W.heap.size W (Go.Sort.grow (W.drewN k) os) := by
  refine ⟨rfl, rfl, rfl, ?_, fun i hi => ?_⟩
  · show W.heap.size ≤ (W.heap ++ os).size
    simp
  · show (W.heap ++ os)[i]? = _
    rw [Array.getElem?_append_left hi]
theorem itoa_pos (n : Int) : 0 < (itoa n).length := by
  unfold itoa
  split
  · simp
  · rw [decDigits_length]; exact nDigits_pos _

section
variable {a m : Int} {b : Bool}
theorem numS (hb : b = false → m % 1000 = 0) : NumS (symC a m b) (bIf b 3 1) b := by
  refine ⟨fun i hi => ?_, by cases b <;> rfl, fun _ => rfl, by cases b <;> rfl, rfl, fun _ => rfl, hb⟩
  · skip
    have h : i = 1 ∨ i = 3 := by
      unfold okSym at hi
      cases h : Nat.beq i 1 with
      | true => rw [natBeq_eq] at h; exact .inl h
      | false =>
        rw [h] at hi
        have hi : Nat.beq i 3 = true := hi
        rw [natBeq_eq] at hi
        exact .inr hi
    rcases h with rfl | rfl
    · show 0 ≤ a % 50000000 ∧ a % 50000000 < 1000000000
      omega
    · show 0 ≤ a % 50000000 + m % 1000 ∧ a % 50000000 + m % 1000 < 1000000000
      omega
theorem syB (hb : b = true → 1 ≤ m % 1000) : SyB (symC a m b) (syD b) := by
  refine ⟨fun i x h => ?_, fun i x h => ?_, fun i j k h => ?_, fun i j lo hi h => ?_, fun i d k h => ?_, fun n => itoa_pos n, fun i t h => h⟩
  · skip
    have e1 : 0 ≤ a % 50000000 := by omega
    have e2 : 1 ≤ (symC a m b).n 5 := by have := itoa_pos (if b then a % 50000000 + m % 1000 else a % 50000000); show (1 : Int) ≤ ((itoa _).length : Int); omega
    cases b with
    | true =>
      have e3 := hb rfl
      have h : loT i = some x := h
      unfold loT at h
      split at h <;> first | (cases h; done) | (cases h; first | exact e1 | exact e2 | exact e3 | (show (1 : Int) ≤ a % 50000000 + m % 1000; omega))
    | false =>
      have h : loF i = some x := h
      unfold loF at h
      split at h <;> first | (cases h; done) | (cases h; first | exact e1 | exact e2)
  · skip
    have e1 : a % 50000000 ≤ 49999999 := by omega
    have e2 : (symC a m b).n 5 ≤ 21 := by
      have := itoa_length_le (if b then a % 50000000 + m % 1000 else a % 50000000) (by split <;> omega) (by split <;> omega)
      show ((itoa _).length : Int) ≤ 21; omega
    have e3 : m % 1000 ≤ 999 := by omega
    cases b with
    | true =>
      have h : hiT i = some x := h
      unfold hiT at h
      split at h <;> first | (cases h; done) | (cases h; first | exact e1 | exact e2 | exact e3 | (show a % 50000000 + m % 1000 ≤ (50000998 : Int); omega))
    | false =>
      have h : hiF i = some x := h
      unfold hiF at h
      split at h <;> first | (cases h; done) | (cases h; first | exact e1 | exact e2)
  · skip
    cases b with
    | false => cases h
    | true =>
      have h : bIf (Nat.beq i 1) (bIf (Nat.beq j 2) (some 3) none) none = some k := h
      cases h1 : Nat.beq i 1 with
      | false => rw [h1] at h; cases h
      | true =>
        rw [h1] at h
        cases h2 : Nat.beq j 2 with
        | false => rw [h2] at h; cases h
        | true => rw [h2] at h; rw [natBeq_eq] at h1 h2; subst h1; subst h2; cases h; rfl
  · skip
    cases b with
    | false => cases h
    | true =>
      have e3 := hb rfl
      have h : bIf (Nat.beq i 3) (bIf (Nat.beq j 1) (some (1, 999)) none) (bIf (Nat.beq i 1) (bIf (Nat.beq j 3) (some (-999, -1)) none) none) = some (lo, hi) := h
      cases h1 : Nat.beq i 3 with
      | true =>
        rw [h1] at h
        cases h2 : Nat.beq j 1 with
        | false => rw [h2] at h; cases h
        | true =>
          rw [h2] at h; rw [natBeq_eq] at h1 h2; subst h1; subst h2; cases h
          show (1 : Int) ≤ (a % 50000000 + m % 1000) - a % 50000000 ∧ (a % 50000000 + m % 1000) - a % 50000000 ≤ 999
          omega
      | false =>
        rw [h1] at h
        cases h2 : Nat.beq i 1 with
        | false => rw [h2] at h; cases h
        | true =>
          rw [h2] at h
          cases h3 : Nat.beq j 3 with
          | false => rw [h3] at h; cases h
          | true =>
            rw [h3] at h; rw [natBeq_eq] at h2 h3; subst h2; subst h3; cases h
            show (-999 : Int) ≤ a % 50000000 - (a % 50000000 + m % 1000) ∧ a % 50000000 - (a % 50000000 + m % 1000) ≤ -1
            omega
  · skip
    replace h : gd (Nat.beq i (bIf b 3 1)) (gd (iEq d 0) (some 5)) = some k := h
    replace h := gd_eq.1 h; obtain ⟨h1, h⟩ := h
    replace h := gd_eq.1 h; obtain ⟨h2, h⟩ := h
    rw [natBeq_eq] at h1
    rw [iEq_eq] at h2
    obtain rfl : d = 0 := by simpa using h2
    cases h
    subst h1
    rw [Int.add_zero]
    cases b <;> rfl
theorem syOK (hb : b = true → 1 ≤ m % 1000) : SyOK Tryz.prog (symC a m b) (syD b) :=
  syOK_of (syB hb) (fun t => by cases b <;> rfl) eqs_all

theorem ro_lt {i : Nat} {f : T V} (h : roC i = some f) : (i = 3 ∧ f = ro3) ∨ (i = 4 ∧ f = ro4) := by
  unfold roC at h
  split at h
  · cases h; exact .inl ⟨rfl, rfl⟩
  · cases h; exact .inr ⟨rfl, rfl⟩
  · cases h
theorem nDigits_le : ∀ (k u : Nat), u < 10 ^ (k + 1) → nDigits u ≤ k + 1
  | 0, u, h => by rw [nDigits_small (by simpa using h)]; exact Nat.le_refl _
  | k + 1, u, h => by
    by_cases hu : u < 10
    · rw [nDigits_small hu]; omega
    · rw [nDigits_big hu]
      have := nDigits_le k (u / 10) (by rw [Nat.pow_succ] at h; omega)
      omega
theorem dec_size {u : Nat} (h : u < 1000000000) : (decDigits u).length ≤ 18 := by
  rw [decDigits_length]
  have := nDigits_le 8 u (by simpa using h)
  omega
theorem dec_pos (u : Nat) : 1 ≤ (decDigits u).length := by rw [decDigits_length]; exact nDigits_pos u
theorem dec_byte {u i : Nat} (h : i < (⟨(decDigits u).toArray⟩ : ByteArray).size) : 48 ≤ ((⟨(decDigits u).toArray⟩ : ByteArray)[i]).toNat ∧ ((⟨(decDigits u).toArray⟩ : ByteArray)[i]).toNat ≤ 57 := by
  have h2 : i < (decDigits u).length := h
  exact dec_bytes u _ (List.getElem_mem h2)
theorem size_mk (l : List UInt8) : (⟨l.toArray⟩ : ByteArray).size = l.length := rfl

theorem tab_pow {φ : Mp} {h : H} {W : World} (hG : GOK 6 φ) (r : RH (symC a m b) ty φ h W.heap) : TabIs Tryz.prog W "internal/strconv.uint64pow10" .u64 pow10Tab :=
  tab_of_ro (f := ro4) (g := 4) (by kernel_rfl) rfl ro4_get (by omega) hG r
theorem func_ours {g : Nat} {fn : Func} (h : fns.get g = some fn) : (fn.name == "runtime.NumGoroutine") = false := (fns_ok g fn h).ours
theorem k1 : (Tryz.f322.name == "runtime.NumGoroutine") = false := by decide +kernel
theorem k3 : Tryz.f322.body.isNone = true := by kernel_rfl
theorem k4 : Extern.findNext Tryz.f322 = none := by kernel_rfl
theorem k5 : Extern.find Tryz.f322 = some Extern.BytealgIndexByte.indexByte := by kernel_rfl
theorem xg {g : Nat} {fn : Func} (h1 : Tryz.prog.funcs[g]? = some fn) (h2 : (fn.name == "runtime.NumGoroutine") = false) (h3 : fn.body.isNone = true) (h4 : Extern.findNext fn = none) (h5 : Extern.find fn = some Extern.BytealgIndexByte.indexByte) (S : Sym) : ExtOK Tryz.prog S ty 6 g xIndexByteS := ext_indexByteS h1 h2 h3 h4 h5
theorem x322 (S : Sym) : ExtOK Tryz.prog S ty 6 322 xIndexByteS := xg Tryz.func322 k1 k3 k4 k5 S
theorem x278 (S : Sym) : ExtOK Tryz.prog S ty 6 278 (xMakeNoZero 5) := ext_makeNoZero (fn := Tryz.f278) (ei := ⟨.int .u8, 1, 1, .int .u8 0⟩) (t := 83) (ps := #[3]) (by kernel_rfl) rfl (by kernel_rfl) Tryz.func278 (by decide +kernel) (by kernel_rfl) (by kernel_rfl) (by kernel_rfl)
theorem x277 (S : Sym) : ExtOK Tryz.prog S ty 6 277 xNoEscape := ext_noEscape (fn := Tryz.f277) Tryz.func277 (by decide +kernel) (by kernel_rfl) (by kernel_rfl) (by kernel_rfl)
section
variable {S : Sym} {j : Nat} (hS : NumS S j b)
include hS
theorem x305 : ExtOK Tryz.prog S ty 6 305 xCount := ext_count (fn := Tryz.f305) hS Tryz.func305 (by decide +kernel) (by kernel_rfl) (by kernel_rfl) (by kernel_rfl) dec_bytes
theorem x96 : ExtOK Tryz.prog S ty 6 96 (xSplit j) :=
  ext_split (fn := Tryz.f96) hS (ti := ⟨.str, 1, 16, .str 0 0⟩) (by kernel_rfl) rfl (fun u hu W => refSplit_calls ⟨(decDigits u).toArray⟩ W (dec_size hu) fun i hi => by have := dec_byte hi; omega) Tryz.func96 (by decide +kernel) (by kernel_rfl)
theorem x97 : ExtOK Tryz.prog S ty 6 97 xNum := by
  refine ext_num (fn := Tryz.f97) hS (fun u hu W => ?_) Tryz.func97 (by decide +kernel) (by kernel_rfl)
  have := refNumber_calls ⟨(decDigits u).toArray⟩ W (dec_pos u) (dec_size hu) (fun i hi => dec_byte hi) (fun h0 => dec_head u (dec_pos u) h0) (by show val (decDigits u) < _; rw [val_dec]; exact hu)
  refine this.mono fun e w ⟨he, hw⟩ => ⟨?_, by subst hw; exact Below.refl _ _⟩
  rw [he]; show Ending.returned (.tuple #[.int .i64 ((val (decDigits u) : Nat) : Int), .bool true]) = _; rw [val_dec]
theorem x151 : ExtOK Tryz.prog S ty 6 151 xNum := by
  refine ext_num (fn := Tryz.f151) hS (fun u hu W => ?_) Tryz.func151 (by decide +kernel) (by kernel_rfl)
  have := number_calls ⟨(decDigits u).toArray⟩ W (dec_pos u) (dec_size hu) (fun i hi => dec_byte hi) (fun h0 => dec_zero u (dec_pos u) h0) (by show val (decDigits u) < _; rw [val_dec]; exact hu)
  refine this.mono fun e w ⟨he, hw⟩ => ⟨?_, hw⟩
  rw [he]; show Ending.returned (.tuple #[.int .i64 ((val (decDigits u) : Nat) : Int), .bool true]) = _; rw [val_dec]
theorem x20 : ExtOK Tryz.prog S ty 6 20 xDec := ext_dec (fn := Tryz.f20) hS (Q := fun _ => True) (fun _ _ _ _ _ => trivial) (fun u hu W _ => decimal_calls u hu W) Tryz.func20 (by decide +kernel) (by kernel_rfl)
theorem x13 : ExtOK Tryz.prog S ty 6 13 (xWithin b) := ext_within (fn := Tryz.f13) hS (fun a n h1 h2 W => within_calls a n h1 h2 W) Tryz.func13 (by decide +kernel) (by kernel_rfl)
end
theorem x113 (hb0 : b = false → m % 1000 = 0) : ExtOK Tryz.prog (symC a m b) ty 6 113 xDec := by
  refine ext_dec (fn := Tryz.f113) (numS hb0) (fun _ _ _ hG r => tab_pow hG r) (fun u hu W hq => ?_) Tryz.func113 (by decide +kernel) (by kernel_rfl)
  refine (Tryz.strconv_Itoa (u : Int) (by omega) (by omega) W hq).mono fun e w ⟨he, k, os, hw⟩ => ⟨?_, ?_⟩
  · rw [he, itoa_nonneg]
  · subst hw; exact below_grown W k os
theorem exts_ok (hb0 : b = false → m % 1000 = 0) : ∀ g e, (extsC b).get g = some e → ExtOK Tryz.prog (symC a m b) ty 6 g e := by
  intro g e h
  have hS := numS (a := a) hb0
  unfold extsC at h
  simp only [T.get_set] at h
  split at h
  · rename_i hg; rw [hg, ← Option.some.inj h]; exact x322 _
  split at h
  · rename_i hg; rw [hg, ← Option.some.inj h]; exact x278 _
  split at h
  · rename_i hg; rw [hg, ← Option.some.inj h]; exact x277 _
  split at h
  · rename_i hg; rw [hg, ← Option.some.inj h]; exact x305 hS
  split at h
  · rename_i hg; rw [hg, ← Option.some.inj h]; exact x96 hS
  split at h
  · rename_i hg; rw [hg, ← Option.some.inj h]; exact x97 hS
  split at h
  · rename_i hg; rw [hg, ← Option.some.inj h]; exact x151 hS
  split at h
  · rename_i hg; rw [hg, ← Option.some.inj h]; exact x20 hS
  split at h
  · rename_i hg; rw [hg, ← Option.some.inj h]; exact x113 hb0
  split at h
  · rename_i hg; rw [hg, ← Option.some.inj h]; exact x13 hS
  · simp at h
theorem cxOK (hb : b = true → 1 ≤ m % 1000) (hb0 : b = false → m % 1000 = 0) : CxOK Tryz.prog (symC a m b) (cx b) :=
  ⟨mix, ty_ok, syOK hb, ms_ok, fns_ok, fun g e h => exts_ok hb0 g e h⟩
end
end Eng
