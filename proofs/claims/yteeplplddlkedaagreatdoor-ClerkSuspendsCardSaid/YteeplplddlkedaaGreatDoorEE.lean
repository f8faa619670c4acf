/- What a program must bear for that. No condition. -/
import Derived.Test.YteeplplddlkedaaGreatDoorED
import Derived.Laws.Externs
import Derived.Lib.Builder
import Derived.Lib.Bytealg
import Derived.Lib.MakeNoZero
import Derived.Laws.StructEq
import Derived.Below
import Derived.Laws.AppendOwn
import Derived.Lib.ItoaLen
import Derived.Lib.LaidTab
/- Functions without a text of their own: what the engine says of them is so. -/
namespace Eng
open Go

/-- What an ext must be shown. -/
def ExtOK (P : Program) (S : Sym) (ty : Nat → Option TI) (ng : Nat) (g : Nat) (e : Ext) : Prop :=
  ∀ args h outs, e args h = some outs → ∀ φ W (args' : Array Value), GOK ng φ → VRL S φ args args'.toList → RH S ty φ h W.heap → Does P g args' W (Ans S ty φ h W outs)
section
variable {P : Program} {S : Sym} {ty : Nat → Option TI} {ng g : Nat} {fn : Func} {φ : Mp} {h : H} {W : World}

theorem does_extern {e : Array Value → Sem Value} (hf : P.funcs[g]? = some fn) (hname : (fn.name == "runtime.NumGoroutine") = false) (hb : fn.body.isNone = true) (hn : Extern.findNext fn = none) (he : Extern.find fn = some e)
    {args : Array Value} {w : Value} {W' : World} (hr : (e args).run P W = .ok w W') {R : Value → World → Prop} (hR : R w W') : Does P g args W R := by
  intro o a next Q hnx
  rw [run_callFunc_extern hf hname hb hn he, hr]
  exact hnx w W' hR
theorem Does.of_calls {args : Array Value} {R : Value → World → Prop} (hf : P.funcs[g]? = some fn) (hname : (fn.name == "runtime.NumGoroutine") = false) (hb : fn.body.isNone = false) (hc : Calls P g args W fun e w => match e with
    | .returned v => R v w
    | _ => False) : Does P g args W R := by
  intro o a next Q hn
  have e : (callFunc g args).run P W = .ok (.enter g args) W := by
    unfold callFunc
    simp only [Sem.run_bind, run_program, Result.andThen_ok, hf, hname, hb, Bool.false_eq_true, if_false]
    rfl
  rw [e]
  refine hc.mono ?_
  intro en w' hR
  cases en with
  | returned v => exact hn v w' hR
  | panicked ch => exact hR.elim
  | outgrown => exact hR.elim
theorem ans_one {v : V} {w : Value} (r : RH S ty φ h W.heap) (hv : VR S φ v w) : Ans S ty φ h W [(v, h)] w W := ⟨v, h, φ, by simp, hv, r, Fr.refl φ h W⟩
theorem args_eq {l : List Value} {a : Array Value} (h : a.toList = l) : a = l.toArray := by rw [← h]

theorem ext_noEscape (hf : P.funcs[g]? = some fn) (hname : (fn.name == "runtime.NumGoroutine") = false) (hb : fn.body.isNone = true) (hn : Extern.findNext fn = none) (he : Extern.find fn = some Extern.AbiNoEscape.same) : ExtOK P S ty ng g xNoEscape := by
  intro args h outs hr φ W args' _ ha r
  unfold xNoEscape at hr
  split at hr
  · rename_i x
    cases hr
    unfold VRL at ha
    obtain ⟨w, ws, e, hv, hnil⟩ := ha
    unfold VRL at hnil; subst hnil
    rw [args_eq e]
    exact does_extern hf hname hb hn he (Go.Lib.run_noEscape W w) (ans_one r hv)
  · cases hr
theorem ext_makeNoZero {e t : Nat} {ei : TI} (hte : ty e = some ei) (hs : ei.size = 1) (ht : P.underlying t = some (.slice e)) {ps : Array TypeId} (hf : P.funcs[g]? = some fn) (hname : (fn.name == "runtime.NumGoroutine") = false) (hb : fn.body.isNone = true) (hn : Extern.findNext fn = none) (he : Extern.find fn = some (Extern.BytealgMakeNoZero.makeNoZero ps #[t])) :
    ExtOK P S ty ng g (xMakeNoZero e) := by
  intro args h outs hr φ W args' _ ha r
  unfold xMakeNoZero at hr
  split at hr
  · rename_i n
    obtain ⟨h1, hr⟩ := gd_eq.1 hr
    rw [natBle_eq] at h1
    rw [newO_eq] at hr
    cases hr
    unfold VRL at ha
    obtain ⟨w, ws, ea, hv, hnil⟩ := ha
    unfold VRL at hnil; subst hnil
    have hw : w = .int .i64 (n : Int) := hv
    subst hw
    rw [args_eq ea]
    have hn48 : n ≤ 281474976710656 := h1
    obtain ⟨cs, h2, h3, h4⟩ := Go.Lib.run_makeNoZero (P := P) W ps t e ht n hn48
    have hml : maxLen = 9223372036854775807 := rfl
    have h5 : cs.size < 2 ^ 63 := by have := h4 (by omega); omega
    refine does_extern hf hname hb hn he h2 ?_
    have hx := Mp.ext_add (L := (⟨W.heap.size, cs.size, 1⟩ : Loc)) r.fresh
    have hat : OAt S ty (φ.add h.next ⟨W.heap.size, cs.size, 1⟩) (.cells n .nil e 0 false) ⟨W.heap.size, cs.size, 1⟩ (.cells cs e) := by
      refine ⟨cs, 0, 0, rfl, rfl, h3, fun ti hti => ?_, fun i v hi => by simp at hi, fun j h1 h2 => by omega, Nat.le_refl _⟩
      rw [hte] at hti; cases hti; exact hs.symm
    refine ⟨.slc h.next 0 n 0 false, _, φ.add h.next ⟨W.heap.size, cs.size, 1⟩, by simp, ?_, r.new rfl hat, Fr.new r rfl rfl rfl rfl rfl⟩
    refine VR.newOpen Mp.add_self h3 ?_ (by simp)
    exact h5
  · cases hr

theorem idxByte_eq {l : List UInt8} {c : Nat} (hc : c < 256) : ∀ {n i : Nat}, i + n = l.length → Option.casesOn (motive := fun _ => Int) (idxByte l.length (pk l) c n i) (-1) (fun j => (j : Int)) = (match (List.range' i n).find? fun j => l.getD j 0 == c.toUInt8 with | some j => (j : Int) | none => -1)
  | 0, i, _ => rfl
  | n + 1, i, h => by
    have hi : i < l.length := by omega
    have e : idxByte l.length (pk l) c (n + 1) i = Bool.casesOn (Nat.beq (sByte l.length (pk l) i) c) (idxByte l.length (pk l) c n (Nat.succ i)) (some i) := rfl
    rw [e, sByte_eq hi]
    have e2 : l.getD i 0 = l[i] := by simp [List.getD, List.getElem?_eq_getElem hi]
    have e3 : (l[i] == c.toUInt8) = Nat.beq l[i].toNat c := by
      cases hb : Nat.beq l[i].toNat c with
      | true =>
        rw [natBeq_eq] at hb
        have : l[i] = c.toUInt8 := by rw [← hb]; simp
        simp [this]
      | false =>
        rw [natBeq_ne] at hb
        have : l[i] ≠ c.toUInt8 := fun he => hb (by rw [he]; simp [Nat.toUInt8, Nat.mod_eq_of_lt hc])
        simp [this]
    rw [List.range'_succ, List.find?_cons, e2, e3]
    cases hb : Nat.beq l[i].toNat c with
    | true => rfl
    | false => exact idxByte_eq hc (by omega)
theorem cntByte_eq {l : List UInt8} {c : Nat} (hc : c < 256) : ∀ {n i acc : Nat}, i + n = l.length → cntByte l.length (pk l) c n i acc = acc + (l.drop i).count c.toUInt8
  | 0, i, acc, h => by
    have : l.drop i = [] := List.drop_of_length_le (by omega)
    rw [this]; rfl
  | n + 1, i, acc, h => by
    have hi : i < l.length := by omega
    have e : cntByte l.length (pk l) c (n + 1) i acc = Bool.casesOn (Nat.beq (sByte l.length (pk l) i) c) (cntByte l.length (pk l) c n (Nat.succ i) acc) (fN (Nat.succ acc) fun acc => cntByte l.length (pk l) c n (Nat.succ i) acc) := rfl
    rw [e, sByte_eq hi, List.drop_eq_getElem_cons hi, List.count_cons]
    have e3 : (l[i] == c.toUInt8) = Nat.beq l[i].toNat c := by
      cases hb : Nat.beq l[i].toNat c with
      | true =>
        rw [natBeq_eq] at hb
        have : l[i] = c.toUInt8 := by rw [← hb]; simp
        simp [this]
      | false =>
        rw [natBeq_ne] at hb
        have : l[i] ≠ c.toUInt8 := fun he => hb (by rw [he]; simp [Nat.toUInt8, Nat.mod_eq_of_lt hc])
        simp [this]
    rw [e3]
    cases hb : Nat.beq l[i].toNat c with
    | true =>
      show fN (Nat.succ acc) (fun acc => cntByte l.length (pk l) c n (Nat.succ i) acc) = _
      rw [fN_eq, cntByte_eq hc (by omega)]; simp; omega
    | false =>
      show cntByte l.length (pk l) c n (Nat.succ i) acc = _
      rw [cntByte_eq hc (by omega)]; simp
theorem ext_indexByteS (hf : P.funcs[g]? = some fn) (hname : (fn.name == "runtime.NumGoroutine") = false) (hb : fn.body.isNone = true) (hn : Extern.findNext fn = none) (he : Extern.find fn = some Extern.BytealgIndexByte.indexByte) : ExtOK P S ty ng g xIndexByteS := by
  intro args h outs hr φ W args' _ ha r
  unfold xIndexByteS at hr
  split at hr
  · rename_i len val c
    obtain ⟨h1, hr⟩ := gd_eq.1 hr
    rw [natBlt_eq] at h1
    unfold VRL at ha
    obtain ⟨w, ws, e, hv, ha⟩ := ha
    unfold VRL at ha
    obtain ⟨w2, ws2, e2, hv2, hnil⟩ := ha
    unfold VRL at hnil; subst hnil; subst e2
    obtain ⟨s, rfl, hs⟩ := hv.str
    have hw2 : w2 = .int .u8 (c : Int) := hv2
    subst hw2
    rw [args_eq e]
    obtain ⟨p1, p2⟩ := hs.pkl
    have key := idxByte_eq (l := s.data.toList) (c := c) h1 (n := len) (i := 0) (by omega)
    rw [p1, p2] at key
    have e3 : (match (List.range' 0 len).find? fun j => s.data.toList.getD j 0 == c.toUInt8 with | some j => (j : Int) | none => -1) = Go.Lib.indexByte s.data.toList (c : Int).toNat.toUInt8 := by
      have h := Go.Lib.find_range s.data.toList c.toUInt8 0
      simp only [Nat.add_zero, List.map_id', Nat.sub_zero] at h
      rw [← List.range_eq_range', ← p1, show ((c : Int).toNat.toUInt8) = c.toUInt8 from by simp, ← h]
      cases List.find? (fun j => s.data.toList.getD j 0 == c.toUInt8) (List.range s.data.toList.length) <;> rfl
    refine does_extern hf hname hb hn he (Go.Lib.run_indexByteString s c W) ?_
    rw [← e3, ← key]
    cases hi : idxByte len val c len 0 with
    | none => rw [hi] at hr; cases hr; exact ans_one r rfl
    | some j => rw [hi] at hr; cases hr; exact ans_one r rfl
  · cases hr
theorem ext_countS (hf : P.funcs[g]? = some fn) (hname : (fn.name == "runtime.NumGoroutine") = false) (hb : fn.body.isNone = true) (hn : Extern.findNext fn = none) (he : Extern.find fn = some Extern.BytealgCount.count) : ExtOK P S ty ng g xCountS := by
  intro args h outs hr φ W args' _ ha r
  unfold xCountS at hr
  split at hr
  · rename_i len val c
    obtain ⟨h1, hr⟩ := gd_eq.1 hr
    rw [natBlt_eq] at h1
    unfold VRL at ha
    obtain ⟨w, ws, e, hv, ha⟩ := ha
    unfold VRL at ha
    obtain ⟨w2, ws2, e2, hv2, hnil⟩ := ha
    unfold VRL at hnil; subst hnil; subst e2
    obtain ⟨s, rfl, hs⟩ := hv.str
    have hw2 : w2 = .int .u8 (c : Int) := hv2
    subst hw2
    rw [args_eq e]
    obtain ⟨p1, p2⟩ := hs.pkl
    have key := cntByte_eq (l := s.data.toList) (c := c) h1 (n := len) (i := 0) (acc := 0) (by omega)
    rw [p1, p2] at key
    rw [Nat.zero_add, List.drop_zero] at key
    rw [mkN_eq] at hr
    cases hr
    refine does_extern hf hname hb hn he (Go.Lib.run_countString s c W) ?_
    rw [key]
    refine ans_one r ?_
    show Value.int .i64 _ = .int .i64 _
    congr 1
  · cases hr
end
end Eng

/- What must hold of a program's tables, by programs that the kernel runs. -/
namespace Eng
open Go

/-! ## Trees -/
def allT {α : Type} (p : Nat → α → Bool) : T α → (Nat → Nat) → Bool
  | .nil, _ => true
  | .node v a b c d, φ => (match v with | some x => p (φ 0) x | none => true) && allT p a (fun n => φ (4 * n + 1)) && allT p b (fun n => φ (4 * n + 2)) && allT p c (fun n => φ (4 * n + 3)) && allT p d (fun n => φ (4 * n + 4))
def AllT {α : Type} (p : Nat → α → Prop) : T α → (Nat → Nat) → Prop
  | .nil, _ => True
  | .node v a b c d, φ => (match v with | some x => p (φ 0) x | none => True) ∧ AllT p a (fun n => φ (4 * n + 1)) ∧ AllT p b (fun n => φ (4 * n + 2)) ∧ AllT p c (fun n => φ (4 * n + 3)) ∧ AllT p d (fun n => φ (4 * n + 4))
theorem AllT_get {α : Type} {p : Nat → α → Prop} : ∀ {t : T α} {φ : Nat → Nat} {i : Nat} {v : α}, AllT p t φ → t.get i = some v → p (φ i) v
  | .nil, φ, i, v, _, h => by simp at h
  | .node w a b c d, φ, i, v, ⟨h0, h1, h2, h3, h4⟩, h => by
    cases i with
    | zero => rw [T.get_zero] at h; subst h; exact h0
    | succ n =>
      rw [T.get_ch] at h
      rcases (by omega : n % 4 = 0 ∨ n % 4 = 1 ∨ n % 4 = 2 ∨ n % 4 = 3) with e | e | e | e <;> rw [e] at h
      · have := AllT_get h1 (h : a.get (n / 4) = some v); rwa [show 4 * (n / 4) + 1 = n + 1 from by omega] at this
      · have := AllT_get h2 (h : b.get (n / 4) = some v); rwa [show 4 * (n / 4) + 2 = n + 1 from by omega] at this
      · have := AllT_get h3 (h : c.get (n / 4) = some v); rwa [show 4 * (n / 4) + 3 = n + 1 from by omega] at this
      · have := AllT_get h4 (h : d.get (n / 4) = some v); rwa [show 4 * (n / 4) + 4 = n + 1 from by omega] at this
theorem AllT_of {α : Type} {p : Nat → α → Bool} : ∀ {t : T α} {φ : Nat → Nat}, allT p t φ = true → AllT (fun i x => p i x = true) t φ
  | .nil, _, _ => trivial
  | .node v a b c d, φ, h => by
    simp only [allT, Bool.and_eq_true] at h
    obtain ⟨⟨⟨⟨h0, h1⟩, h2⟩, h3⟩, h4⟩ := h
    refine ⟨?_, AllT_of h1, AllT_of h2, AllT_of h3, AllT_of h4⟩
    cases v with
    | none => trivial
    | some x => exact h0

/-! ## Types -/
def fsCheck (P : Program) : List (Nat × Nat) → List Field → Bool
  | [], [] => true
  | (o, t) :: l, f :: fs => Nat.beq f.offset o && Nat.beq f.type t && (P.info? t).isSome && fsCheck P l fs
  | _, _ => false
def dCheck (P : Program) : D → TypeDesc → Bool
  | .bool, .bool => true
  | .int k, .int j => kEq k j
  | .str, .string => true
  | .ptr e, .pointer u => Nat.beq e u
  | .slc e, .slice u => Nat.beq e u
  | .arr n e, .array m u => Nat.beq n m && Nat.beq e u && Nat.blt n 9223372036854775808
  | .map k e, .map j u => Nat.beq k j && Nat.beq e u
  | .st fs, .struct fields => fsCheck P fs fields.toList
  | .ifc, .interface _ => true
  | .fn, .func _ _ _ => true
  | .uptr, .unsafePointer => true
  | .other, .struct _ => false
  | .other, .array _ _ => false
  | .other, .interface _ => false
  | .other, _ => true
  | _, _ => false
noncomputable def tiCheck (P : Program) (t : Nat) (ti : TI) : Bool :=
  match P.info? t, P.underlying t with
  | some i, some d => Nat.beq i.size ti.size && Nat.beq i.bytes ti.bytes && dCheck P ti.d d && !ti.zero.isAny && Nat.beq (lenL ti.zero.cells 0) ti.size &&
    (match i.zero with
     | some z => match conv z with
       | some v => vEq v ti.zero
       | none => false
     | none => false)
  | _, _ => false
theorem fsCheck_ok {P : Program} : ∀ {l : List (Nat × Nat)} {fs : List Field}, fsCheck P l fs = true → fs.map (fun f => (f.offset, f.type)) = l ∧ ∀ f ∈ fs, ∃ i, P.info? f.type = some i
  | [], [], _ => ⟨rfl, fun f hf => by cases hf⟩
  | [], _ :: _, h => by cases h
  | (_, _) :: _, [], h => by cases h
  | (o, t) :: l, f :: fs, h => by
    simp only [fsCheck, Bool.and_eq_true, natBeq_eq] at h
    obtain ⟨⟨⟨h1, h2⟩, h3⟩, h4⟩ := h
    obtain ⟨k1, k2⟩ := fsCheck_ok h4
    refine ⟨by simp [h1, h2, k1], fun x hx => ?_⟩
    rcases List.mem_cons.1 hx with rfl | hx
    · rw [h2]; exact Option.isSome_iff_exists.1 h3
    · exact k2 x hx
theorem dCheck_ok {P : Program} {d : D} {u : TypeDesc} (h : dCheck P d u = true) : DR P d u := by
  cases d <;> cases u <;> simp only [dCheck] at h <;> simp only [DR] <;> try (cases h; done)
  case int.int => rw [kEq_eq h]
  case ptr.pointer => rw [natBeq_eq] at h; rw [h]
  case slc.slice => rw [natBeq_eq] at h; rw [h]
  case arr.array =>
    simp only [Bool.and_eq_true, natBeq_eq, natBlt_eq] at h
    obtain ⟨⟨h1, h2⟩, h3⟩ := h
    exact ⟨by rw [h1, h2], by omega⟩
  case map.map =>
    simp only [Bool.and_eq_true, natBeq_eq] at h
    rw [h.1, h.2]
  case st.struct =>
    obtain ⟨h1, h2⟩ := fsCheck_ok h
    exact ⟨_, rfl, h1, h2⟩
  case ifc.interface => exact ⟨_, rfl⟩
  case fn.func => exact ⟨_, _, _, rfl⟩
theorem tiCheck_ok {P : Program} {t : Nat} {ti : TI} (h : tiCheck P t ti = true) : ∃ i d z, TiOK P t ti i d z := by
  unfold tiCheck at h
  split at h
  · rename_i i d hi hd
    simp only [Bool.and_eq_true, natBeq_eq] at h
    obtain ⟨⟨⟨⟨⟨h1, h2⟩, h3⟩, h4⟩, h5⟩, h6⟩ := h
    split at h6
    · rename_i z hz
      split at h6
      · rename_i v hv
        have e := vEq_eq h6
        subst e
        exact ⟨i, d, z, hi, h1, h2, hz, hd, dCheck_ok h3, fun S φ => conv_vr hv, by simpa using h4, by simpa using h5⟩
      · cases h6
    · cases h6
  · cases h
theorem tyOK_of {P : Program} {types : T TI} (h : allT (tiCheck P) types id = true) : TyOK P (fun i => types.get i) :=
  fun _ _ e => tiCheck_ok (AllT_get (AllT_of h) e)

/-! ## Methods -/
def msCheck (P : Program) (t : Nat) (name : String) (g : Nat) : Bool :=
  match P.info? t with
  | some i => match i.methods.find? (·.name == name) with
    | some m => m.path.toList.isEmpty && (match m.func with
      | some (f, pr) => Nat.beq f g && (match P.underlying t, pr with
        | some (.pointer _), true => true
        | some (.pointer _), false => false
        | some _, false => true
        | _, _ => false)
      | none => false)
    | none => false
  | none => false
theorem msCheck_ok {P : Program} {t g n : Nat} {name : String} (h : msCheck P t name g = true) (v : Value) (W : World) : (method (n + 1) t v name).run P W = .ok (g, v) W := by
  unfold msCheck at h
  cases hi : P.info? t with
  | none => rw [hi] at h; cases h
  | some i =>
    rw [hi] at h
    dsimp only at h
    cases hm : i.methods.find? (·.name == name) with
    | none => rw [hm] at h; cases h
    | some m =>
      rw [hm] at h
      dsimp only at h
      simp only [Bool.and_eq_true, List.isEmpty_iff] at h
      obtain ⟨h1, h2⟩ := h
      cases hf : m.func with
      | none => rw [hf] at h2; cases h2
      | some p =>
        obtain ⟨f, pr⟩ := p
        rw [hf] at h2
        simp only [Bool.and_eq_true, natBeq_eq] at h2
        obtain ⟨rfl, h3⟩ := h2
        cases hu : P.underlying t with
        | none => rw [hu] at h3; cases h3
        | some d =>
          rw [hu] at h3
          have hund := run_underlying hu W
          simp only [method, typeInfo, Sem.run_bind, run_program, Result.andThen_ok, hi, Sem.run_pure, hm, h1, follow, hf, receiverAt, hund]
          cases d <;> cases pr <;> first | (cases h3; done) | (simp [Place.get])
def msAll (P : Program) (l : List (String × List (Nat × Nat))) : Bool := l.all fun p => p.2.all fun q => msCheck P q.1 p.1 q.2
def msF (l : List (String × List (Nat × Nat))) (n : String) : List (Nat × Nat) := match l with
  | [] => []
  | (m, r) :: l => match m == n with
    | true => r
    | false => msF l n
theorem findM_mem {t g : Nat} : ∀ {l : List (Nat × Nat)}, findM l t = some g → (t, g) ∈ l
  | [], h => by cases h
  | (u, f) :: l, h => by
    have h : (Bool.casesOn (Nat.beq t u) (findM l t) (some f) : Option Nat) = some g := h
    rcases bc_eq.1 h with ⟨_, h⟩ | ⟨e, h⟩
    · exact List.mem_cons_of_mem _ (findM_mem h)
    · rw [natBeq_eq] at e; cases h; rw [e]; exact List.mem_cons_self
theorem msF_mem {n : String} {x : Nat × Nat} : ∀ {l : List (String × List (Nat × Nat))}, x ∈ msF l n → ∃ r, (n, r) ∈ l ∧ x ∈ r
  | [], h => by cases h
  | (m, r) :: l, h => by
    unfold msF at h
    cases e : m == n with
    | true =>
      rw [e] at h
      have e' : m = n := by simpa using e
      exact ⟨r, by rw [e']; exact List.mem_cons_self, h⟩
    | false =>
      rw [e] at h
      obtain ⟨r', h1, h2⟩ := msF_mem h
      exact ⟨r', List.mem_cons_of_mem _ h1, h2⟩
theorem msOK_of {P : Program} {l : List (String × List (Nat × Nat))} (h : msAll P l = true) : MsOK P (msF l) := by
  intro name t g hf v W
  obtain ⟨r, h1, h2⟩ := msF_mem (findM_mem hf)
  have h3 := List.all_eq_true.1 h _ h1
  have h4 := List.all_eq_true.1 h3 _ h2
  have e : P.types.size + Made.depth = (P.types.size + (Made.depth - 1)) + 1 := rfl
  rw [e]
  exact msCheck_ok h4 v W

/-! ## Equality of structs -/
def kindsFs (P : Program) (rec : Nat → Option (List Nat)) : List Field → Nat → Option (List Nat)
  | [], _ => some []
  | f :: fs, o => bif (f.name != "_") && Nat.beq f.offset o then
      match rec f.type, kindsFs P rec fs (o + P.cellsOf f.type) with
      | some a, some b => bif Nat.beq a.length (P.cellsOf f.type) then some (a ++ b) else none
      | _, _ => none
    else none
def kindsOf (P : Program) : Nat → Nat → Option (List Nat)
  | 0, _ => none
  | d + 1, t => match P.underlying t with
    | some .bool => some [0]
    | some (.int _) => some [1]
    | some .string => some [2]
    | some (.struct fs) => bif P.stoodInHeld t then none else kindsFs P (kindsOf P d) fs.toList 0
    | _ => none
/-- A value, and its cells. -/
def Cellw (P : Program) (t : Nat) (a : Value) (ws : List Value) : Prop :=
  match P.underlying t with
  | some (.struct _) => ∃ arr : Array Value, a = .agg arr ∧ arr.toList = ws
  | _ => ws = [a]
section
variable {P : Program} {S : Sym} {s : Sy} {φ : Mp} {W : World}
theorem boolEq (a b : Bool) : (a == b) = (Bool.casesOn a (notB b) b : Bool) := by cases a <;> cases b <;> rfl
theorem binOp_eql_int {t : Nat} {k j : IntKind} {p q : Int} {w : Value} (h : (binOp .eql t (.int k p) (.int j q)).run P W = .ok w W) : k = j ∧ w = .bool (p == q) := by
  simp only [binOp] at h
  by_cases hk : k = j
  · subst hk
    simp [Op.intCmp] at h
    exact ⟨rfl, h.symm⟩
  · rw [if_pos hk] at h
    simp [stuck] at h
theorem equalIn_leaf {d t k : Nat} {x y : V} {a b : Value} {r : Bool} (hs : SyB S s) (hk : kindsOf P (d + 1) t = some [k]) (hns : ∀ fs, P.underlying t ≠ some (.struct fs)) (hx : VR S φ x a) (hy : VR S φ y b) (hr : eqC s k x y = some r) (D : Nat) :
    (Op.equalIn (D + 1) t a b).run P W = .ok r W := by
  unfold kindsOf at hk
  split at hk
  · rename_i hu
    cases hk
    unfold eqC at hr
    split at hr
    · cases hx; cases hy
      cases hr
      rw [run_equalIn_bool' W D t _ _ hu, boolEq]
    all_goals first | (exfalso; omega) | (cases hr; done)
  · rename_i k' hu
    cases hk
    have key : ∀ (j : IntKind) (p q : Int), (Op.equalIn (D + 1) t (.int j p) (.int j q)).run P W = .ok (p == q) W := fun j p q => run_equalIn_int W D t j k' p q hu
    unfold eqC at hr
    split at hr
    · exfalso; omega
    · rename_i j p k'' q _
      obtain ⟨h1, hr⟩ := gd_eq.1 hr
      cases hr
      have := kEq_eq h1; subst this
      have hx : a = .int _ _ := hx
      have hy : b = .int _ _ := hy
      subst hx; subst hy
      rw [key, iEq_eq]; congr 1
    · obtain ⟨v, h1, hr⟩ := ob_eq.1 hr
      obtain ⟨b', rfl, hr⟩ := onBool_eq.1 hr
      cases hr
      obtain ⟨k1, j1, p, q, rfl, rfl, w, h2, h3⟩ := symBin_run (P := P) (W := W) (t := t) hs hx hy h1
      obtain ⟨rfl, rfl⟩ := binOp_eql_int h2
      cases h3
      exact key _ _ _
    · exfalso; omega
    · exfalso; omega
    · cases hr
  · rename_i hu
    cases hk
    unfold eqC at hr
    split at hr
    · exfalso; omega
    · exfalso; omega
    · exfalso; omega
    · rename_i la a' lb b' _
      cases hr
      obtain ⟨sa, rfl, h1⟩ := hx.str
      obtain ⟨sb, rfl, h2⟩ := hy.str
      rw [run_equalIn_string W D t _ _ hu, SR.eq_iff h1 h2]
    · rename_i i0 d0 j0 e0 _
      obtain ⟨h1, hr⟩ := gd_eq.1 hr
      obtain ⟨h2, hr⟩ := gd_eq.1 hr
      cases hr
      rw [natBeq_eq] at h1
      rw [iEq_eq] at h2
      have h2 := of_decide_eq_true h2
      subst h1; subst h2
      have hx : a = .string _ := hx
      have hy : b = .string _ := hy
      rw [hx, hy, run_equalIn_string W D t _ _ hu]; simp
    · cases hr
  · rename_i fs hu; exact absurd hu (hns fs)
  · cases hk
end
end Eng

/- The equality of structs that hold truth values, numbers and strings alone. -/
namespace Eng
open Go

section
variable {P : Program} {S : Sym} {s : Sy} {φ : Mp} {W : World}
theorem eqCells_nil {cs ds : List V} {r : Bool} (h : eqCells s [] cs ds = some r) : cs = [] ∧ ds = [] ∧ r = true := by
  cases cs <;> cases ds <;> simp [eqCells] at h
  exact ⟨rfl, rfl, h⟩
theorem eqCells_cons {k : Nat} {ks : List Nat} {cs ds : List V} {r : Bool} (h : eqCells s (k :: ks) cs ds = some r) :
    ∃ x l y m a r', cs = x :: l ∧ ds = y :: m ∧ eqC s k x y = some a ∧ eqCells s ks l m = some r' ∧ r = (a && r') := by
  cases cs with
  | nil => simp [eqCells] at h
  | cons x l =>
    cases ds with
    | nil => simp [eqCells] at h
    | cons y m =>
      simp only [eqCells] at h
      obtain ⟨a, h1, h⟩ := ob_eq.1 h
      obtain ⟨r', h2, h⟩ := ob_eq.1 h
      refine ⟨x, l, y, m, a, r', rfl, rfl, h1, h2, ?_⟩
      cases a with
      | true => cases h; rfl
      | false => cases h; rfl
theorem eqCells_append : ∀ {a b : List Nat} {cs ds : List V} {r : Bool}, eqCells s (a ++ b) cs ds = some r → ∃ r1 r2, eqCells s a (cs.take a.length) (ds.take a.length) = some r1 ∧ eqCells s b (cs.drop a.length) (ds.drop a.length) = some r2 ∧ r = (r1 && r2)
  | [], b, cs, ds, r, h => ⟨true, r, rfl, h, by simp⟩
  | k :: a, b, cs, ds, r, h => by
    obtain ⟨x, l, y, m, q, r', rfl, rfl, h1, h2, rfl⟩ := eqCells_cons (ks := a ++ b) h
    obtain ⟨r1, r2, h3, h4, rfl⟩ := eqCells_append h2
    refine ⟨q && r1, r2, ?_, h4, by rw [Bool.and_assoc]⟩
    show ob (eqC s k x y) (fun a_1 => ob (eqCells s a (l.take a.length) (m.take a.length)) fun r => Bool.casesOn a_1 (some false) (some r)) = _
    rw [h1, h3]
    cases q <;> rfl
theorem VRL.take {n : Nat} : ∀ {vs : List V} {ws : List Value}, VRL S φ vs ws → VRL S φ (vs.take n) (ws.take n) := by
  intro vs ws h
  refine VRL.of_get (by simp [h.length]) fun i v hv => ?_
  rw [List.getElem?_take] at hv
  by_cases hi : i < n
  · rw [if_pos hi] at hv
    obtain ⟨w, h1, h2⟩ := h.get hv
    exact ⟨w, by rw [List.getElem?_take, if_pos hi]; exact h1, h2⟩
  · rw [if_neg hi] at hv; cases hv
theorem VRL.drop {n : Nat} : ∀ {vs : List V} {ws : List Value}, VRL S φ vs ws → VRL S φ (vs.drop n) (ws.drop n) := by
  intro vs ws h
  refine VRL.of_get (by simp [h.length]) fun i v hv => ?_
  rw [List.getElem?_drop] at hv
  obtain ⟨w, h1, h2⟩ := h.get hv
  exact ⟨w, by rw [List.getElem?_drop]; exact h1, h2⟩

theorem part_run {d t o : Nat} {ks : List Nat} (hk : kindsOf P d t = some ks) (hn : ks.length = P.cellsOf t) {xs : Array Value} (hlen : ks.length ≤ xs.size - o) :
    ∃ a, (part t xs o).run P W = .ok a W ∧ Cellw P t a ((xs.toList.drop o).take ks.length) := by
  cases d with
  | zero => cases hk
  | succ d =>
    have leaf : ∀ u, P.underlying t = some u → (∀ fs, u ≠ .struct fs) → (isAgg t).run P W = .ok false W → ks.length = 1 → ∃ a, (part t xs o).run P W = .ok a W ∧ Cellw P t a ((xs.toList.drop o).take ks.length) := by
      intro u hu hns hag h1
      have hlt : o < xs.size := by omega
      refine ⟨xs[o], ?_, ?_⟩
      · simp [part, Sem.run_bind, hag, hlt]
      · unfold Cellw
        rw [hu]
        have e : (xs.toList.drop o).take ks.length = [xs[o]] := by
          rw [h1, List.drop_eq_getElem_cons (by simpa using hlt)]
          simp
        split
        · rename_i fs h; cases h; exact absurd rfl (hns fs)
        · exact e
    unfold kindsOf at hk
    split at hk
    · rename_i hu; cases hk
      exact leaf _ hu (fun _ => by simp) (by simp [isAgg, run_underlying hu]) rfl
    · rename_i k hu; cases hk
      exact leaf _ hu (fun _ => by simp) (by simp [isAgg, run_underlying hu]) rfl
    · rename_i hu; cases hk
      exact leaf _ hu (fun _ => by simp) (by simp [isAgg, run_underlying hu]) rfl
    · rename_i fs hu
      have hag : (isAgg t).run P W = .ok true W := by simp [isAgg, run_underlying hu]
      have hinfo : ∃ i, P.info? t = some i := by
        unfold Program.underlying at hu
        cases h : P.info? t with
        | none => rw [h] at hu; cases hu
        | some i => exact ⟨i, rfl⟩
      obtain ⟨i, hi⟩ := hinfo
      have hsz : (Go.sizeOf t).run P W = .ok ks.length W := by
        rw [hn]; simp [Go.sizeOf, typeInfo, hi, Program.cellsOf]
      refine ⟨.agg (xs.extract o (o + ks.length)), ?_, ?_⟩
      · simp [part, Sem.run_bind, hag, hsz]
      · unfold Cellw
        rw [hu]
        refine ⟨_, rfl, ?_⟩
        simp [List.extract_eq_take_drop]
    · cases hk

theorem kindsFs_run (hs : SyB S s) {d D : Nat} (hrec : ∀ t ks, kindsOf P d t = some ks → ∀ cs ds a b ws us r, Cellw P t a ws → Cellw P t b us → VRL S φ cs ws → VRL S φ ds us → eqCells s ks cs ds = some r → (Op.equalIn D t a b).run P W = .ok r W) {xs ys : Array Value} :
    ∀ (fl : List Field) (o : Nat) (ks : List Nat) (cs ds : List V) (r : Bool), kindsFs P (kindsOf P d) fl o = some ks → VRL S φ cs (xs.toList.drop o) → VRL S φ ds (ys.toList.drop o) → eqCells s ks cs ds = some r → (Op.eqFields D xs ys fl).run P W = .ok r W
  | [], o, ks, cs, ds, r, hk, hx, hy, hr => by
    cases hk
    obtain ⟨_, _, rfl⟩ := eqCells_nil hr
    simp [Op.eqFields]
  | f :: fl, o, ks, cs, ds, r, hk, hx, hy, hr => by
    unfold kindsFs at hk
    cases hc : (f.name != "_") && Nat.beq f.offset o with
    | false => rw [hc] at hk; cases hk
    | true =>
      rw [hc] at hk
      simp only [Bool.and_eq_true, natBeq_eq] at hc
      obtain ⟨h1, h2⟩ := hc
      have h1 : f.name ≠ "_" := by simpa using h1
      dsimp only [cond_true] at hk
      split at hk
      · rename_i ka kb hka hkb
        cases hl : Nat.beq ka.length (P.cellsOf f.type) with
        | false => rw [hl] at hk; cases hk
        | true =>
          rw [hl] at hk
          cases hk
          rw [natBeq_eq] at hl
          obtain ⟨r1, r2, h3, h4, rfl⟩ := eqCells_append hr
          have lenOf : ∀ {ks : List Nat} {cs ds : List V} {r : Bool}, eqCells s ks cs ds = some r → cs.length = ks.length ∧ ds.length = ks.length := by
            intro ks
            induction ks with
            | nil => intro cs ds r h; obtain ⟨rfl, rfl, _⟩ := eqCells_nil h; exact ⟨rfl, rfl⟩
            | cons k ks ih =>
              intro cs ds r h
              obtain ⟨x, l, y, m, a, r', rfl, rfl, _, h2, _⟩ := eqCells_cons h
              obtain ⟨h3, h4⟩ := ih h2
              exact ⟨by simp [h3], by simp [h4]⟩
          obtain ⟨l1, l2⟩ := lenOf hr
          have l3 := hx.length
          have l4 := hy.length
          simp at l1 l2 l3 l4
          obtain ⟨a, h5, h6⟩ := part_run (P := P) (W := W) (o := o) hka hl (xs := xs) (by omega)
          obtain ⟨b, h7, h8⟩ := part_run (P := P) (W := W) (o := o) hka hl (xs := ys) (by omega)
          have h9 := hrec f.type ka hka (cs.take ka.length) (ds.take ka.length) a b _ _ r1 h6 h8 hx.take hy.take h3
          have ih := kindsFs_run hs hrec (xs := xs) (ys := ys) fl (o + P.cellsOf f.type) kb (cs.drop ka.length) (ds.drop ka.length) r2 hkb (by rw [← hl, ← List.drop_drop]; exact hx.drop) (by rw [← hl, ← List.drop_drop]; exact hy.drop) h4
          simp only [Op.eqFields]
          rw [if_pos h1]
          simp only [Sem.run_bind, h2, h5, h7, h9, Result.andThen_ok]
          cases r1 with
          | false => simp
          | true => simpa using ih
      · cases hk
theorem kinds_run (hs : SyB S s) : ∀ (d t : Nat) (ks : List Nat), kindsOf P d t = some ks → ∀ D, d ≤ D → ∀ (cs ds : List V) (a b : Value) (ws us : List Value) (r : Bool), Cellw P t a ws → Cellw P t b us → VRL S φ cs ws → VRL S φ ds us → eqCells s ks cs ds = some r →
    (Op.equalIn D t a b).run P W = .ok r W
  | 0, t, ks, hk => by cases hk
  | d + 1, t, ks, hk => by
    intro D hD cs ds a b ws us r ha hb hx hy hr
    obtain ⟨D, rfl⟩ : ∃ D', D = D' + 1 := ⟨D - 1, by omega⟩
    have hk0 := hk
    have leaf : ∀ u, P.underlying t = some u → (∀ fs, u ≠ .struct fs) → ∀ k, ks = [k] → (Op.equalIn (D + 1) t a b).run P W = .ok r W := by
      intro u hu hns k hks
      subst hks
      unfold Cellw at ha hb
      rw [hu] at ha hb
      have ha : ws = [a] := by
        split at ha
        · rename_i fs h; cases h; exact absurd rfl (hns fs)
        · exact ha
      have hb : us = [b] := by
        split at hb
        · rename_i fs h; cases h; exact absurd rfl (hns fs)
        · exact hb
      subst ha; subst hb
      obtain ⟨x, l, y, m, q, r', rfl, rfl, h1, h2, rfl⟩ := eqCells_cons hr
      obtain ⟨rfl, rfl, rfl⟩ := eqCells_nil h2
      unfold VRL at hx hy
      obtain ⟨w, _, e1, h3, _⟩ := hx
      obtain ⟨w', _, e2, h4, _⟩ := hy
      cases e1; cases e2
      rw [Bool.and_true]
      exact equalIn_leaf hs hk0 (fun fs e => hns fs (by rw [hu] at e; cases e; rfl)) h3 h4 h1 D
    unfold kindsOf at hk
    split at hk
    · rename_i hu; cases hk; exact leaf _ hu (fun _ => by simp) _ rfl
    · rename_i k hu; cases hk; exact leaf _ hu (fun _ => by simp) _ rfl
    · rename_i hu; cases hk; exact leaf _ hu (fun _ => by simp) _ rfl
    · rename_i fs hu
      cases hst : P.stoodInHeld t with
      | true => rw [hst] at hk; cases hk
      | false =>
        rw [hst] at hk
        dsimp only [cond_false] at hk
        unfold Cellw at ha hb
        rw [hu] at ha hb
        obtain ⟨xs, rfl, rfl⟩ := ha
        obtain ⟨ys, rfl, rfl⟩ := hb
        have hfo : P.fieldsOf t = fs := by simp [Program.fieldsOf, hu]
        rw [run_equalIn_agg W D t xs ys (by rw [hfo]; exact hu) hst, hfo]
        refine kindsFs_run hs (fun t' ks' hk' cs ds a b ws us r h1 h2 h3 h4 h5 => kinds_run hs d t' ks' hk' D (by omega) cs ds a b ws us r h1 h2 h3 h4 h5) fs.toList 0 ks cs ds r hk (by simpa using hx) (by simpa using hy) hr
    · cases hk
/-- What the compiler asks of struct types. -/
theorem eqs_of (hs : SyB S s) {t : Nat} {ks : List Nat} (hk : kindsOf P 100 t = some ks) (hg : P.eqGuardType P.depth t = false) (hst : ∃ fs, P.underlying t = some (.struct fs)) (op : BinOp) (x y : Operand) (xs ys : Array Value) (cs ds : List V) (r : Bool) (hx : VRL S φ cs xs.toList) (hy : VRL S φ ds ys.toList) (hr : eqCells s ks cs ds = some r) :
    (eqGuard op t x y (.agg xs) (.agg ys)).run P W = .ok () W ∧ (Op.equal t (.agg xs) (.agg ys)).run P W = .ok r W := by
  obtain ⟨fs, hu⟩ := hst
  refine ⟨run_eqGuard_agg W op t x y xs ys hg, ?_⟩
  have e : Op.equal t (.agg xs) (.agg ys) = Op.equalIn Op.maxDepth t (.agg xs) (.agg ys) := rfl
  rw [e]
  exact kinds_run hs 100 t ks hk Op.maxDepth (by decide) cs ds _ _ xs.toList ys.toList r (by unfold Cellw; rw [hu]; exact ⟨xs, rfl, rfl⟩) (by unfold Cellw; rw [hu]; exact ⟨ys, rfl, rfl⟩) hx hy hr
end

def eqsCheck (P : Program) (t : Nat) (ks : List Nat) : Bool :=
  (kindsOf P 100 t == some ks) && (!(P.eqGuardType P.depth t) && (match P.underlying t with
    | some (.struct _) => true
    | _ => false))
theorem syOK_of {P : Program} {S : Sym} {s : Sy} (hs : SyB S s) {eqsT : T (List Nat)} (he : ∀ t, s.eqs t = eqsT.get t) (h : allT (eqsCheck P) eqsT id = true) : SyOK P S s := by
  refine ⟨hs, ?_⟩
  intro t ks hk op x y xs ys cs ds r φ W hx hy hr
  have h1 := AllT_get (AllT_of h) ((he t).symm.trans hk)
  simp only [id, eqsCheck, Bool.and_eq_true, beq_iff_eq, Bool.not_eq_true'] at h1
  obtain ⟨h2, h3, h4⟩ := h1
  refine eqs_of hs h2 h3 ?_ op x y xs ys cs ds r hx hy hr
  split at h4
  · exact ⟨_, by assumption⟩
  · cases h4
end Eng

/- Functions that are met by a contract: what the engine says of them is so. -/
namespace Eng
open Go Go.Lib Go.RowKit

section
variable {P : Program} {S : Sym} {ty : Nat → Option TI} {ng g : Nat} {fn : Func} {φ : Mp} {h : H} {W W' : World} {hp : Array Go.Obj}

/-- In a world that has but grown, what was related is. -/
theorem RH.below (r : RH S ty φ h W.heap) (hb : Below W.heap.size W W') : RH S ty φ h W'.heap :=
  ⟨fun b o e nd => let ⟨L, o', h1, h2, h3⟩ := r.live b o e nd; ⟨L, o', h1, (hb.block L.c (r.dom _ _ h1).2).trans h2, h3⟩, r.inj,
    fun b L e => ⟨(r.dom b L e).1, Nat.lt_of_lt_of_le (r.dom b L e).2 hb.size⟩, r.key,
    fun b f e => let ⟨L, h1, h2, h3⟩ := r.ro b f e; ⟨L, h1, h2.mono (Gro.refl φ) (hb.block _ h2.lt), h3⟩⟩
theorem Fr.below (hb : Below W.heap.size W W') : Fr φ h W φ h W' :=
  ⟨Gro.refl φ, fun _ _ => rfl, fun _ _ l => l, Nat.le_refl _, hb.size, hb.tape, hb.os, hb.output, fun c hc n => ⟨hb.block c hc, n⟩⟩
theorem ans_below {v : V} {w : Value} (r : RH S ty φ h W.heap) (hb : Below W.heap.size W W') (hv : VR S φ v w) : Ans S ty φ h W [(v, h)] w W' :=
  ⟨v, h, φ, by simp, hv, r.below hb, Fr.below hb⟩

/-- A block that none of the numbers means gets a number. -/
theorem RH.newAt (r : RH S ty φ h hp) {o : Eng.Obj} {o' : Go.Obj} {L : Loc} (hne : ∀ b M, φ b = some M → M.c ≠ L.c) (hlt : L.c < hp.size) (ho' : hp[L.c]? = some o') (ho : OAt S ty (φ.add h.next L) o L o') :
    RH S ty (φ.add h.next L) ⟨h.next + 1, h.t.set h.next o⟩ hp := by
  have hx := Mp.ext_add (L := L) r.fresh
  refine ⟨fun b p e nd => ?_, fun b b' M M' lb lb' e e' hcc => ?_, fun b M e => ?_, fun b p e => ?_, fun b f e => ?_⟩
  rotate_right
  · obtain ⟨M, e1, e2, e3⟩ := r.ro b f e
    refine ⟨M, hx _ _ e1, e2.mono hx rfl, ?_⟩
    rintro ⟨b2, M2, ⟨p, e4, nd⟩, em, hc⟩
    rw [T.get_set] at e4
    by_cases hb : b2 = h.next
    · subst hb; rw [Mp.add_self] at em; simp at em; subst em
      exact hne _ _ e1 hc.symm
    · rw [if_neg hb] at e4; unfold Mp.add at em; rw [if_neg hb] at em
      exact e3 ⟨b2, M2, ⟨p, e4, nd⟩, em, hc⟩
  · rw [T.get_set] at e
    by_cases hb : b = h.next
    · rw [if_pos hb] at e; simp at e; subst e; subst hb
      exact ⟨L, o', Mp.add_self, ho', ho⟩
    · rw [if_neg hb] at e
      obtain ⟨M, p', e1, e2, e3⟩ := r.live b p e nd
      exact ⟨M, p', hx _ _ e1, e2, e3.mono hx⟩
  · have old : ∀ {b : Nat} {M : Loc}, Live ⟨h.next + 1, h.t.set h.next o⟩ b → (φ.add h.next L) b = some M → (b = h.next ∧ M = L) ∨ (b ≠ h.next ∧ Live h b ∧ φ b = some M) := by
      intro b M ⟨p, e, nd⟩ em
      rw [T.get_set] at e
      by_cases hb : b = h.next
      · subst hb; rw [Mp.add_self] at em; simp at em; exact .inl ⟨rfl, em.symm⟩
      · rw [if_neg hb] at e; unfold Mp.add at em; rw [if_neg hb] at em; exact .inr ⟨hb, ⟨p, e, nd⟩, em⟩
    rcases old lb e with ⟨h1, h2⟩ | ⟨h1, h2, h3⟩ <;> rcases old lb' e' with ⟨g1, g2⟩ | ⟨g1, g2, g3⟩
    · rw [h1, g1]
    · rw [h2] at hcc; exact absurd hcc.symm (hne _ _ g3)
    · rw [g2] at hcc; exact absurd hcc (hne _ _ h3)
    · exact r.inj b b' M M' h2 g2 h3 g3 hcc
  · unfold Mp.add at e
    by_cases hb : b = h.next
    · rw [if_pos hb] at e; simp at e; subst e; exact ⟨by simp; omega, hlt⟩
    · rw [if_neg hb] at e; have := r.dom _ _ e; exact ⟨by simp; omega, this.2⟩
  · rw [T.get_set] at e
    by_cases hb : b = h.next
    · simp; omega
    · rw [if_neg hb] at e; have := r.key _ _ e; simp; omega

/-- A world that has but grown, and one of its new blocks gets a number. -/
theorem ans_newAt {v : V} {w : Value} (r : RH S ty φ h W.heap) (hb : Below W.heap.size W W') {o : Eng.Obj} {o' : Go.Obj} {L : Loc} (hc : W.heap.size ≤ L.c) (ho' : W'.heap[L.c]? = some o') (ho : OAt S ty (φ.add h.next L) o L o')
    (hv : VR S (φ.add h.next L) v w) : Ans S ty φ h W [(v, ⟨h.next + 1, h.t.set h.next o⟩)] w W' := by
  have hx := Mp.ext_add (L := L) r.fresh
  have hlt := (Array.getElem?_eq_some_iff.1 ho').1
  refine ⟨v, _, φ.add h.next L, by simp, hv, (r.below hb).newAt (fun b M e => by have := (r.dom _ _ e).2; omega) hlt ho' ho, ?_⟩
  refine ⟨hx, fun b hb => by unfold Mp.add; rw [if_neg (by omega)], ?_, by simp, hb.size, hb.tape, hb.os, hb.output, fun c hc' n => ⟨hb.block c hc', ?_⟩⟩
  · rintro b hb ⟨p, e, nd⟩
    rw [T.get_set, if_neg (by omega)] at e
    exact ⟨p, e, nd⟩
  · rintro ⟨b2, M2, ⟨p, e4, nd⟩, em, hc2⟩
    rw [T.get_set] at e4
    by_cases hb2 : b2 = h.next
    · subst hb2; rw [Mp.add_self] at em; simp at em; subst em; omega
    · rw [if_neg hb2] at e4; unfold Mp.add at em; rw [if_neg hb2] at em
      exact n ⟨b2, M2, ⟨p, e4, nd⟩, em, hc2⟩
end

/-! ## Numbers' texts -/
noncomputable section
def okSym (i : Nat) : Bool := bIf (Nat.beq i 1) true (Nat.beq i 3)
def xDec : Ext := fun l h => match l with
  | [.sym i d] => gd (okSym i) (gd (iEq d 0) (one (.dec i 0) h))
  | _ => none
def xNum : Ext := fun l h => match l with
  | [.dec i d] => gd (okSym i) (gd (iEq d 0) (one (.tup [.sym i 0, .bool true]) h))
  | _ => none
def xSplit (j : Nat) : Ext := fun l h => match l with
  | [.dec i d, .sym k e] => gd (Nat.beq i j) (gd (iEq d 0) (gd (Nat.beq k 5) (gd (iEq e 1) (newO h (.cells 1 (T.ofL [.dec i 0]) 9 0 false) fun b h => one (.slc b 0 1 0 false) h))))
  | _ => none
def xCount : Ext := fun l h => match l with
  | [.dec i d, .int .u8 (.ofNat c)] => gd (okSym i) (gd (iEq d 0) (gd (Nat.beq c 32) (one (.int .i64 (.ofNat 0)) h)))
  | l => xCountS l h
def xWithin (b : Bool) : Ext := fun l h => match l with
  | [.sym i d, .int .i64 (.ofNat n)] => gd (iEq d 0) (bIf (Nat.beq i 0) (gd (Nat.beq n 50000000) (one (.sym 1 0) h)) (gd (Nat.beq i 4) (gd (Nat.beq n 1000) (one (bIf b (.sym 2 0) (.int .i64 (.ofNat 0))) h))))
  | _ => none

end
structure NumS (S : Sym) (j : Nat) (b : Bool) : Prop where
  ok : ∀ i, okSym i = true → 0 ≤ S.n i ∧ S.n i < 1000000000
  okj : okSym j = true
  ds : ∀ n, S.ds n = ⟨(itoa n).toArray⟩
  len : S.n 5 = (S.ds (S.n j)).size
  now : S.n 1 = S.n 0 % 50000000
  min : b = true → S.n 2 = S.n 4 % 1000
  min0 : b = false → S.n 4 % 1000 = 0
theorem NumS.nat {S : Sym} {j : Nat} {b : Bool} (hS : NumS S j b) {i : Nat} (hi : okSym i = true) : ∃ u : Nat, S.n i = u ∧ u < 1000000000 ∧ S.ds (S.n i) = ⟨(decDigits u).toArray⟩ := by
  obtain ⟨h0, h1⟩ := hS.ok i hi
  refine ⟨(S.n i).toNat, by omega, by omega, ?_⟩
  rw [hS.ds]
  unfold itoa
  rw [if_neg (by omega)]

section
variable {P : Program} {S : Sym} {ty : Nat → Option TI} {ng g j : Nat} {b : Bool} {fn : Func}
theorem ext_dec (hS : NumS S j b) {Q : World → Prop} (hQ : ∀ φ h (W : World), GOK ng φ → RH S ty φ h W.heap → Q W)
    (hc : ∀ (u : Nat), u < 1000000000 → ∀ W, Q W → Calls P g #[.int .i64 (u : Int)] W fun e w' => e = .returned (.string ⟨(decDigits u).toArray⟩) ∧ Below W.heap.size W w')
    (hf : P.funcs[g]? = some fn) (hname : (fn.name == "runtime.NumGoroutine") = false) (hb : fn.body.isNone = false) : ExtOK P S ty ng g xDec := by
  intro args h outs hr φ W args' hG ha r
  unfold xDec at hr
  split at hr
  · rename_i i d
    replace hr := gd_eq.1 hr; obtain ⟨h1, hr⟩ := hr
    replace hr := gd_eq.1 hr; obtain ⟨h2, hr⟩ := hr
    rw [iEq_eq] at h2
    obtain rfl : d = 0 := by simpa using h2
    cases hr
    unfold VRL at ha
    obtain ⟨w, ws, e, hv, hnil⟩ := ha
    unfold VRL at hnil; subst hnil
    have hw : w = .int .i64 (S.n i + 0) := hv
    obtain ⟨u, e1, e2, e3⟩ := hS.nat h1
    rw [Int.add_zero, e1] at hw
    subst hw
    rw [args_eq e]
    refine Does.of_calls hf hname hb ((hc u e2 W (hQ φ h W hG r)).mono ?_)
    rintro en w' ⟨rfl, hbl⟩
    refine ans_below r hbl ?_
    show Value.string _ = .string (S.ds (S.n i + 0))
    rw [Int.add_zero, e3]
  · cases hr
theorem ext_num (hS : NumS S j b)
    (hc : ∀ (u : Nat), u < 1000000000 → ∀ W, Calls P g #[.string ⟨(decDigits u).toArray⟩] W fun e w' => e = .returned (.tuple #[.int .i64 (u : Int), .bool true]) ∧ Below W.heap.size W w')
    (hf : P.funcs[g]? = some fn) (hname : (fn.name == "runtime.NumGoroutine") = false) (hb : fn.body.isNone = false) : ExtOK P S ty ng g xNum := by
  intro args h outs hr φ W args' hG ha r
  unfold xNum at hr
  split at hr
  · rename_i i d
    replace hr := gd_eq.1 hr; obtain ⟨h1, hr⟩ := hr
    replace hr := gd_eq.1 hr; obtain ⟨h2, hr⟩ := hr
    rw [iEq_eq] at h2
    obtain rfl : d = 0 := by simpa using h2
    cases hr
    unfold VRL at ha
    obtain ⟨w, ws, e, hv, hnil⟩ := ha
    unfold VRL at hnil; subst hnil
    have hw : w = .string (S.ds (S.n i + 0)) := hv
    obtain ⟨u, e1, e2, e3⟩ := hS.nat h1
    rw [Int.add_zero, e3] at hw
    subst hw
    rw [args_eq e]
    refine Does.of_calls hf hname hb ((hc u e2 W).mono ?_)
    rintro en w' ⟨rfl, hbl⟩
    refine ans_below r hbl ?_
    have hs : VR S φ (.sym i 0) (.int .i64 (u : Int)) := by
      show Value.int .i64 _ = .int .i64 (S.n i + 0)
      rw [Int.add_zero, e1]
    exact ⟨_, rfl, VRL.cons hs (VRL.one rfl)⟩
  · cases hr
theorem ext_split (hS : NumS S j b) {ti : TI} (hty : ty 9 = some ti) (hsz : ti.size = 1)
    (hc : ∀ (u : Nat), u < 1000000000 → ∀ W, Calls P g #[.string ⟨(decDigits u).toArray⟩, .int .i64 (((decDigits u).length : Int) + 1)] W fun e w' => ∃ v, e = .returned v ∧ w'.ownsRow W.heap.size 9 1 v 1 [.string ⟨(decDigits u).toArray⟩] ∧ Below W.heap.size W w')
    (hf : P.funcs[g]? = some fn) (hname : (fn.name == "runtime.NumGoroutine") = false) (hb : fn.body.isNone = false) : ExtOK P S ty ng g (xSplit j) := by
  intro args h outs hr φ W args' hG ha r
  unfold xSplit at hr
  split at hr
  · rename_i i d k e
    replace hr := gd_eq.1 hr; obtain ⟨h1, hr⟩ := hr
    replace hr := gd_eq.1 hr; obtain ⟨h2, hr⟩ := hr
    replace hr := gd_eq.1 hr; obtain ⟨h3, hr⟩ := hr
    replace hr := gd_eq.1 hr; obtain ⟨h4, hr⟩ := hr
    rw [natBeq_eq] at h1 h3
    rw [iEq_eq] at h2 h4
    obtain rfl : d = 0 := by simpa using h2
    obtain rfl : e = 1 := by simpa using h4
    subst h1; subst h3
    rw [newO_eq] at hr
    cases hr
    unfold VRL at ha
    obtain ⟨w, ws, ea, hv, ha⟩ := ha
    unfold VRL at ha
    obtain ⟨w2, ws2, e2, hv2, hnil⟩ := ha
    unfold VRL at hnil; subst hnil; subst e2
    have hw : w = .string (S.ds (S.n i + 0)) := hv
    have hw2 : w2 = .int .i64 (S.n 5 + 1) := hv2
    obtain ⟨u, e1, e2, e3⟩ := hS.nat hS.okj
    have hl := hS.len
    rw [e3] at hl
    have hl2 : S.n 5 = ((decDigits u).length : Int) := by rw [hl]; rfl
    rw [Int.add_zero, e3] at hw
    rw [hl2] at hw2
    subst hw; subst hw2
    rw [args_eq ea]
    refine Does.of_calls hf hname hb ((hc u e2 W).mono ?_)
    rintro en w' ⟨v, rfl, ⟨_, hown⟩, hbl⟩
    rcases hown with ⟨_, h0⟩ | ⟨gb, cap, cur, rfl, hgb, hcells, hcap, hmax, hsize, htake⟩
    · cases h0
    · have hcap63 : cap < 2 ^ 63 := by unfold maxLen at hmax; omega
      have hlt : 0 < cur.size := by omega
      have hcur : cur[0]? = some (.string ⟨(decDigits u).toArray⟩) := by
        have := congrArg (fun l => l[0]?) htake
        simpa using this
      refine ans_newAt r hbl (L := ⟨gb, cur.size, 1⟩) hgb hcells ?_ ?_
      · refine ⟨cur, 0, 0, rfl, rfl, hlt, fun t ht => ?_, fun q v hv => ?_, fun q h1 h2 => by omega, Nat.le_refl _⟩
        · rw [hty] at ht; cases ht; exact hsz.symm
        · rw [T.ofL_get] at hv
          cases q with
          | zero =>
            simp at hv; subst hv
            refine ⟨by omega, _, hcur, ?_⟩
            show Value.string _ = .string (S.ds (S.n i + 0))
            rw [Int.add_zero, e3]
          | succ q => simp at hv
      · exact VR.newOpen Mp.add_self hcap hcap63 (by simp; omega)
  · cases hr
theorem ext_count (hS : NumS S j b) (hf : P.funcs[g]? = some fn) (hname : (fn.name == "runtime.NumGoroutine") = false) (hb : fn.body.isNone = true) (hn : Extern.findNext fn = none) (he : Extern.find fn = some Extern.BytealgCount.count)
    (hdig : ∀ u, ∀ c ∈ decDigits u, 48 ≤ c.toNat ∧ c.toNat ≤ 57) : ExtOK P S ty ng g xCount := by
  intro args h outs hr φ W args' hG ha r
  unfold xCount at hr
  split at hr
  · rename_i i d c
    replace hr := gd_eq.1 hr; obtain ⟨h1, hr⟩ := hr
    replace hr := gd_eq.1 hr; obtain ⟨h2, hr⟩ := hr
    replace hr := gd_eq.1 hr; obtain ⟨h3, hr⟩ := hr
    rw [iEq_eq] at h2
    rw [natBeq_eq] at h3
    obtain rfl : d = 0 := by simpa using h2
    subst h3
    cases hr
    unfold VRL at ha
    obtain ⟨w, ws, ea, hv, ha⟩ := ha
    unfold VRL at ha
    obtain ⟨w2, ws2, e2, hv2, hnil⟩ := ha
    unfold VRL at hnil; subst hnil; subst e2
    have hw : w = .string (S.ds (S.n i + 0)) := hv
    have hw2 : w2 = .int .u8 ((32 : Nat) : Int) := hv2
    obtain ⟨u, e1, e2, e3⟩ := hS.nat h1
    rw [Int.add_zero, e3] at hw
    subst hw; subst hw2
    rw [args_eq ea]
    refine does_extern hf hname hb hn he (Go.Lib.run_countString _ 32 W) ?_
    refine ans_one r ?_
    show Value.int .i64 _ = .int .i64 _
    congr 1
    have : countByte (decDigits u) (32 : UInt8) = 0 := List.count_eq_zero.2 fun hm => by have := hdig u _ hm; simp at this
    simpa using this
  · exact ext_countS hf hname hb hn he _ _ _ hr φ W args' hG ha r
theorem ext_within (hS : NumS S j b)
    (hc : ∀ (a n : Int), 0 < n → n ≤ 4611686018427387904 → ∀ W, Calls P g #[.int .i64 a, .int .i64 n] W fun e w' => e = .returned (.int .i64 (a % n)) ∧ w' = W)
    (hf : P.funcs[g]? = some fn) (hname : (fn.name == "runtime.NumGoroutine") = false) (hb : fn.body.isNone = false) : ExtOK P S ty ng g (xWithin b) := by
  intro args h outs hr φ W args' hG ha r
  unfold xWithin at hr
  split at hr
  · rename_i i d n
    replace hr := gd_eq.1 hr; obtain ⟨h2, hr⟩ := hr
    rw [iEq_eq] at h2
    obtain rfl : d = 0 := by simpa using h2
    unfold VRL at ha
    obtain ⟨w, ws, ea, hv, ha⟩ := ha
    unfold VRL at ha
    obtain ⟨w2, ws2, e2, hv2, hnil⟩ := ha
    unfold VRL at hnil; subst hnil; subst e2
    have hw : w = .int .i64 (S.n i + 0) := hv
    have hw2 : w2 = .int .i64 (n : Int) := hv2
    rw [Int.add_zero] at hw
    subst hw; subst hw2
    rw [args_eq ea]
    cases h0 : Nat.beq i 0 with
    | true =>
      rw [h0] at hr
      replace hr := gd_eq.1 hr; obtain ⟨h1, hr⟩ := hr
      rw [natBeq_eq] at h0 h1
      subst h0; subst h1
      cases hr
      refine Does.of_calls hf hname hb ((hc (S.n 0) 50000000 (by omega) (by omega) W).mono ?_)
      rintro en w' ⟨rfl, rfl⟩
      refine ans_one r ?_
      show Value.int .i64 _ = .int .i64 (S.n 1 + 0)
      rw [hS.now, Int.add_zero]
    | false =>
      rw [h0] at hr
      replace hr := gd_eq.1 hr; obtain ⟨h3, hr⟩ := hr
      replace hr := gd_eq.1 hr; obtain ⟨h1, hr⟩ := hr
      rw [natBeq_eq] at h3 h1
      subst h3; subst h1
      cases hr
      refine Does.of_calls hf hname hb ((hc (S.n 4) 1000 (by omega) (by omega) W).mono ?_)
      rintro en w' ⟨rfl, rfl⟩
      refine ans_one r ?_
      cases b with
      | true =>
        show Value.int .i64 _ = .int .i64 (S.n 2 + 0)
        rw [hS.min rfl, Int.add_zero]
      | false =>
        show Value.int .i64 _ = .int .i64 0
        rw [hS.min0 rfl]
  · cases hr
end
end Eng

/- From the listed tables to the start of a run; from its end to the call's. -/
namespace Eng
open Go Go.Lib Go.RowKit

section
variable {P : Program} {S : Sym} {ty : Nat → Option TI} {ng g : Nat} {φ : Mp} {h : H} {W W' : World}

theorem tab_of_ro {name : String} {k : IntKind} {zs : List Int} {f : T V} (hg : P.globalNamed name = some g) (hro : S.ro g = some f) (hf : ∀ i, f.get i = (zs[i]?).map fun z => V.int k z) (hlt : g < ng) (hG : GOK ng φ) (r : RH S ty φ h W.heap) : TabIs P W name k zs := by
  obtain ⟨L, h1, ⟨arr, e, fr, h2, h3, h4⟩, _⟩ := r.ro g f hro
  obtain ⟨L', g1, g2⟩ := hG g hlt
  rw [g1] at h1
  cases h1
  rw [g2] at h2
  unfold TabIs World.var?
  rw [hg]
  simp only [Option.bind_some, h2]
  congr 1
  apply Array.ext_getElem?
  intro i
  cases hz : zs[i]? with
  | none =>
    have := h4 i (by rw [hf, hz]; rfl)
    rw [this]; simp [hz]
  | some z =>
    obtain ⟨w, e1, e2⟩ := h3 i (.int k z) (by rw [hf, hz]; rfl)
    have : w = .int k z := e2
    rw [e1, this]; simp [hz]
theorem ro_of_tab {name : String} {k : IntKind} {zs : List Int} {f : T V} (hg : P.globalNamed name = some g) (hf : ∀ i, f.get i = (zs[i]?).map fun z => V.int k z) (h : TabIs P W name k zs) (L : Loc) (hL : L.c = g) : RoAt S φ f L W.heap := by
  unfold TabIs World.var? at h
  rw [hg] at h
  simp only [Option.bind_some] at h
  split at h
  · rename_i cs e fr hc
    cases h
    refine ⟨_, e, fr, by rw [hL]; exact hc, fun i v hv => ?_, fun i hi => ?_⟩
    · rw [hf] at hv
      obtain ⟨z, h1, rfl⟩ := Option.map_eq_some_iff.1 hv
      exact ⟨.int k z, by simp [h1], rfl⟩
    · rw [hf] at hi
      have := Option.map_eq_none_iff.1 hi
      simp only [List.getElem?_toArray, List.getElem?_map, this, Option.map_none]
  · cases h
theorem tab_lt {name : String} {k : IntKind} {zs : List Int} (hg : P.globalNamed name = some g) (h : TabIs P W name k zs) : g < W.heap.size := by
  unfold TabIs World.var? at h
  rw [hg] at h
  simp only [Option.bind_some] at h
  split at h
  · rename_i hc; exact (Array.getElem?_eq_some_iff.1 hc).1
  · cases h

/-- At the start: only the package variables' blocks have numbers, their own. -/
def phi0 (ng : Nat) : Mp := fun b => if b < ng then some ⟨b, 0, 0⟩ else none
theorem gok_phi0 : GOK ng (phi0 ng) := fun g hg => ⟨⟨g, 0, 0⟩, by unfold phi0; rw [if_pos hg], rfl⟩
theorem not_own0 {c : Nat} : ¬ Own (phi0 ng) ⟨ng, .nil⟩ c := by
  rintro ⟨b, L, ⟨o, e, _⟩, _⟩
  simp at e
theorem rh0 (hs : ng ≤ W.heap.size) (hr : ∀ b f, S.ro b = some f → b < ng ∧ RoAt S (phi0 ng) f ⟨b, 0, 0⟩ W.heap) : RH S ty (phi0 ng) ⟨ng, .nil⟩ W.heap := by
  refine ⟨fun b o e => by simp at e, ?_, fun b L e => ?_, fun b o e => by simp at e, fun b f e => ?_⟩
  · rintro b b' L L' ⟨o, e, _⟩
    simp at e
  · unfold phi0 at e
    split at e
    · cases e
      rename_i hb
      exact ⟨hb, Nat.lt_of_lt_of_le hb hs⟩
    · cases e
  · obtain ⟨h1, h2⟩ := hr b f e
    exact ⟨_, by unfold phi0; rw [if_pos h1], h2, not_own0⟩
theorem ans_true {outs : List (V × H)} (ht : isT (some outs) = true) {w : Value} (ha : Ans S ty (phi0 ng) ⟨ng, .nil⟩ W outs w W') : w = .bool true ∧ Below W.heap.size W W' := by
  obtain ⟨v, h', φ', hm, hv, _, hf⟩ := ha
  refine ⟨?_, hf.os, hf.tape, hf.out, hf.size, fun k hk => (hf.keep k hk not_own0).1⟩
  unfold isT at ht
  split at ht
  · rename_i b h2 e
    cases e
    simp at hm
    rw [hm.1] at hv
    have : w = .bool b := hv
    rw [this, ht]
  · cases ht
/-- The run in one go: the function, run to its end by the engine, answers true, and leaves what there was. -/
theorem run_true {x : Ctx} (hX : CxOK P S x) {fn : Func} (hfn : FnOK P g fn) {n : Nat} {args : List V} (hr : isT (enter x (callN x n) fn args ⟨x.sy.ng, .nil⟩) = true) {args' : Array Value} (ha : VRL S (phi0 x.sy.ng) args args'.toList) (hs : x.sy.ng ≤ W.heap.size)
    (hro : ∀ b f, S.ro b = some f → b < x.sy.ng ∧ RoAt S (phi0 x.sy.ng) f ⟨b, 0, 0⟩ W.heap) : Calls P g args' W fun e w => e = .returned (.bool true) ∧ Below W.heap.size W w := by
  cases he : enter x (callN x n) fn args ⟨x.sy.ng, .nil⟩ with
  | none => rw [he] at hr; cases hr
  | some outs =>
    rw [he] at hr
    refine (enter_calls draws hX (callN_sound draws hX n) hfn he gok_phi0 ha (rh0 hs hro)).2.mono fun e w hq => ?_
    cases e with
    | returned v =>
      obtain ⟨rfl, hb⟩ := ans_true hr hq
      exact ⟨rfl, hb⟩
    | panicked ch => exact hq.elim
    | outgrown => exact hq.elim
end
end Eng
