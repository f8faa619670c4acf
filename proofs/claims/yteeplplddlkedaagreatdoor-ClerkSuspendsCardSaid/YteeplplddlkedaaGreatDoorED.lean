/- What the engine says of regions, of loops, of functions is so, in whatever order the operations are drawn. No condition. -/
import Derived.Test.YteeplplddlkedaaGreatDoorEC
import Derived.Orders
/- Frames: what the kept slots, the region's list, and the names say of the model's own slots. -/
namespace Eng
open Go

def slotV (a : Act) (t : Nat) : Value := a.tmps.getD t undef
theorem slot_put {a : Act} {d t : Nat} {w : Value} (hd : d < a.tmps.size) : slotV (a.put (some d) w) t = if t = d then w else slotV a t := by
  unfold slotV Act.put
  simp only [Array.getD_eq_getD_getElem?]
  by_cases h : t = d
  · subst h
    rw [if_pos rfl, Array.getElem?_setIfInBounds_self_of_lt hd]
    rfl
  · rw [if_neg h, Array.getElem?_setIfInBounds_ne (fun e => h e.symm)]
theorem put_size {a : Act} {d : Option Nat} {w : Value} : (a.put d w).tmps.size = a.tmps.size := by
  cases d <;> simp [Act.put]
theorem put_defers {a : Act} {d : Option Nat} {w : Value} : (a.put d w).defers = a.defers := by
  cases d <;> rfl

def SrcR (S : Sym) (φ : Mp) (c : Cx) (f : FT) (l : List V) : Src → Value → Prop
  | .loc k, w => k < l.length ∧ ∀ v, l.reverse[k]? = some v → VR S φ v w
  | .ft t, w => t < c.n → ∀ v, FT.at c.d t f = some v → VR S φ v w
  | .con v, w => VR S φ v w
  | .fa s off, w => ∃ A : Addr, SrcR S φ c f l s (.pointer (some A)) ∧ w = .pointer (some (A.add off))
  | .bad, _ => True

def FR (S : Sym) (φ : Mp) (c : Cx) (X : Nat → Prop) (f : FT) (a : Act) : Prop := ∀ t, X t → t < c.n → c.kept t = true → ∀ v, FT.at c.d t f = some v → VR S φ v (slotV a t)
def IsP (w : Value) : Prop := ∃ A : Addr, w = .pointer (some A)
def EnvR (S : Sym) (φ : Mp) (c : Cx) (X : Nat → Prop) (f : FT) (l : List V) (env : Env) (a : Act) : Prop :=
  ∀ t e, X t → lookE env t = some e → SrcR S φ c f l e.s (slotV a t) ∧ (e.p = true → IsP (slotV a t)) ∧ t < c.n

section
variable {S : Sym} {φ φ' : Mp} {c : Cx} {f f' : FT} {l : List V} {env : Env} {a : Act} {w : Value} {v : V} {X : Nat → Prop}

theorem SrcR.mono (h : Gro φ φ') : ∀ {s : Src} {w : Value}, SrcR S φ c f l s w → SrcR S φ' c f l s w
  | .loc _, _, ⟨r, q⟩ => ⟨r, fun v e => VR.mono h (q v e)⟩
  | .ft _, _, r => fun ht v e => VR.mono h (r ht v e)
  | .con _, _, r => VR.mono h r
  | .fa _ _, _, ⟨A, r, e⟩ => ⟨A, r.mono h, e⟩
  | .bad, _, _ => trivial
theorem SrcR.push : ∀ {s : Src} {w : Value}, SrcR S φ c f l s w → SrcR S φ c f (v :: l) s w
  | .loc k, _, ⟨r, q⟩ => ⟨by simp; omega, fun u e => q u (by rw [List.reverse_cons, List.getElem?_append_left (by simpa using r)] at e; exact e)⟩
  | .ft _, _, r => r
  | .con _, _, r => r
  | .fa _ _, _, ⟨A, r, e⟩ => ⟨A, r.push, e⟩
  | .bad, _, _ => trivial
theorem SrcR.ft {d : Nat} (hf : ∀ t, t < c.n → t ≠ d → FT.at c.d t f' = FT.at c.d t f) : ∀ {s : Src} {w : Value}, s.on d = false → SrcR S φ c f l s w → SrcR S φ c f' l s w
  | .loc _, _, _, r => r
  | .ft t, _, h, r => fun ht v e => r ht v (by rw [← hf t ht (by unfold Src.on at h; rw [natBeq_ne] at h; exact h)]; exact e)
  | .con _, _, _, r => r
  | .fa _ _, _, h, ⟨A, r, e⟩ => ⟨A, SrcR.ft hf h r, e⟩
  | .bad, _, _, _ => trivial

theorem eAt_at : ∀ {k : Nat} {e : Ev}, eAt k = some e → ∀ (f : FT) (l : List V), e f l = l[k]?
  | 0, e, h, f, l => by cases h; cases l <;> rfl
  | k + 1, e, h, f, l => by
    unfold eAt at h
    obtain ⟨e', h1, h⟩ := ob_eq.1 h
    cases h
    cases l with
    | nil => rfl
    | cons x l => show e' f l = l[k]?; exact eAt_at h1 f l
theorem SrcR.ev : ∀ {s : Src} {e : Ev} {w : Value}, SrcR S φ c f l s w → evSrc c l.length s = some e → EvR S φ f l e w
  | .loc k, e, w, ⟨hk, r⟩, h => by
    unfold evSrc at h
    obtain ⟨_, h⟩ := gd_eq.1 h
    intro v hv
    rw [eAt_at h] at hv
    refine r v ?_
    rw [List.getElem?_reverse hk]
    exact hv
  | .ft t, e, w, r, h => by
    unfold evSrc at h
    obtain ⟨_, h⟩ := gd_eq.1 h
    obtain ⟨h2, h⟩ := gd_eq.1 h
    obtain ⟨p, h3, h⟩ := ob_eq.1 h
    cases h
    rw [natBlt_eq] at h2
    intro v hv
    exact r h2 v (by rw [← acc_at h3]; exact hv)
  | .con v, e, w, r, h => by
    cases h
    intro u hu
    cases hu
    exact r
  | .fa s off, e, w, ⟨A, r, he⟩, h => by
    unfold evSrc at h
    obtain ⟨e', h1, h⟩ := ob_eq.1 h
    cases h
    intro u hu
    obtain ⟨b, o, h2, hu⟩ := oPtr hu
    rw [fN_eq] at hu
    cases hu
    have h3 := SrcR.ev r h1 _ h2
    unfold VR at h3 ⊢
    obtain ⟨L, h4, h5⟩ := h3
    cases h5
    rw [add_at] at he
    exact ⟨L, h4, he⟩
  | .bad, e, w, _, h => by cases h

theorem lookE_kill {d : Nat} : ∀ {env : Env} {t : Nat}, lookE (killE d env) t = (lookE env t).map fun e => bif e.s.on d then ⟨e.t, .bad, false, 0⟩ else e
  | [], t => rfl
  | e :: env, t => by
    show lookE ((Bool.casesOn (e.s.on d) e ⟨e.t, .bad, false, 0⟩ : Ent) :: killE d env) t = _
    have ht : (Bool.casesOn (e.s.on d) e ⟨e.t, .bad, false, 0⟩ : Ent).t = e.t := by cases e.s.on d <;> rfl
    show (Bool.casesOn (Nat.beq (Bool.casesOn (e.s.on d) e ⟨e.t, .bad, false, 0⟩ : Ent).t t) (lookE (killE d env) t) (some (Bool.casesOn (e.s.on d) e ⟨e.t, .bad, false, 0⟩ : Ent)) : Option Ent) = Option.map _ (Bool.casesOn (Nat.beq e.t t) (lookE env t) (some e) : Option Ent)
    rw [ht]
    cases Nat.beq e.t t with
    | true => cases h : e.s.on d <;> simp [h]
    | false => exact lookE_kill
theorem lookE_cons {e : Ent} {t : Nat} : lookE (e :: env) t = if e.t = t then some e else lookE env t := by
  show (Bool.casesOn (Nat.beq e.t t) (lookE env t) (some e) : Option Ent) = _
  cases h : Nat.beq e.t t with
  | true => rw [natBeq_eq] at h; rw [if_pos h]
  | false => rw [natBeq_ne] at h; rw [if_neg h]

/-- What holds at an operation of a region. -/
structure RSt (S : Sym) (φ : Mp) (c : Cx) (X : Nat → Prop) (env : Env) (f : FT) (l : List V) (a : Act) : Prop where
  fr : FR S φ c X f a
  env : EnvR S φ c X f l env a
  sz : a.tmps.size = c.n
  dp : c.n ≤ 4 ^ c.d

theorem RSt.mono (h : Gro φ φ') (r : RSt S φ c X env f l a) : RSt S φ' c X env f l a :=
  ⟨fun t hX ht hk v e => VR.mono h (r.fr t hX ht hk v e), fun t e hX he => ⟨(r.env t e hX he).1.mono h, (r.env t e hX he).2⟩, r.sz, r.dp⟩
theorem EnvR.nil : EnvR S φ c X f l [] a := fun t e _ h => by cases h
theorem FR.mono (h : Gro φ φ') (r : FR S φ c X f a) : FR S φ' c X f a := fun t hX ht hk v e => VR.mono h (r t hX ht hk v e)

theorem RSt.src (r : RSt S φ c X env f l a) (hG : GOK c.sy.ng φ) {x : Operand} (hX : ∀ t, x = .tmp t → X t) {e : Ent} (h : srcOf c env x = some e) : SrcR S φ c f l e.s (a.eval x) ∧ (e.p = true → IsP (a.eval x)) := by
  cases x with
  | tmp t =>
    simp only [srcOf] at h
    cases hl : lookE env t with
    | some e' => rw [hl] at h; cases h; exact ⟨(r.env t e (hX t rfl) hl).1, (r.env t e (hX t rfl) hl).2.1⟩
    | none =>
      rw [hl] at h
      obtain ⟨hk, h⟩ := gd_eq.1 h
      cases h
      exact ⟨fun ht v e => r.fr t (hX t rfl) ht hk v e, fun h => by cases h⟩
  | const v =>
    simp only [srcOf] at h
    obtain ⟨u, h1, h⟩ := ob_eq.1 h
    cases h
    exact ⟨conv_vr h1, fun h => by cases h⟩
  | global g =>
    simp only [srcOf] at h
    obtain ⟨h1, h⟩ := gd_eq.1 h
    cases h
    rw [natBlt_eq] at h1
    obtain ⟨L, h2, h3⟩ := hG g h1
    refine ⟨?_, fun _ => ⟨_, rfl⟩⟩
    show VR S φ (.ptr g 0) (.pointer (some ⟨g, 0, none⟩))
    unfold VR
    exact ⟨L, h2, by rw [h3]⟩
  | func g =>
    cases h
    refine ⟨?_, fun h => by cases h⟩
    show VR S φ (.fn (.func g) [] []) (.func (.func g) #[] #[])
    unfold VR
    exact ⟨#[], #[], rfl, VRL.nil, VRL.nil⟩
theorem RSt.ops (r : RSt S φ c X env f l a) (hG : GOK c.sy.ng φ) (xs : List Operand) (hX : ∀ t, .tmp t ∈ xs → X t) : OpsR S φ c env l.length f l a xs := by
  intro x hx e he
  obtain ⟨en, h1, he⟩ := ob_eq.1 he
  exact (r.src hG (fun t e => hX t (e ▸ hx)) h1).1.ev he

theorem RSt.push (r : RSt S φ c X env f l a) {d : Nat} (hd : d < c.n) (hk : c.kept d = false) (hv : VR S φ v w) {p : Bool} (hp : p = true → IsP w) {ty : Nat} :
    RSt S φ c X (⟨d, .loc l.length, p, ty⟩ :: env) f (v :: l) (a.put (some d) w) := by
  have hd' : d < a.tmps.size := by rw [r.sz]; exact hd
  refine ⟨fun t hX ht hkt u hu => ?_, fun t e hX he => ?_, by rw [put_size]; exact r.sz, r.dp⟩
  · rw [slot_put hd', if_neg (fun h => by subst h; rw [hk] at hkt; cases hkt)]
    exact r.fr t hX ht hkt u hu
  · rw [lookE_cons] at he
    rw [slot_put hd']
    by_cases h : d = t
    · rw [if_pos h] at he; cases he
      rw [if_pos h.symm]
      refine ⟨⟨by simp, fun u hu => ?_⟩, hp, h ▸ hd⟩
      rw [List.reverse_cons, List.getElem?_append_right (by simp)] at hu
      simp at hu; subst hu; exact hv
    · rw [if_neg h] at he
      rw [if_neg (fun e => h e.symm)]
      exact ⟨(r.env t e hX he).1.push, (r.env t e hX he).2⟩

theorem ft_set {u : Up} {d : Nat} (hu : updOf c.d d = some u) (hdp : c.n ≤ 4 ^ c.d) (hd : d < c.n) {k : FT → Res} {outs : List (V × H)} (hr : u f v k = some outs) :
    ∃ f', k f' = some outs ∧ FT.at c.d d f' = some v ∧ ∀ t, t < c.n → t ≠ d → FT.at c.d t f' = FT.at c.d t f := by
  obtain ⟨f', h1, h2⟩ := upd_at hu hr
  refine ⟨f', h1, ?_, fun t ht hne => ?_⟩
  · rw [h2 d (by omega) (by omega), if_pos rfl]
  · rw [h2 t (by omega) (by omega), if_neg hne]
theorem RSt.pushG (r : RSt S φ c X env f l a) {d : Nat} (hd : d < c.n) (hv : VR S φ v w) {p : Bool} (hp : p = true → IsP w) {ty : Nat} (hset : FT.at c.d d f' = some v) (hoth : ∀ t, t < c.n → t ≠ d → FT.at c.d t f' = FT.at c.d t f) :
    RSt S φ c X (⟨d, .loc l.length, p, ty⟩ :: killE d env) f' (v :: l) (a.put (some d) w) := by
  have hd' : d < a.tmps.size := by rw [r.sz]; exact hd
  refine ⟨fun t hX ht hkt u hu => ?_, fun t e hX he => ?_, by rw [put_size]; exact r.sz, r.dp⟩
  · rw [slot_put hd']
    by_cases h : t = d
    · subst h; rw [hset] at hu; cases hu; rw [if_pos rfl]; exact hv
    · rw [hoth t ht h] at hu; rw [if_neg h]; exact r.fr t hX ht hkt u hu
  · rw [lookE_cons] at he
    rw [slot_put hd']
    by_cases h : d = t
    · rw [if_pos h] at he; cases he
      rw [if_pos h.symm]
      refine ⟨⟨by simp, fun u hu => ?_⟩, hp, h ▸ hd⟩
      rw [List.reverse_cons, List.getElem?_append_right (by simp)] at hu
      simp at hu; subst hu; exact hv
    · rw [if_neg h, lookE_kill] at he
      rw [if_neg (fun e => h e.symm)]
      cases hl : lookE env t with
      | none => rw [hl] at he; cases he
      | some e0 =>
        rw [hl] at he
        simp only [Option.map_some, Option.some.injEq] at he
        cases hon : e0.s.on d with
        | true => rw [hon] at he; subst he; exact ⟨trivial, (fun h => by cases h), (r.env t _ hX hl).2.2⟩
        | false => rw [hon] at he; subst he; exact ⟨((r.env t _ hX hl).1.ft hoth hon).push, (r.env t _ hX hl).2⟩
theorem RSt.setG (r : RSt S φ c X env f l a) {d : Nat} (hd : d < c.n) (hv : VR S φ v w) {ty : Nat} (hset : FT.at c.d d f' = some v) (hoth : ∀ t, t < c.n → t ≠ d → FT.at c.d t f' = FT.at c.d t f) :
    RSt S φ c X (⟨d, .ft d, false, ty⟩ :: killE d env) f' l (a.put (some d) w) := by
  have hd' : d < a.tmps.size := by rw [r.sz]; exact hd
  refine ⟨fun t hX ht hkt u hu => ?_, fun t e hX he => ?_, by rw [put_size]; exact r.sz, r.dp⟩
  · rw [slot_put hd']
    by_cases h : t = d
    · subst h; rw [hset] at hu; cases hu; rw [if_pos rfl]; exact hv
    · rw [hoth t ht h] at hu; rw [if_neg h]; exact r.fr t hX ht hkt u hu
  · rw [lookE_cons] at he
    rw [slot_put hd']
    by_cases h : d = t
    · rw [if_pos h] at he; cases he
      rw [if_pos h.symm]
      exact ⟨fun _ u hu => by rw [hset] at hu; cases hu; exact hv, (fun h => by cases h), h ▸ hd⟩
    · rw [if_neg h, lookE_kill] at he
      rw [if_neg (fun e => h e.symm)]
      cases hl : lookE env t with
      | none => rw [hl] at he; cases he
      | some e0 =>
        rw [hl] at he
        simp only [Option.map_some, Option.some.injEq] at he
        cases hon : e0.s.on d with
        | true => rw [hon] at he; subst he; exact ⟨trivial, (fun h => by cases h), (r.env t _ hX hl).2.2⟩
        | false => rw [hon] at he; subst he; exact ⟨(r.env t _ hX hl).1.ft hoth hon, (r.env t _ hX hl).2⟩
theorem RSt.alias (r : RSt S φ c X env f l a) {d : Nat} (hd : d < c.n) (hk : c.kept d = false) {s : Src} (hs : SrcR S φ c f l s w) {p : Bool} (hp : p = true → IsP w) {ty : Nat} :
    RSt S φ c X (⟨d, s, p, ty⟩ :: env) f l (a.put (some d) w) := by
  have hd' : d < a.tmps.size := by rw [r.sz]; exact hd
  refine ⟨fun t hX ht hkt u hu => ?_, fun t e hX he => ?_, by rw [put_size]; exact r.sz, r.dp⟩
  · rw [slot_put hd', if_neg (fun h => by subst h; rw [hk] at hkt; cases hkt)]
    exact r.fr t hX ht hkt u hu
  · rw [lookE_cons] at he
    rw [slot_put hd']
    by_cases h : d = t
    · rw [if_pos h] at he; cases he
      rw [if_pos h.symm]
      exact ⟨hs, hp, h ▸ hd⟩
    · rw [if_neg h] at he
      rw [if_neg (fun e => h e.symm)]
      exact r.env t e hX he

theorem RSt.slot (r : RSt S φ c X env f l a) {t : Nat} (hX : X t) {e : Ev} (h : opE c env l.length (.tmp t) = some e) : t < c.n := by
  obtain ⟨en, h1, h2⟩ := ob_eq.1 h
  simp only [srcOf] at h1
  cases hl : lookE env t with
  | some e' => exact (r.env t e' hX hl).2.2
  | none =>
    rw [hl] at h1
    obtain ⟨_, h1⟩ := gd_eq.1 h1
    cases h1
    obtain ⟨_, h2⟩ := gd_eq.1 h2
    obtain ⟨h3, _⟩ := gd_eq.1 h2
    rw [natBlt_eq] at h3
    exact h3

/-- A result is laid down. -/
theorem RSt.dst (r : RSt S φ c X env f l a) {dst : Option Nat} {D : Dst} (hD : dstOf c dst = some D) (hv : VR S φ v w) {p : Bool} (hp : p = true → IsP w) {ty : Nat} {k : FT → List V → Res} {outs : List (V × H)} (hr : D v f l k = some outs) :
    ∃ f' l', k f' l' = some outs ∧ l'.length = lenAfter l.length dst ∧ RSt S φ c X (envAfter c env l.length dst p ty) f' l' (a.put dst w) := by
  cases dst with
  | none => cases hD; exact ⟨f, l, hr, rfl, r⟩
  | some d =>
    unfold dstOf at hD
    obtain ⟨hd, hD⟩ := gd_eq.1 hD
    rw [natBlt_eq] at hd
    rcases bc_eq.1 hD with ⟨hk, hD⟩ | ⟨hk, hD⟩
    · cases hD
      refine ⟨f, v :: l, hr, rfl, ?_⟩
      have := r.push hd hk hv hp (ty := ty)
      simpa [envAfter, hk] using this
    · obtain ⟨u, h1, hD⟩ := ob_eq.1 hD
      cases hD
      obtain ⟨f', h2, h3, h4⟩ := ft_set h1 r.dp hd hr
      refine ⟨f', v :: l, h2, rfl, ?_⟩
      have := r.pushG hd hv hp (ty := ty) h3 h4
      simpa [envAfter, hk] using this
end
end Eng

/- A region whose order stands: operation by operation. -/
namespace Eng
open Go

/-- What holds behind a function's start. -/
structure StA (S : Sym) (c : Cx) (φ0 : Mp) (h0 : H) (W0 : World) (φ : Mp) (f : FT) (h : H) (a : Act) (W : World) : Prop where
  fr : FR S φ c (fun _ => True) f a
  rh : RH S c.ty φ h W.heap
  fm : Fr φ0 h0 W0 φ h W
  sz : a.tmps.size = c.n
  df : a.defers = []
def Good (S : Sym) (c : Cx) (φ0 : Mp) (h0 : H) (W0 : World) (OUT : List (V × H)) (k : FT → H → Res) (X : Act → World → Prop) : Prop :=
  ∀ f h outs a W φ, k f h = some outs → (∀ x ∈ outs, x ∈ OUT) → StA S c φ0 h0 W0 φ f h a W → X a W
/-- The same inside a region. -/
structure StO (S : Sym) (c : Cx) (φ0 : Mp) (h0 : H) (W0 : World) (X : Nat → Prop) (φ : Mp) (env : Env) (f : FT) (l : List V) (h : H) (a : Act) (W : World) : Prop where
  st : RSt S φ c X env f l a
  rh : RH S c.ty φ h W.heap
  fm : Fr φ0 h0 W0 φ h W
  df : a.defers = []
structure CtxA (P : Program) (S : Sym) (c : Cx) (K : Eng.K) (φ0 : Mp) : Prop where
  ty : TyOK P c.ty
  sy : SyOK P S c.sy
  ms : MsOK P c.ms
  k : KOK P S c.ty c.sy.ng K
  g : GOK c.sy.ng φ0
  mix : P.follows .mixedOrders = true

theorem catR_eq {a b : Res} {r : List (V × H)} (h : catR a b = some r) : ∃ x y, a = some x ∧ b = some y ∧ r = x ++ y := by
  obtain ⟨x, h1, h⟩ := ob_eq.1 h
  obtain ⟨y, h2, h⟩ := ob_eq.1 h
  cases h
  exact ⟨x, y, h1, h2, rfl⟩
theorem eachR_sub {k : V → H → Res} : ∀ {l : List (V × H)} {r : List (V × H)}, eachR k l = some r → ∀ {v h}, (v, h) ∈ l → ∃ r', k v h = some r' ∧ ∀ x ∈ r', x ∈ r
  | [], r, _, v, h, hm => by cases hm
  | [(v0, h0)], r, hr, v, h, hm => by
    simp at hm
    obtain ⟨rfl, rfl⟩ := hm
    exact ⟨r, hr, fun x hx => hx⟩
  | (v0, h0) :: p :: l, r, hr, v, h, hm => by
    have hr : catR (k v0 h0) (eachR k (p :: l)) = some r := hr
    obtain ⟨x, y, h1, h2, rfl⟩ := catR_eq hr
    rcases List.mem_cons.1 hm with e | hm
    · cases e
      exact ⟨x, h1, fun z hz => List.mem_append.2 (.inl hz)⟩
    · obtain ⟨r', h3, h4⟩ := eachR_sub h2 hm
      exact ⟨r', h3, fun z hz => List.mem_append.2 (.inr (h4 z hz))⟩

section
variable {P : Program} {S : Sym} {c : Cx} {K : Eng.K} {φ0 φ : Mp} {h0 h : H} {W0 W : World} {OUT outs : List (V × H)} {f : FT} {l : List V} {env : Env} {a : Act} {L : Ls} {rest : RCode} {X : Nat → Prop}

theorem isNew_k {o : Oper} {co : CO} {n : Nat} (hco : cOp c env n o = some co) (h : isNew o = true) : co.k = 1 := by
  obtain ⟨dst, op, ty', pos, af, gu⟩ := o
  cases gu with
  | some g => cases h
  | none =>
    cases op <;> first | cases h | skip
    · exact k_alloc (env := env) (n := n) hco
    · exact k_box (env := env) (n := n) hco
theorem isNew_mk {o : Oper} {al : Al} {n : Nat} (hco : cOp c env n o = some (.al al)) (h : isNew o = true) {ob' : Eng.Obj} {mk : Nat → V} (hr : al f l = some (ob', mk)) : mk = mkP := by
  obtain ⟨dst, op, ty', pos, af, gu⟩ := o
  cases gu with
  | some g => cases h
  | none =>
    cases op <;> first | cases h | skip
    · obtain ⟨ti, _, hco⟩ := ob_eq.1 hco
      rw [fL_eq] at hco
      cases hco
      obtain ⟨o', _, hr⟩ := ob_eq.1 hr
      cases hr; rfl
    · obtain ⟨x, _, hco⟩ := ob_eq.1 hco
      cases hco
      obtain ⟨v, _, hr⟩ := ob_eq.1 hr
      rcases bc_eq.1 hr with ⟨_, hr⟩ | ⟨_, hr⟩
      · obtain ⟨o', _, hr⟩ := ob_eq.1 hr
        cases hr; rfl
      · cases hr; rfl

theorem rde (hC : CtxA P S c K φ0) (r : RH S c.ty φ h W.heap) (b : Bool) : RdE P S c φ W h b φ W := ⟨hC.ty, hC.sy, r.rd, Gro.refl _, fun _ => ⟨rfl, rfl⟩⟩

theorem co_step (hC : CtxA P S c K φ0) {o : Oper} {co : CO} {D : Dst} (hco : cOp c env l.length o = some co) (hD : dstOf c o.dst = some D) (st : StO S c φ0 h0 W0 X φ env f l h a W) (hX : ∀ t, .tmp t ∈ o.op.operands.toList → X t)
    (hr : stepOf co D rest K L f l h = some outs) (hsub : ∀ x ∈ outs, x ∈ OUT) {next : Act → World → Prop} {Q : Exit → Act → World → Prop}
    (hrest : ∀ f' l' h' a' W' φ' outs', rest K L f' l' h' = some outs' → (∀ x ∈ outs', x ∈ OUT) → l'.length = lenAfter l.length o.dst →
      StO S c φ0 h0 W0 X φ' (envAfter c env l.length o.dst (isNew o) o.type) f' l' h' a' W' → next a' W') : o.wp P a W next Q := by
  have hG := hC.g.mono st.fm.ext
  have hO := st.st.ops hG o.op.operands.toList hX
  cases co with
  | rd b r =>
    obtain ⟨v, h1, hr⟩ := ob_eq.1 hr
    obtain ⟨w, h2, h3⟩ := rd_sound (rde hC st.rh b) hO hco h1
    refine wp_value h2 ?_
    obtain ⟨f', l', h4, h5, h6⟩ := st.st.dst hD h3 (p := isNew o) (ty := o.type) (fun hn => absurd (isNew_k hco hn) (by simp [CO.k])) hr
    exact hrest _ _ _ _ _ _ _ h4 hsub h5 ⟨h6, st.rh, st.fm, by rw [put_defers]; exact st.df⟩
  | al al =>
    obtain ⟨p, h1, hr⟩ := ob_eq.1 hr
    obtain ⟨ob', mk⟩ := p
    replace hr : newO h ob' (fun b h => D (mk b) f l fun f l => rest K L f l h) = some outs := hr
    rw [newO_eq] at hr
    obtain ⟨w, o', Lc, k, h2, h3, h4⟩ := al_sound (P := P) (W := W) hC.ty hO hco h1
    have hx := Mp.ext_add (L := Lc) st.rh.fresh
    obtain ⟨h5, h6⟩ := h4 (φ.add h.next Lc) env l.length f l al ob' mk h.next hco ((st.st.mono hx).ops (hG.mono hx) _ hX) h1 Mp.add_self
    refine wp_value h2 ?_
    have hp : isNew o = true → IsP w := fun hn => by
      have := isNew_mk hco hn h1
      subst this
      obtain ⟨L', _, e⟩ := VR.ptr h6
      exact ⟨_, e⟩
    obtain ⟨f', l', h7, h8, h9⟩ := (st.st.mono hx).dst hD h6 (ty := o.type) hp hr
    exact hrest _ _ _ _ _ _ _ h7 hsub h8 ⟨h9, st.rh.new h3 h5, st.fm.trans (Fr.new st.rh h3 rfl rfl rfl rfl), by rw [put_defers]; exact st.df⟩
  | ef e =>
    obtain ⟨p, h1, hr⟩ := ob_eq.1 hr
    obtain ⟨v, h'⟩ := p
    refine ef_sound hC.ty st.rh hO hco h1 next Q ?_
    rintro w W' ⟨v', h'', φ', hm, h2, h3, h4⟩
    simp at hm
    obtain ⟨rfl, rfl⟩ := hm
    obtain ⟨f', l', h5, h6, h7⟩ := (st.st.mono h4.ext).dst hD h2 (p := isNew o) (ty := o.type) (fun hn => absurd (isNew_k hco hn) (by simp [CO.k])) hr
    exact hrest _ _ _ _ _ _ _ h5 hsub h6 ⟨h7, h3, st.fm.trans h4, by rw [put_defers]; exact st.df⟩
  | mu m =>
    obtain ⟨os, h1, hr⟩ := ob_eq.1 hr
    refine mu_sound hC.k hG hC.ms st.rh hO hco h1 next Q ?_
    rintro w W' ⟨v', h'', φ', hm, h2, h3, h4⟩
    obtain ⟨r', h5, h6⟩ := eachR_sub hr hm
    obtain ⟨f', l', h7, h8, h9⟩ := (st.st.mono h4.ext).dst hD h2 (p := isNew o) (ty := o.type) (fun hn => absurd (isNew_k hco hn) (by simp [CO.k])) h5
    exact hrest _ _ _ _ _ _ _ h7 (fun x hx => hsub x (h6 x hx)) h8 ⟨h9, h3, st.fm.trans h4, by rw [put_defers]; exact st.df⟩

/-- What is no truth value is none. -/
theorem VR.notBool {v : V} {w : Value} (h : VR S φ v w) (h1 : ∀ b, v ≠ .bool b) (h2 : v ≠ .any) : ∀ b, w ≠ .bool b := by
  intro b e
  subst e
  cases v with
  | bool b' => exact h1 _ rfl
  | any => exact h2 rfl
  | _ =>
    unfold VR at h
    first
      | (cases h; done)
      | (obtain ⟨_, h⟩ := h; cases h; done)
      | (obtain ⟨_, h, _⟩ := h; cases h; done)
      | (obtain ⟨_, _, h⟩ := h; cases h; done)
      | (obtain ⟨_, _, h, _⟩ := h; cases h; done)
      | (obtain ⟨_, _, _, _, h, _⟩ := h; cases h; done)
      | (obtain ⟨_, _, _, _, _, _, _, _, h⟩ := h; cases h; done)
theorem wanted_run {v : V} {w : Value} (h : VR S φ v w) {x b : Bool} (hw : wantedV x v = some b) : ((match (some w : Option Value) with | some (.bool b) => some b | _ => none) == some x) = b := by
  unfold wantedV at hw
  split at hw
  · rename_i t
    unfold VR at h; subst h
    cases hw
    cases x <;> cases t <;> rfl
  · cases hw
  · rename_i h1 h2
    cases hw
    have h3 := VR.notBool h (fun b e => h1 b e) (fun e => h2 e)
    cases w <;> first | rfl | exact absurd rfl (h3 _)

/-- A guard, read by the engine and by the model. -/
theorem guard_run (hG : GOK c.sy.ng φ) (st : RSt S φ c X env f l a) {all : List Oper} {j : Nat} {x : Bool} {e : Ev} {y : Bool} {o : Oper} (hg : o.guard = some (j, x)) (h : guardOf c env l.length all o.guard = some (some (e, y))) (hX : ∀ p d, all[j]? = some p → p.dst = some d → X d) {v : V} {b : Bool} (hv : e f l = some v) (hw : wantedV y v = some b) : Region.wanted o (yielded all.toArray a.tmps) = b := by
  rw [hg] at h
  obtain ⟨p, h1, h⟩ := ob_eq.1 h
  obtain ⟨d, h2, h⟩ := ob_eq.1 h
  obtain ⟨e', h3, h⟩ := ob_eq.1 h
  cases h
  rw [nthO_eq] at h1
  have hXd := hX p d h1 h2
  have h4 : VR S φ v (slotV a d) := st.ops hG [.tmp d] (fun t ht => by simp at ht; subst ht; exact hXd) (.tmp d) (by simp) e h3 v hv
  have hlt := st.slot hXd h3
  have h5 : a.tmps[d]? = some (slotV a d) := by
    unfold slotV
    rw [Array.getD_eq_getD_getElem?, Array.getElem?_eq_getElem (by rw [st.sz]; exact hlt)]; rfl
  unfold Region.wanted yielded
  rw [hg]
  have h6 : (all.toArray[j]?).bind (·.dst) = some d := by simp [h1, h2]
  show ((match ((all.toArray[j]?).bind (·.dst)).bind (a.tmps[·]?) with | some (.bool b) => some b | _ => none) == some x) = b
  rw [h6]
  show ((match a.tmps[d]? with | some (.bool b) => some b | _ => none) == some x) = b
  rw [h5]
  exact wanted_run h4 hw
end
end Eng

/- A region whose order stands, whole. -/
namespace Eng
open Go

section
variable {P : Program} {S : Sym} {c : Cx} {K : Eng.K} {φ0 φ : Mp} {h0 h : H} {W0 W : World} {OUT outs : List (V × H)} {f : FT} {l : List V} {env : Env} {a : Act} {L : Ls} {rest : RCode}

theorem nilCheck_ptr {x : Operand} {dst ty' pos af gu} (hp : IsP (a.eval x)) : (execOp a.eval ⟨dst, .nilCheck x, ty', pos, af, gu⟩).run P W = .ok (.value (a.eval x)) W := by
  obtain ⟨A, e⟩ := hp
  simp only [execOp, e]
  rfl
theorem alias_dst {o : Oper} {e : Ent} {chk : Bool} (h : aliasOf c env o = some (e, chk)) : o.guard = none ∧ o.dst = some e.t ∧ e.t < c.n ∧ c.kept e.t = false := by
  obtain ⟨dst, op, ty', pos, af, gu⟩ := o
  unfold aliasOf at h
  cases gu with
  | some g => cases h
  | none =>
    cases dst with
    | none => cases h
    | some d =>
      obtain ⟨hd, h⟩ := gd_eq.1 h
      rw [natBlt_eq] at hd
      rcases bc_eq.1 h with ⟨hk, h⟩ | ⟨_, h⟩
      · have key : e.t = d := by
          cases op <;> dsimp only at h <;> try (cases h; done)
          all_goals (obtain ⟨en, _, h⟩ := ob_eq.1 h)
          · cases h; rfl
          · cases h; rfl
          · rcases bc_eq.1 h with ⟨_, h⟩ | ⟨_, h⟩
            · obtain ⟨_, h⟩ := gd_eq.1 h
              cases h; rfl
            · cases h; rfl
          · obtain ⟨_, h⟩ := gd_eq.1 h
            obtain ⟨ti, _, h⟩ := ob_eq.1 h
            split at h
            · obtain ⟨q, _, h⟩ := ob_eq.1 h
              obtain ⟨fi, _, h⟩ := ob_eq.1 h
              obtain ⟨_, h⟩ := gd_eq.1 h
              cases h; rfl
            · cases h
        subst key
        exact ⟨rfl, rfl, hd, hk⟩
      · cases h
theorem alias_run (hT : TyOK P c.ty) (hG : GOK c.sy.ng φ) {X : Nat → Prop} (st : RSt S φ c X env f l a) {o : Oper} (hX : ∀ t, .tmp t ∈ o.op.operands.toList → X t) {e : Ent} {chk : Bool} (h : aliasOf c env o = some (e, chk))
    (hc : chk = true → ∃ x b k, evSrc c l.length e.s = some x ∧ x f l = some (.ptr b k)) :
    ∃ w, (execOp a.eval o).run P W = .ok (.value w) W ∧ SrcR S φ c f l e.s w ∧ (e.p = true → IsP w) := by
  obtain ⟨dst, op, ty', pos, af, gu⟩ := o
  unfold aliasOf at h
  cases gu with
  | some g => cases h
  | none =>
    cases dst with
    | none => cases h
    | some d =>
      replace h := (gd_eq.1 h).2
      rcases bc_eq.1 h with ⟨_, h'⟩ | ⟨_, h'⟩
      · clear h
        cases op
        case move x =>
          obtain ⟨en, h1, h⟩ := ob_eq.1 h'
          cases h
          obtain ⟨h2, h3⟩ := st.src hG (fun t e => hX t (by simp [Op.operands, e])) h1
          exact ⟨_, rfl, h2, h3⟩
        case assign x =>
          obtain ⟨en, h1, h⟩ := ob_eq.1 h'
          cases h
          obtain ⟨h2, h3⟩ := st.src hG (fun t e => hX t (by simp [Op.operands, e])) h1
          exact ⟨_, rfl, h2, h3⟩
        case nilCheck x =>
          obtain ⟨en, h1, h⟩ := ob_eq.1 h'
          obtain ⟨h2, h3⟩ := st.src hG (fun t e => hX t (by simp [Op.operands, e])) h1
          rcases bc_eq.1 h with ⟨hp, h⟩ | ⟨hp, h⟩
          · obtain ⟨_, h⟩ := gd_eq.1 h
            cases h
            obtain ⟨ev, b, k, h4, h5⟩ := hc rfl
            obtain ⟨L', _, h6⟩ := VR.ptr (h2.ev h4 _ h5)
            exact ⟨_, nilCheck_ptr ⟨_, h6⟩, h2, fun _ => ⟨_, h6⟩⟩
          · cases h
            exact ⟨_, nilCheck_ptr (h3 hp), h2, fun _ => h3 hp⟩
        case fieldAddr t x k =>
          obtain ⟨en, h1, h⟩ := ob_eq.1 h'
          obtain ⟨h2, h3⟩ := st.src hG (fun t e => hX t (by simp [Op.operands, e])) h1
          obtain ⟨hp, h⟩ := gd_eq.1 h
          obtain ⟨ti, h4, h⟩ := ob_eq.1 h
          split at h
          · rename_i fs hk'
            obtain ⟨q, h5, h⟩ := ob_eq.1 h
            obtain ⟨off, u⟩ := q
            obtain ⟨ui, h6, h⟩ := ob_eq.1 h
            obtain ⟨h7, h⟩ := gd_eq.1 h
            cases h
            rw [nthO_eq] at h5
            rw [natBlt_eq] at h7
            obtain ⟨i, dd, z, ht⟩ := hT _ _ h4
            obtain ⟨i', d', z', hu⟩ := hT _ _ h6
            obtain ⟨A, h8⟩ := h3 hp
            have h9 := fieldAddr_any (W := W) ht hu hk' h5 h7 A
            rw [h8] at h2
            refine ⟨.pointer (some (A.add off)), ?_, ⟨A, h2, rfl⟩, fun _ => ⟨_, rfl⟩⟩
            show ((do pure (.value (← Instr.fieldAt t (a.eval x) k)) : Sem Next)).run P W = _
            rw [h8, Sem.run_bind, h9]; rfl
          · cases h
        all_goals cases h'
      · cases h'
theorem keptMove_run {o : Oper} {d : Nat} {x : Operand} (h : keptMove c o = some (d, x)) :
    o.guard = none ∧ o.dst = some d ∧ (execOp a.eval o).run P W = .ok (.value (a.eval x)) W := by
  obtain ⟨dst, op, ty', pos, af, gu⟩ := o
  unfold keptMove at h
  cases gu with
  | some g => cases h
  | none =>
    cases dst with
    | none => cases h
    | some d' =>
      obtain ⟨_, h⟩ := gd_eq.1 h
      dsimp only at h
      split at h
      · cases h; exact ⟨rfl, rfl, rfl⟩
      · cases h; exact ⟨rfl, rfl, rfl⟩
      · cases h

theorem wpOps_op {ops : Array Oper} {Q : Exit → Act → World → Prop} {i : Nat} {r : List Nat} {o : Oper} (ho : ops[i]? = some o) (h1 : Region.wanted o (yielded ops a.tmps) = true → o.wp P a W (wpOps P ops Q r) Q)
    (h2 : Region.wanted o (yielded ops a.tmps) = false → wpOps P ops Q r (a.put o.dst undef) W) : wpOps P ops Q (i :: r) a W := by
  simp only [wpOps, ho]
  cases hw : Region.wanted o (yielded ops a.tmps) with
  | true => simp; exact .inl (h1 hw)
  | false => simp; exact h2 hw
theorem wanted_none {o : Oper} {y : Nat → Option Bool} (h : o.guard = none) : Region.wanted o y = true := by unfold Region.wanted; rw [h]
theorem undef_vr : VR S φ undefV undef := by unfold undefV; exact VR.mkTup VRL.nil

theorem cOps_sound (hC : CtxA P S c K φ0) {all : List Oper} {fin : RCode} {Q : Exit → Act → World → Prop}
    (hfin : ∀ f l h outs a W φ, fin K L f l h = some outs → (∀ x ∈ outs, x ∈ OUT) → StA S c φ0 h0 W0 φ f h a W → Q .normal a W) :
    ∀ (os pre : List Oper) (env : Env) (f : FT) (l : List V) (h : H) (a : Act) (W : World) (φ : Mp) (code : RCode) (outs : List (V × H)), all = pre ++ os → cOps c all fin os env l.length = some code → code K L f l h = some outs →
      (∀ x ∈ outs, x ∈ OUT) → StO S c φ0 h0 W0 (fun _ => True) φ env f l h a W → wpOps P all.toArray Q (List.range' pre.length os.length) a W
  | [], pre, env, f, l, h, a, W, φ, code, outs, _, hc, hr, hsub, st => by
    cases hc
    exact hfin f l h outs a W φ hr hsub ⟨st.st.fr, st.rh, st.fm, st.st.sz, st.df⟩
  | o :: os, pre, env, f, l, h, a, W, φ, code, outs, hall, hc, hr, hsub, st => by
    have hG := hC.g.mono st.fm.ext
    have hall' : all = (pre ++ [o]) ++ os := by simp [hall]
    have hpre : (pre ++ [o]).length = pre.length + 1 := by simp
    have ho : all.toArray[pre.length]? = some o := by simp [hall]
    show wpOps P all.toArray Q (pre.length :: List.range' (pre.length + 1) os.length) a W
    have ih := fun env f l h a W φ code outs => cOps_sound hC hfin os (pre ++ [o]) env f l h a W φ code outs hall'
    rw [hpre] at ih
    unfold cOps at hc
    split at hc
    · rename_i e chk hal
      obtain ⟨rst, h1, hc⟩ := ob_eq.1 hc
      have key : (chk = true → ∃ x b k, evSrc c l.length e.s = some x ∧ x f l = some (.ptr b k)) ∧ rst K L f l h = some outs := by
        rcases bc_eq.1 hc with ⟨hk, hc⟩ | ⟨hk, hc⟩
        · cases hc; exact ⟨(fun h => by rw [hk] at h; cases h), hr⟩
        · obtain ⟨x, h2, hc⟩ := ob_eq.1 hc
          cases hc
          obtain ⟨b, k, h3, hr⟩ := oPtr hr
          exact ⟨fun _ => ⟨x, b, k, h2, h3⟩, hr⟩
      obtain ⟨hg, hdst, hlt, hkp⟩ := alias_dst hal
      obtain ⟨w, h2, h3, h4⟩ := alias_run (P := P) (W := W) hC.ty hG st.st (fun _ _ => trivial) hal key.1
      refine wpOps_op ho (fun _ => wp_value h2 ?_) (fun hw => by rw [wanted_none hg] at hw; cases hw)
      rw [hdst]
      exact ih (e :: env) f l h _ W φ rst outs h1 key.2 hsub ⟨st.st.alias hlt hkp h3 h4, st.rh, st.fm, by rw [put_defers]; exact st.df⟩
    · split at hc
      · rename_i d x hkm
        obtain ⟨ex, h1, hc⟩ := ob_eq.1 hc
        obtain ⟨u, h2, hc⟩ := ob_eq.1 hc
        obtain ⟨h3, hc⟩ := gd_eq.1 hc
        obtain ⟨rst, h4, hc⟩ := ob_eq.1 hc
        rw [natBlt_eq] at h3
        cases hc
        obtain ⟨v, h5, hr⟩ := ob_eq.1 hr
        obtain ⟨hg, hdst, h6⟩ := keptMove_run (P := P) (W := W) (a := a) hkm
        obtain ⟨f', h7, h8, h9⟩ := ft_set h2 st.st.dp h3 hr
        have hv : VR S φ v (a.eval x) := st.st.ops hG [x] (fun _ _ => trivial) x (by simp) ex h1 v h5
        refine wpOps_op ho (fun _ => wp_value h6 ?_) (fun hw => by rw [wanted_none hg] at hw; cases hw)
        rw [hdst]
        exact ih _ f' l h _ W φ rst outs h4 h7 hsub ⟨st.st.setG h3 hv h8 h9, st.rh, st.fm, by rw [put_defers]; exact st.df⟩
      · obtain ⟨co, h1, hc⟩ := ob_eq.1 hc
        obtain ⟨D, h2, hc⟩ := ob_eq.1 hc
        obtain ⟨g, h3, hc⟩ := ob_eq.1 hc
        rw [fN_eq] at hc
        obtain ⟨rst, h4, hc⟩ := ob_eq.1 hc
        cases hc
        have hyes : ∀ outs', stepOf co D rst K L f l h = some outs' → (∀ x ∈ outs', x ∈ OUT) → o.wp P a W (wpOps P all.toArray Q (List.range' (pre.length + 1) os.length)) Q := by
          intro outs' hr' hsub'
          cases hco : cOp c env l.length o with
          | none =>
            rw [hco] at h1
            cases h1
            have hr' : (none : Res) = some outs' := hr'
            cases hr'
          | some co' =>
            rw [hco] at h1
            cases h1
            refine co_step hC hco h2 st (fun _ _ => trivial) hr' hsub' ?_
            intro f' l' h' a' W' φ' outs'' hr'' hsub'' hl st'
            exact ih _ f' l' h' a' W' φ' rst outs'' (by rw [hl]; exact h4) hr'' hsub'' st'
        cases g with
        | none =>
          have hg : o.guard = none := by
            cases hgu : o.guard with
            | none => rfl
            | some p =>
              rw [hgu] at h3
              obtain ⟨j, x⟩ := p
              obtain ⟨p, _, h3⟩ := ob_eq.1 h3
              obtain ⟨d, _, h3⟩ := ob_eq.1 h3
              obtain ⟨e, _, h3⟩ := ob_eq.1 h3
              cases h3
          exact wpOps_op ho (fun _ => hyes outs hr hsub) (fun hw => by rw [wanted_none hg] at hw; cases hw)
        | some p =>
          obtain ⟨e, y⟩ := p
          cases hgu : o.guard with
          | none => rw [hgu] at h3; cases h3
          | some q =>
            obtain ⟨j, x⟩ := q
            obtain ⟨v, h5, hr⟩ := ob_eq.1 hr
            obtain ⟨b, h6, hr⟩ := ob_eq.1 hr
            have hw := guard_run hG st.st hgu h3 (fun _ _ _ _ => trivial) h5 h6
            cases b with
            | true =>
              exact wpOps_op ho (fun _ => hyes outs hr hsub) (fun hw' => by rw [hw] at hw'; cases hw')
            | false =>
              refine wpOps_op ho (fun hw' => by rw [hw] at hw'; cases hw') (fun _ => ?_)
              have hr : D undefV f l (fun f l => rst K L f l h) = some outs := hr
              obtain ⟨f', l', h7, h8, h9⟩ := st.st.dst h2 undef_vr (p := isNew o) (ty := o.type) (fun hn => by unfold isNew at hn; rw [hgu] at hn; cases hn) hr
              exact ih _ f' l' h _ W φ rst outs (by rw [h8]; exact h4) h7 hsub ⟨h9, st.rh, st.fm, by rw [put_defers]; exact st.df⟩
end
end Eng

/- Code: its branches, its loops, its results. -/
namespace Eng
open Go

/-! ## A loop, round by round -/
def LoopWp (P : Program) (c : Go.Code) (Q : Exit → Act → World → Prop) (a : Act) (w : World) : Prop :=
  ∀ (b : Frame) (k : List Item) (cs : List Frame), ∃ e a' w', Q e a' w' ∧ Arrives P (lone (b.at a (.code c :: .inLoop c :: k)) cs w) b k cs e a' w'
theorem loop_of {P : Program} {c : Go.Code} {Q : Exit → Act → World → Prop} {a : Act} {w : World} (h : LoopWp P c Q a w) : (Code.loop c).wp P Q a w := by
  intro b k cs
  obtain ⟨e, a', w', hq, harr⟩ := h b k cs
  exact ⟨e, a', w', hq, .of_steps (.one step_loop) harr⟩
theorem loopWp_round {P : Program} {c : Go.Code} {Q : Exit → Act → World → Prop} {a : Act} {w : World} (h : c.wp P (Exit.then (LoopWp P c Q) Q) a w) : LoopWp P c Q a w := by
  intro b k cs
  obtain ⟨e, a₁, w₁, hq, harr⟩ := h b (.inLoop c :: k) cs
  cases e with
  | normal =>
    obtain ⟨e₂, a₂, w₂, hq₂, harr₂⟩ := hq b k cs
    exact ⟨e₂, a₂, w₂, hq₂, .of_steps (Steps.trans harr (.one step_inLoop)) harr₂⟩
  | exit id => exact ⟨_, a₁, w₁, hq, .pass (x := .inLoop c) rfl (fun _ _ => .inl (by simp)) harr⟩
  | goto l => exact ⟨_, a₁, w₁, hq, .pass (x := .inLoop c) rfl (fun _ _ => .inl (by simp)) harr⟩
  | ret => exact ⟨_, a₁, w₁, hq, .pass (x := .inLoop c) rfl (fun _ _ => .inl (by simp)) harr⟩
  | panic ch => exact ⟨_, a₁, w₁, hq, .pass (x := .inLoop c) rfl (fun _ _ => .inl (by simp)) harr⟩
  | outgrown => exact ⟨_, a₁, w₁, hq, .pass (x := .inLoop c) rfl (fun _ _ => .inl (by simp)) harr⟩

theorem jump_cons {id j : Nat} {c : Eng.Code} {env : List (Nat × Eng.Code)} : jump ((j, c) :: env) id = if j = id then some c else jump env id := by
  show (Bool.casesOn (Nat.beq j id) (jump env id) (some c) : Option Eng.Code) = _
  cases h : Nat.beq j id with
  | true => rw [natBeq_eq] at h; rw [if_pos h]
  | false => rw [natBeq_ne] at h; rw [if_neg h]
theorem jump_popE {id : Nat} : ∀ {env : List (Nat × Eng.Code)} {c : Eng.Code}, jump (popE env) id = some c → ∃ c0, jump env id = some c0 ∧ c = pop1 c0
  | [], c, h => by cases h
  | (j, c0) :: env, c, h => by
    have h : jump ((j, pop1 c0) :: popE env) id = some c := h
    rw [jump_cons] at h
    rw [jump_cons]
    by_cases hj : j = id
    · rw [if_pos hj] at h; cases h; exact ⟨c0, by rw [if_pos hj], rfl⟩
    · rw [if_neg hj] at h; rw [if_neg hj]; exact jump_popE h

section
variable {P : Program} {S : Sym} {c : Cx} {K : Eng.K} {φ0 φ : Mp} {h0 h : H} {W0 W : World} {OUT outs : List (V × H)} {f : FT} {a : Act}

/-- What a drawn region must be shown to do. -/
def DrawS (P : Program) (S : Sym) (c : Cx) (K : Eng.K) (φ0 : Mp) (h0 : H) (W0 : World) (OUT : List (V × H)) : Prop :=
  ∀ (L : Ls) (id : Nat) (ops : Array Oper) (rest : Eng.Code) (r : RCode) (Q : Exit → Act → World → Prop), cDraw c ops.toList (endR rest) = some r → Good S c φ0 h0 W0 OUT (rest K L) (Q .normal) →
    Good S c φ0 h0 W0 OUT (fun f h => r K L f [] h) fun a W => (Go.Code.region id ops true).wp P Q a W

theorem StA.slot (st : StA S c φ0 h0 W0 φ f h a W) {t : Nat} {p : Ac} (ht : t < c.n) (hk : c.kept t = true) (hp : accOf c.d t = some p) {v : V} (hv : p f = some v) : VR S φ v (slotV a t) :=
  st.fr t trivial ht hk v (by rw [← acc_at hp]; exact hv)

theorem cCode_sound (hC : CtxA P S c K φ0) (dp : c.n ≤ 4 ^ c.d) (hD : DrawS P S c K φ0 h0 W0 OUT) {ret : Eng.Code} :
    ∀ (cd : Go.Code) (env : List (Nat × Eng.Code)) (rest code : Eng.Code) (L : Ls) (Q : Exit → Act → World → Prop), cCode c ret cd env rest = some code →
      Good S c φ0 h0 W0 OUT (rest K L) (Q .normal) → (∀ id k, jump env id = some k → Good S c φ0 h0 W0 OUT (k K L) (Q (.exit id))) → (∀ L, Good S c φ0 h0 W0 OUT (ret K L) (Q .ret)) →
      Good S c φ0 h0 W0 OUT (code K L) fun a W => cd.wp P Q a W
  | .skip, env, rest, code, L, Q, hc, hn, _, _ => by
    cases hc
    exact fun f h outs a W φ hr hs st => wp_skip (hn f h outs a W φ hr hs st)
  | .region id ops draw, env, rest, code, L, Q, hc, hn, _, _ => by
    obtain ⟨r, h1, hc⟩ := ob_eq.1 hc
    cases hc
    rcases bc_eq.1 h1 with ⟨hd, h1⟩ | ⟨hd, h1⟩
    · subst hd
      intro f h outs a W φ hr hs st
      refine wp_region ?_
      have := cOps_sound (L := L) hC (fin := endR rest) (Q := Q) (fun f l h outs a W φ hr hs st => hn f h outs a W φ hr hs st) ops.toList [] [] f [] h a W φ r outs (by simp) h1 hr hs ⟨⟨st.fr, EnvR.nil, st.sz, dp⟩, st.rh, st.fm, st.df⟩
      simpa [List.range_eq_range'] using this
    · subst hd
      exact hD L id ops rest r Q h1 hn
  | .seq x y, env, rest, code, L, Q, hc, hn, hj, hret => by
    obtain ⟨r, h1, hc⟩ := ob_eq.1 hc
    have hy := cCode_sound hC dp hD y env rest r L Q h1 hn hj hret
    have hx := cCode_sound hC dp hD x env r code L (Exit.then (y.wp P Q) Q) hc hy hj hret
    exact fun f h outs a W φ hr hs st => wp_seq (hx f h outs a W φ hr hs st)
  | .cond x p q, env, rest, code, L, Q, hc, hn, hj, hret => by
    obtain ⟨cp, h1, hc⟩ := ob_eq.1 hc
    obtain ⟨cq, h2, hc⟩ := ob_eq.1 hc
    have hp := cCode_sound hC dp hD p env rest cp L Q h1 hn hj hret
    have hq := cCode_sound hC dp hD q env rest cq L Q h2 hn hj hret
    cases x with
    | tmp t =>
      obtain ⟨hk, hc⟩ := gd_eq.1 hc
      obtain ⟨ht, hc⟩ := gd_eq.1 hc
      obtain ⟨ac, h3, hc⟩ := ob_eq.1 hc
      rw [natBlt_eq] at ht
      cases hc
      intro f h outs a W φ hr hs st
      obtain ⟨b, h4, hr⟩ := oBool hr
      have h5 : a.eval (.tmp t) = .bool b := VR.bool (st.slot ht hk h3 h4)
      refine wp_cond h5 ?_
      cases b with
      | true => exact hp f h outs a W φ hr hs st
      | false => exact hq f h outs a W φ hr hs st
    | const v =>
      cases v with
      | bool t =>
        cases hc
        intro f h outs a W φ hr hs st
        refine wp_cond (t := t) rfl ?_
        cases t with
        | true => exact hp f h outs a W φ hr hs st
        | false => exact hq f h outs a W φ hr hs st
      | _ => cases hc
    | global g => cases hc
    | func g => cases hc
  | .block id x, env, rest, code, L, Q, hc, hn, hj, hret => by
    have hx := cCode_sound hC dp hD x ((id, rest) :: env) rest code L (Exit.inBlock id Q) hc hn (fun id' k hk => by
      rw [jump_cons] at hk
      by_cases e : id = id'
      · subst e
        rw [if_pos rfl] at hk
        cases hk
        intro f h outs a W φ hr hs st
        show (if id = id then Q .normal a W else Q (.exit id) a W)
        rw [if_pos rfl]
        exact hn f h outs a W φ hr hs st
      · rw [if_neg e] at hk
        intro f h outs a W φ hr hs st
        show (if id' = id then Q .normal a W else Q (.exit id') a W)
        rw [if_neg (fun h => e h.symm)]
        exact hj id' k hk f h outs a W φ hr hs st) hret
    exact fun f h outs a W φ hr hs st => wp_block (hx f h outs a W φ hr hs st)
  | .loop x, env, rest, code, L, Q, hc, hn, hj, hret => by
    have hc : fE (popE env) (fun env => ob (cCode c ret x env agn) fun a => some (lp a)) = some code := hc
    rw [fE_eq] at hc
    obtain ⟨ac, h1, hc⟩ := ob_eq.1 hc
    cases hc
    have key : ∀ n, Good S c φ0 h0 W0 OUT (fun f h => iterL n ac K L f h) (LoopWp P x Q) := by
      intro n
      induction n with
      | zero => intro f h outs a W φ hr hs st; cases hr
      | succ n ih =>
        have hx := cCode_sound hC dp hD x (popE env) agn ac ((fun f h => iterL n ac K L f h) :: L) (Exit.then (LoopWp P x Q) Q) h1 ih (fun id k hk => by
          obtain ⟨k0, h2, rfl⟩ := jump_popE hk
          exact hj id k0 h2) hret
        exact fun f h outs a W φ hr hs st => loopWp_round (hx f h outs a W φ hr hs st)
    exact fun f h outs a W φ hr hs st => loop_of (key 1000000 f h outs a W φ hr hs st)
  | .exit id, env, rest, code, L, Q, hc, hn, hj, hret => by
    exact fun f h outs a W φ hr hs st => wp_exit (hj id code hc f h outs a W φ hr hs st)
  | .ret, env, rest, code, L, Q, hc, hn, hj, hret => by
    cases hc
    exact fun f h outs a W φ hr hs st => wp_ret (hret L f h outs a W φ hr hs st)
  | .rangeFunc _ _ _ _, env, rest, code, L, Q, hc, _, _, _ => by cases hc; exact fun f h outs a W φ hr hs st => by cases hr
  | .scope _, env, rest, code, L, Q, hc, _, _, _ => by cases hc; exact fun f h outs a W φ hr hs st => by cases hr
  | .label _, env, rest, code, L, Q, hc, _, _, _ => by cases hc; exact fun f h outs a W φ hr hs st => by cases hr
  | .goto _, env, rest, code, L, Q, hc, _, _, _ => by cases hc; exact fun f h outs a W φ hr hs st => by cases hr
  | .refuse _, env, rest, code, L, Q, hc, _, _, _ => by cases hc; exact fun f h outs a W φ hr hs st => by cases hr
end
end Eng

/- A function, from its entry to its results; all calls. -/
namespace Eng
open Go

section
variable {P : Program} {S : Sym} {c : Cx} {K : Eng.K} {φ0 φ : Mp} {h0 h : H} {W0 W : World} {OUT outs : List (V × H)} {f : FT} {a : Act}

def resVal (tmps : Array Value) : ResultVar → Sem Value
  | .tmp t => pure (tmps.getD t undef)
  | .cell a t => do loadVar t (← asAddr (tmps.getD a undef))
theorem results_eq (fn : Func) (tmps : Array Value) :
    results fn tmps = ((List.toArray <$> fn.results.toList.mapM (resVal tmps)) >>= fun vs => (pure (if h : vs.size = 1 then vs[0] else .tuple vs) : Sem Value)) := by
  unfold results
  rw [← Array.mapM_eq_mapM_toList]
  rfl
theorem cRes_run (hT : TyOK P c.ty) (hro : ∀ b t, c.sy.ro b = some t → S.ro b = some t) : ∀ {rs : List ResultVar} {r : Rs} {l : List V}, cRes c rs = some r → r f h = some l → StA S c φ0 h0 W0 φ f h a W →
    ∃ vs, (rs.mapM (resVal a.tmps)).run P W = .ok vs W ∧ VRL S φ l vs
  | [], r, l, hc, hr, st => by
    cases hc
    cases hr
    exact ⟨[], rfl, VRL.nil⟩
  | .tmp t :: rs, r, l, hc, hr, st => by
    obtain ⟨hk, hc⟩ := gd_eq.1 hc
    obtain ⟨ht, hc⟩ := gd_eq.1 hc
    obtain ⟨ac, h1, hc⟩ := ob_eq.1 hc
    obtain ⟨r', h2, hc⟩ := ob_eq.1 hc
    rw [natBlt_eq] at ht
    cases hc
    obtain ⟨v, h3, hr⟩ := ob_eq.1 hr
    obtain ⟨l', h4, hr⟩ := ob_eq.1 hr
    cases hr
    obtain ⟨vs, h5, h6⟩ := cRes_run hT hro h2 h4 st
    refine ⟨slotV a t :: vs, ?_, VRL.cons (st.slot ht hk h1 h3) h6⟩
    rw [List.mapM_cons, Sem.run_bind]
    show ((rs.mapM (resVal a.tmps) >>= fun l => pure (slotV a t :: l) : Sem (List Value))).run P W = _
    rw [Sem.run_bind, h5]; rfl
  | .cell b t :: rs, r, l, hc, hr, st => by
    obtain ⟨hk, hc⟩ := gd_eq.1 hc
    obtain ⟨ht, hc⟩ := gd_eq.1 hc
    obtain ⟨ac, h1, hc⟩ := ob_eq.1 hc
    obtain ⟨ti, h0', hc⟩ := ob_eq.1 hc
    obtain ⟨r', h2, hc⟩ := ob_eq.1 hc
    rw [natBlt_eq] at ht
    obtain ⟨i, d, z, hti⟩ := hT _ _ h0'
    have key : ∃ v p o l', ac f = some (.ptr p o) ∧ r' f h = some l' ∧ l = v :: l' ∧ ∃ w, (Instr.loadAt t (slotV a b)).run P W = .ok w W ∧ VR S φ v w := by
      rcases bc_eq.1 hc with ⟨hg, hc⟩ | ⟨hg, hc⟩
      · cases hc
        obtain ⟨p, o, h3, hr⟩ := oPtr hr
        obtain ⟨n, tr, e, fz, sf, hb, hr⟩ := onCells_eq.1 hr
        obtain ⟨v, h4, hr⟩ := ob_eq.1 hr
        obtain ⟨l', h5, hr⟩ := ob_eq.1 hr
        cases hr
        refine ⟨v, p, o, l', h3, h5, rfl, ?_⟩
        refine rLoad1_run (sy := c.sy) (f := f) (l := []) (x := eF ac) hro hti hg st.rh.rd (fun v hv => st.slot ht hk h1 hv) (h := h) ?_
        show ob (ac f) (fun v => onPtr v fun b o => onRead c.sy h b fun t => t.get o) = some v
        rw [h3]
        show onRead c.sy h p (fun t => t.get o) = some v
        exact onRead_eq.2 ⟨tr, h4, .inl ⟨n, e, fz, sf, hb⟩⟩
      · cases hc
        obtain ⟨p, o, h3, hr⟩ := oPtr hr
        obtain ⟨n, tr, e, fz, sf, hb, hr⟩ := onCells_eq.1 hr
        obtain ⟨v, h4, hr⟩ := ob_eq.1 hr
        obtain ⟨l', h5, hr⟩ := ob_eq.1 hr
        cases hr
        refine ⟨.agg v, p, o, l', h3, h5, rfl, ?_⟩
        refine rLoadN_run (sy := c.sy) (f := f) (l := []) (x := eF ac) hro hti hg st.rh.rd (fun v hv => st.slot ht hk h1 hv) (h := h) ?_
        show ob (ac f) (fun v => onPtr v fun b o => onRead c.sy h b fun t => ob (t.row ti.size o) fun l => some (V.agg l)) = some (V.agg v)
        rw [h3]
        show onRead c.sy h p (fun t => ob (t.row ti.size o) fun l => some (V.agg l)) = some (V.agg v)
        exact onRead_eq.2 ⟨tr, by rw [h4]; rfl, .inl ⟨n, e, fz, sf, hb⟩⟩
    obtain ⟨v, p, o, l', h3, h5, rfl, w, h6, h7⟩ := key
    obtain ⟨vs, h8, h9⟩ := cRes_run hT hro h2 h5 st
    obtain ⟨Lc, _, h10⟩ := VR.ptr (st.slot ht hk h1 h3)
    refine ⟨w :: vs, ?_, VRL.cons h7 h9⟩
    rw [List.mapM_cons, Sem.run_bind]
    have h11 : (resVal a.tmps (.cell b t)).run P W = .ok w W := by
      show ((do loadVar t (← asAddr (slotV a b)) : Sem Value)).run P W = _
      have h12 : ((do loadVar t (← Instr.sureAddr (slotV a b)) : Sem Value)).run P W = _ := h6
      rw [h10] at h12 ⊢
      exact h12
    rw [h11]
    show ((rs.mapM (resVal a.tmps) >>= fun l => pure (w :: l) : Sem (List Value))).run P W = _
    rw [Sem.run_bind, h8]; rfl
theorem results_run (hT : TyOK P c.ty) (hro : ∀ b t, c.sy.ro b = some t → S.ro b = some t) {fn : Func} {r : Rs} {l : List V} (hc : cRes c fn.results.toList = some r) (hr : r f h = some l) (st : StA S c φ0 h0 W0 φ f h a W) :
    ∃ w, (results fn a.tmps).run P W = .ok w W ∧ VR S φ (retV l) w := by
  obtain ⟨vs, h1, h2⟩ := cRes_run hT hro hc hr st
  have h3 := h2.length
  rw [results_eq, Sem.run_bind, Sem.run_map, h1]
  refine ⟨_, rfl, ?_⟩
  match l, vs, h2, h3 with
  | [], [], h2, _ => exact VR.mkTup VRL.nil
  | [v], [w], h2, _ =>
    unfold VRL at h2
    obtain ⟨w', ws, e, h4, _⟩ := h2
    cases e
    exact h4
  | v :: v' :: l, w :: w' :: vs, h2, _ =>
    have : ¬ (w :: w' :: vs).toArray.size = 1 := by simp
    rw [dif_neg this]
    exact VR.mkTup h2
  | [], _ :: _, _, h3 => cases h3
  | [_], [], _, h3 => cases h3
  | [_], _ :: _ :: _, _, h3 => cases h3
  | _ :: _ :: _, [], _, h3 => cases h3
  | _ :: _ :: _, [_], _, h3 => cases h3

/-! ## The parameters -/
theorem fillU_at {d : Nat} : ∀ {m i : Nat} {ups : List Up} {l : List V} {f : FT} {k : FT → Res}, upsOf d m i = some ups → i + m ≤ 4 ^ d → fillU ups l f k = some outs →
    ∃ f', k f' = some outs ∧ l.length = m ∧ ∀ t, t < 4 ^ d → FT.at d t f' = if i ≤ t ∧ t < i + m then l[t - i]? else FT.at d t f
  | 0, i, ups, l, f, k, hu, _, hr => by
    cases hu
    cases l with
    | nil => exact ⟨f, hr, rfl, fun t _ => by rw [if_neg (by omega)]⟩
    | cons v l => cases hr
  | m + 1, i, ups, l, f, k, hu, hle, hr => by
    obtain ⟨u, h1, hu⟩ := ob_eq.1 hu
    obtain ⟨us, h2, hu⟩ := ob_eq.1 hu
    cases hu
    cases l with
    | nil => cases hr
    | cons v l =>
      have hr : u f v (fun f => fillU us l f k) = some outs := hr
      obtain ⟨f1, h3, h4⟩ := upd_at h1 hr
      obtain ⟨f2, h5, h6, h7⟩ := fillU_at h2 (by omega) h3
      refine ⟨f2, h5, by simp [h6], fun t ht => ?_⟩
      rw [h7 t ht]
      by_cases e1 : i + 1 ≤ t ∧ t < i + 1 + m
      · rw [if_pos e1, if_pos (by omega), show t - i = (t - (i + 1)) + 1 from by omega]; simp
      · rw [if_neg e1, h4 t ht (by omega)]
        by_cases e2 : t = i
        · subst e2; rw [if_pos rfl, if_pos (by omega)]; simp
        · rw [if_neg e2, if_neg (by omega)]
theorem at_em {d t : Nat} : FT.at d t .em = none := by cases d <;> rfl

def retPost (P : Program) (R : Value → World → Prop) (fn : Func) : Exit → Act → World → Prop := bodyPost P fn fun e w => match e with
  | .returned v => R v w
  | _ => False

structure FnOK (P : Program) (g : Nat) (fn : Func) : Prop where
  at_ : P.funcs[g]? = some fn
  ours : (fn.name == "runtime.NumGoroutine") = false

/-- What a context must hold of the program. -/
structure CxOK (P : Program) (S : Sym) (x : Ctx) : Prop where
  mix : P.follows .mixedOrders = true
  ty : TyOK P x.ty
  sy : SyOK P S x.sy
  ms : MsOK P x.ms
  fns : ∀ g fn, x.fns.get g = some fn → FnOK P g fn
  exts : ∀ g e, x.exts.get g = some e → ∀ args h outs, e args h = some outs → ∀ φ W (args' : Array Value), GOK x.sy.ng φ → VRL S φ args args'.toList → RH S x.ty φ h W.heap → Does P g args' W (Ans S x.ty φ h W outs)
/-- Every drawn region does what the engine says. -/
def DrawsOK : Prop := ∀ (P : Program) (S : Sym) (c : Cx) (K : Eng.K) (φ0 : Mp) (h0 : H) (W0 : World) (OUT : List (V × H)), CtxA P S c K φ0 → c.n ≤ 4 ^ c.d → DrawS P S c K φ0 h0 W0 OUT

theorem enter_calls (hDr : DrawsOK) {x : Ctx} (hX : CxOK P S x) (hK : KOK P S x.ty x.sy.ng K) {g : Nat} {fn : Func} (hf : FnOK P g fn) {args : List V} (hr : enter x K fn args h = some outs) {args' : Array Value}
    (hG : GOK x.sy.ng φ) (ha : VRL S φ args args'.toList) (r : RH S x.ty φ h W.heap) : fn.body.isNone = false ∧ Calls P g args' W fun e w => match e with
        | .returned v => Ans S x.ty φ h W outs v w
        | _ => False := by
  obtain ⟨cf, h1, hr⟩ := ob_eq.1 hr
  unfold cFunc at h1
  cases hb : fn.body with
  | none => rw [hb] at h1; cases h1
  | some code =>
    rw [hb] at h1
    simp only [fN_eq] at h1
    obtain ⟨h2, h1⟩ := gd_eq.1 h1
    obtain ⟨h3, h1⟩ := gd_eq.1 h1
    obtain ⟨rs, h4, h1⟩ := ob_eq.1 h1
    obtain ⟨ups, h5, h1⟩ := ob_eq.1 h1
    obtain ⟨bd, h6, h1⟩ := ob_eq.1 h1
    cases h1
    rw [natBle_eq] at h2 h3
    generalize hc : (⟨x.ty, x.ms, x.sy, depthOf fn.ntmps, fn.ntmps, resG fn.results.toList (Nat.lor (Nat.sub (Nat.pow 2 (Nat.add fn.params.size fn.nfree)) 1) (codeG code 0))⟩ : Cx) = c at h4 h6
    have e1 : c.ty = x.ty := by rw [← hc]
    have e2 : c.sy = x.sy := by rw [← hc]
    have e3 : c.ms = x.ms := by rw [← hc]
    have e4 : c.n = fn.ntmps := by rw [← hc]
    have e5 : c.d = depthOf fn.ntmps := by rw [← hc]
    have hC : CtxA P S c K φ := ⟨by rw [e1]; exact hX.ty, by rw [e2]; exact hX.sy, by rw [e3]; exact hX.ms, by rw [e1, e2]; exact hK, by rw [e2]; exact hG, hX.mix⟩
    have dp : c.n ≤ 4 ^ c.d := by rw [e4, e5]; exact h3
    have hr : fillU ups args .em (fun f => bd K [] f h) = some outs := hr
    obtain ⟨f, h7, h8, h9⟩ := fillU_at h5 (by rw [Nat.zero_add]; exact Nat.le_trans h2 h3) hr
    have hlen := ha.length
    have hsz : args'.size = fn.params.size + fn.nfree := by rw [← Array.length_toList, hlen, h8]; rfl
    have h2 : fn.params.size + fn.nfree ≤ fn.ntmps := h2
    have hcall : Calls P g args' W fun e w => match e with
        | .returned v => Ans S x.ty φ h W outs v w
        | _ => False := by
      refine calls_of_wp hf.at_ hb ?_
      have hgood := cCode_sound hC dp (hDr P S c K φ h W outs hC dp) code [] (retC rs) bd [] (retPost P (Ans S x.ty φ h W outs) fn) h6
      have hret : ∀ L, Good S c φ h W outs (retC rs K L) fun a' W' => a'.defers = [] ∧ ∃ v, (results fn a'.tmps).run P W' = .ok v W' ∧ Ans S x.ty φ h W outs v W' := by
        intro L f' h' outs' a' W' φ' hr' hs st
        obtain ⟨l, h10, hr'⟩ := ob_eq.1 hr'
        cases hr'
        obtain ⟨w, h11, h12⟩ := results_run hC.ty hC.sy.ro h4 h10 st
        exact ⟨st.df, w, h11, retV l, h', φ', hs _ (by simp), h12, by rw [← e1]; exact st.rh, st.fm⟩
      refine hgood (hret []) (fun id k hk => by cases hk) hret f h outs _ W φ h7 (fun _ hx => hx) ⟨?_, by rw [e1]; exact r, Fr.refl φ h W, ?_, rfl⟩
      · intro t _ ht hk v hv
        rw [e5] at hv
        rw [h9 t (Nat.lt_of_lt_of_le (e4 ▸ ht) h3)] at hv
        by_cases e : 0 ≤ t ∧ t < 0 + Nat.add fn.params.size fn.nfree
        · rw [if_pos e] at hv
          obtain ⟨w, h10, h11⟩ := ha.get hv
          have e' : t < args'.size := by rw [hsz]; have := e.2; rw [Nat.zero_add] at this; exact this
          have : slotV ({ tmps := args' ++ Array.replicate (fn.ntmps - args'.size) undef, defers := [] } : Act) t = w := by
            unfold slotV
            rw [Array.getD_eq_getD_getElem?, Array.getElem?_append_left e', ← Array.getElem?_toList]
            simp only [Nat.sub_zero] at h10
            rw [h10]; rfl
          rw [this]; exact h11
        · rw [if_neg e, at_em] at hv; cases hv
      · show (args' ++ Array.replicate (fn.ntmps - args'.size) undef).size = c.n
        rw [Array.size_append, Array.size_replicate, e4]; omega
    exact ⟨by simp, hcall⟩
theorem enter_sound (hDr : DrawsOK) {x : Ctx} (hX : CxOK P S x) (hK : KOK P S x.ty x.sy.ng K) {g : Nat} {fn : Func} (hf : FnOK P g fn) {args : List V} (hr : enter x K fn args h = some outs) {args' : Array Value}
    (hG : GOK x.sy.ng φ) (ha : VRL S φ args args'.toList) (r : RH S x.ty φ h W.heap) : Does P g args' W (Ans S x.ty φ h W outs) := by
  intro o a next Q hn
  obtain ⟨hb, hcall⟩ := enter_calls hDr hX hK hf hr hG ha r
  have e : (callFunc g args').run P W = .ok (.enter g args') W := by
    unfold callFunc
    simp only [Sem.run_bind, run_program, Result.andThen_ok, hf.at_, hf.ours, hb, Bool.false_eq_true, if_false]
    rfl
  rw [e]
  refine hcall.mono ?_
  intro en w' hR
  cases en with
  | returned v => exact hn v w' hR
  | panicked ch => exact hR.elim
  | outgrown => exact hR.elim

theorem callN_sound (hDr : DrawsOK) {x : Ctx} (hX : CxOK P S x) : ∀ n, KOK P S x.ty x.sy.ng (callN x n)
  | 0 => fun g args h outs hr => by cases hr
  | n + 1 => by
    intro g args h outs hr φ W args' hG ha r
    have hr : (Option.casesOn (x.exts.get g) (ob (x.fns.get g) fun fn => enter x (callN x n) fn args h) (fun e => Option.casesOn (e args h) (ob (x.fns.get g) fun fn => enter x (callN x n) fn args h) some) : Res) = some outs := hr
    have body : ob (x.fns.get g) (fun fn => enter x (callN x n) fn args h) = some outs → Does P g args' W (Ans S x.ty φ h W outs) := by
      intro hr
      obtain ⟨fn, h1, hr⟩ := ob_eq.1 hr
      exact enter_sound hDr hX (callN_sound hDr hX n) (hX.fns g fn h1) hr hG ha r
    cases he : x.exts.get g with
    | some e =>
      rw [he] at hr
      cases hea : e args h with
      | some o =>
        have hr : Option.casesOn (e args h) (ob (x.fns.get g) fun fn => enter x (callN x n) fn args h) some = some outs := hr
        rw [hea] at hr
        cases hr
        exact hX.exts g e he args h outs hea φ W args' hG ha r
      | none =>
        have hr : Option.casesOn (e args h) (ob (x.fns.get g) fun fn => enter x (callN x n) fn args h) some = some outs := hr
        rw [hea] at hr
        exact body hr
    | none =>
      rw [he] at hr
      exact body hr
end
end Eng

/- Drawn regions: what the compiler's checks say of the operations' order. -/
namespace Eng
open Go

theorem bitN_eq (g t : Nat) : bitN g t = g.testBit t := by
  unfold bitN
  have h : (Nat.shiftRight g t).mod 2 = g / 2 ^ t % 2 := by
    show g >>> t % 2 = _
    rw [Nat.shiftRight_eq_div_pow]
  rw [h, Nat.testBit_eq_decide_div_mod_eq]
  cases h' : Nat.beq (g / 2 ^ t % 2) 1 with
  | true => rw [natBeq_eq] at h'; simp [h']
  | false => rw [natBeq_ne] at h'; simp [h']
theorem land_bits {a m : Nat} (h : Nat.beq (Nat.land a m) a = true) {i : Nat} (hi : a.testBit i = true) : m.testBit i = true := by
  rw [natBeq_eq] at h
  have h : a &&& m = a := h
  have := Nat.testBit_and a m i
  rw [h, hi] at this
  simpa using this.symm
theorem land_ne {a m : Nat} (h : Nat.beq (Nat.land a m) 0 = false) : ∃ i, a.testBit i = true ∧ m.testBit i = true := by
  rw [natBeq_ne] at h
  obtain ⟨i, hi⟩ := Nat.exists_testBit_of_ne_zero h
  have h2 : (a &&& m).testBit i = true := hi
  rw [Nat.testBit_and] at h2
  simp at h2
  exact ⟨i, h2⟩
theorem lor_bits {a b i : Nat} (h : (Nat.lor a b).testBit i = true) : a.testBit i = true ∨ b.testBit i = true := by
  have h : (a ||| b).testBit i = true := h
  rw [Nat.testBit_or] at h
  simpa using h
theorem pow_bits {n i : Nat} (h : (Nat.pow 2 n).testBit i = true) : i = n := by
  have h : (2 ^ n).testBit i = true := h
  rw [Nat.testBit_two_pow] at h
  simpa using (of_decide_eq_true h).symm

theorem selD_eq (p : DOp → Bool) (l : List DOp) : selD p l = l.filter p := by
  induction l with
  | nil => rfl
  | cons d l ih =>
    show (Bool.casesOn (p d) (selD p l) (d :: selD p l) : List DOp) = _
    cases h : p d with
    | true => rw [List.filter_cons_of_pos h, ih]
    | false => rw [List.filter_cons_of_neg (by simp [h]), ih]
theorem mem_selD {p : DOp → Bool} {l : List DOp} {d : DOp} : d ∈ selD p l ↔ d ∈ l ∧ p d = true := by rw [selD_eq, List.mem_filter]
theorem allB_eq {p : DOp → Bool} : ∀ {l : List DOp}, chainOk.allB p l = true → ∀ d ∈ l, p d = true
  | [], _, d, h => by cases h
  | x :: l, h, d, hd => by
    have h : (Bool.casesOn (p x) false (chainOk.allB p l) : Bool) = true := h
    cases hx : p x with
    | false => rw [hx] at h; cases h
    | true =>
      rw [hx] at h
      rcases List.mem_cons.1 hd with rfl | hd
      · exact hx
      · exact allB_eq h d hd
theorem memT_eq {t : Nat} : ∀ {l : List Nat}, memT t l = true ↔ t ∈ l
  | [] => by simp [memT]
  | x :: l => by
    show (Bool.casesOn (Nat.beq t x) (memT t l) true : Bool) = true ↔ _
    cases h : Nat.beq t x with
    | true => rw [natBeq_eq] at h; subst h; simp
    | false => rw [natBeq_ne] at h; simp [h, memT_eq]
theorem memT_ne {t : Nat} {l : List Nat} (h : memT t l = false) : t ∉ l := fun hm => by rw [memT_eq.2 hm] at h; cases h
theorem chainOk_eq : ∀ {l : List DOp}, chainOk l = true → l.Pairwise fun d e => e.b.testBit d.i = true
  | [], _ => List.Pairwise.nil
  | x :: l, h => by
    have h : (Bool.casesOn (chainOk.allB (fun e => bitN e.b x.i) l) false (chainOk l) : Bool) = true := h
    cases hx : chainOk.allB (fun e => bitN e.b x.i) l with
    | false => rw [hx] at h; cases h
    | true =>
      rw [hx] at h
      exact List.Pairwise.cons (fun e he => by rw [← bitN_eq]; exact allB_eq hx e he) (chainOk_eq h)
theorem mem_slots {d : DOp} : ∀ {es non : List DOp}, d ∈ slots es non ↔ d ∈ es ∨ d ∈ non
  | [], non => by simp [slots]
  | e :: es, non => by
    show d ∈ selD (fun d => Nat.beq (Nat.land d.b (bitsOf (e :: es))) 0) non ++ e :: slots es (selD (fun d => notB (Nat.beq (Nat.land d.b (bitsOf (e :: es))) 0)) non) ↔ _
    rw [List.mem_append, List.mem_cons, mem_slots, mem_selD, mem_selD, List.mem_cons]
    cases h : Nat.beq (Nat.land d.b (bitsOf (e :: es))) 0 with
    | true => simp; grind
    | false => simp; grind
theorem bitsOf_mem {i : Nat} : ∀ {l : List DOp}, (bitsOf l).testBit i = true → ∃ d ∈ l, d.i = i
  | [], h => by simp [bitsOf] at h
  | x :: l, h => by
    rcases lor_bits h with h | h
    · exact ⟨x, by simp, (pow_bits h).symm⟩
    · obtain ⟨d, h1, h2⟩ := bitsOf_mem h
      exact ⟨d, List.mem_cons_of_mem _ h1, h2⟩
/-- Each operation stands behind what is ahead of it, and no number comes twice. -/
theorem topoOk_at : ∀ {s1 : List DOp} {d : DOp} {s2 : List DOp} {m : Nat}, topoOk (s1 ++ d :: s2) m = true → (∀ i, d.b.testBit i = true → m.testBit i = true ∨ ∃ x ∈ s1, x.i = i) ∧ m.testBit d.i = false ∧ ∀ x ∈ s1, x.i ≠ d.i
  | [], d, s2, m, h => by
    have h : (Bool.casesOn (Nat.beq (Nat.land d.b m) d.b) false (Bool.casesOn (bitN m d.i) (topoOk s2 (Nat.lor m (Nat.pow 2 d.i))) false) : Bool) = true := h
    cases h1 : Nat.beq (Nat.land d.b m) d.b with
    | false => rw [h1] at h; cases h
    | true =>
      rw [h1] at h
      cases h2 : bitN m d.i with
      | true => rw [h2] at h; cases h
      | false => exact ⟨fun i hi => .inl (land_bits h1 hi), by rw [← bitN_eq]; exact h2, fun x hx => by cases hx⟩
  | y :: s1, d, s2, m, h => by
    have h : (Bool.casesOn (Nat.beq (Nat.land y.b m) y.b) false (Bool.casesOn (bitN m y.i) (topoOk (s1 ++ d :: s2) (Nat.lor m (Nat.pow 2 y.i))) false) : Bool) = true := h
    cases h1 : Nat.beq (Nat.land y.b m) y.b with
    | false => rw [h1] at h; cases h
    | true =>
      rw [h1] at h
      cases h2 : bitN m y.i with
      | true => rw [h2] at h; cases h
      | false =>
        rw [h2] at h
        obtain ⟨g1, g2, g3⟩ := topoOk_at h
        have g2' : (m ||| 2 ^ y.i).testBit d.i = false := g2
        rw [Nat.testBit_or] at g2'
        simp only [Bool.or_eq_false_iff] at g2'
        refine ⟨fun i hi => ?_, g2'.1, fun x hx => ?_⟩
        · rcases g1 i hi with g | ⟨x, hx, he⟩
          · rcases lor_bits g with g | g
            · exact .inl g
            · exact .inr ⟨y, by simp, (pow_bits g).symm⟩
          · exact .inr ⟨x, List.mem_cons_of_mem _ hx, he⟩
        · rcases List.mem_cons.1 hx with rfl | hx
          · intro e
            have := g2'.2
            rw [Nat.testBit_two_pow, e] at this
            simp at this
          · exact g3 x hx
theorem waits_at {m : Nat} : ∀ {l : List DOp}, asapOk.waits m l = true → ∀ d ∈ l.takeWhile (fun d => !isEf d), Nat.beq (Nat.land d.b m) 0 = false
  | [], _, d, hd => by simp at hd
  | x :: l, h, d, hd => by
    have h : (Bool.casesOn (isEf x) (Bool.casesOn (Nat.beq (Nat.land x.b m) 0) (asapOk.waits m l) false) (asapOk.waits m l) : Bool) = true := h
    cases hx : isEf x with
    | true => rw [List.takeWhile_cons, hx] at hd; simp at hd
    | false =>
      rw [hx] at h
      rw [List.takeWhile_cons, hx] at hd
      simp only [Bool.not_false, if_true, List.mem_cons] at hd
      cases h1 : Nat.beq (Nat.land x.b m) 0 with
      | true => rw [h1] at h; cases h
      | false =>
        rw [h1] at h
        rcases hd with rfl | hd
        · exact h1
        · exact waits_at h d hd
theorem asapOk_at : ∀ {l : List DOp}, asapOk l = true → ∀ d ∈ l, isEf d = false → (∃ e ∈ l, isEf e = true ∧ d.b.testBit e.i = true) ∨ d ∈ l.takeWhile (fun d => !isEf d)
  | [], _, d, hd, _ => by cases hd
  | x :: l, h, d, hd, hn => by
    have h : (Bool.casesOn (isEf x) (asapOk l) (Bool.casesOn (asapOk.waits (bitsOf (selD isEf (x :: l))) l) false (asapOk l)) : Bool) = true := h
    cases hx : isEf x with
    | false =>
      rw [hx] at h
      rw [List.takeWhile_cons, hx]
      rcases List.mem_cons.1 hd with rfl | hd
      · exact .inr (by simp)
      · rcases asapOk_at h d hd hn with ⟨e, h1, h2⟩ | h1
        · exact .inl ⟨e, List.mem_cons_of_mem _ h1, h2⟩
        · exact .inr (by simp [h1])
    | true =>
      rw [hx] at h
      rcases List.mem_cons.1 hd with rfl | hd
      · rw [hx] at hn; cases hn
      · cases hw : asapOk.waits (bitsOf (selD isEf (x :: l))) l with
        | false => rw [hw] at h; cases h
        | true =>
          rw [hw] at h
          rcases asapOk_at h d hd hn with ⟨e, h1, h2⟩ | h1
          · exact .inl ⟨e, List.mem_cons_of_mem _ h1, h2⟩
          · obtain ⟨i, h3, h4⟩ := land_ne (waits_at hw d h1)
            obtain ⟨e, h5, h6⟩ := bitsOf_mem h4
            rw [mem_selD] at h5
            exact .inl ⟨e, h5.1, h5.2, by rw [h6]; exact h3⟩

/-! ## What is ahead -/
theorem bindsB_eq (e : Edge) : bindsB e = Region.binds .any e := by
  unfold bindsB Region.binds
  cases e.ground <;> rfl
theorem edgesOk_at : ∀ {l : List Oper} {j : Nat}, edgesOk l j = true → ∀ k o, l[k]? = some o → ∀ e ∈ o.after.toList, bindsB e = true → e.on < j + k
  | [], j, _, k, o, h, e, he => by simp at h
  | x :: l, j, h, k, o, hk, e, he => by
    have h : (Bool.casesOn (edgesOk.backE j x.after.toList) false (edgesOk l (Nat.succ j)) : Bool) = true := h
    cases hx : edgesOk.backE j x.after.toList with
    | false => rw [hx] at h; cases h
    | true =>
      rw [hx] at h
      cases k with
      | zero => simp at hk; subst hk; exact back hx e he
      | succ k => have := edgesOk_at h k o (by simpa using hk) e he; exact fun hb => by have := this hb; omega
where
  back {j : Nat} : ∀ {l : List Edge}, edgesOk.backE j l = true → ∀ e ∈ l, bindsB e = true → e.on < j
    | [], _, e, he => by cases he
    | x :: l, h, e, he => by
      have h : (Bool.casesOn (bindsB x) (edgesOk.backE j l) (Bool.casesOn (Nat.blt x.on j) false (edgesOk.backE j l)) : Bool) = true := h
      cases h1 : bindsB x with
      | false =>
        rw [h1] at h
        rcases List.mem_cons.1 he with rfl | he
        · exact fun hb => by rw [h1] at hb; cases hb
        · exact back h e he
      | true =>
        rw [h1] at h
        cases h2 : Nat.blt x.on j with
        | false => rw [h2] at h; cases h
        | true =>
          rw [h2] at h
          rcases List.mem_cons.1 he with rfl | he
          · rw [natBlt_eq] at h2; exact fun _ => h2
          · exact back h e he
theorem orE_at {look : Nat → Nat} {i : Nat} : ∀ {l : List Edge} {s : Nat}, (orE look l s).testBit i = true → s.testBit i = true ∨ ∃ e ∈ l, bindsB e = true ∧ (i = e.on ∨ (look e.on).testBit i = true)
  | [], s, h => .inl h
  | e :: l, s, h => by
    have h : (Bool.casesOn (bindsB e) (orE look l s) (fN (Nat.lor s (Nat.lor (Nat.pow 2 e.on) (look e.on))) fun s => orE look l s) : Nat).testBit i = true := h
    rw [fN_eq] at h
    cases hb : bindsB e with
    | false =>
      rw [hb] at h
      rcases orE_at h with h | ⟨x, h1, h2⟩
      · exact .inl h
      · exact .inr ⟨x, List.mem_cons_of_mem _ h1, h2⟩
    | true =>
      rw [hb] at h
      rcases orE_at h with h | ⟨x, h1, h2⟩
      · rcases lor_bits h with h | h
        · exact .inl h
        · rcases lor_bits h with h | h
          · exact .inr ⟨e, by simp, hb, .inl (pow_bits h)⟩
          · exact .inr ⟨e, by simp, hb, .inr h⟩
      · exact .inr ⟨x, List.mem_cons_of_mem _ h1, h2⟩
/-- The bits of operation j, by those of the earlier ones. -/
def BitsOK (ops : List Oper) (B : List Nat) : Prop :=
  ∀ j b, B[j]? = some b → ∀ i, b.testBit i = true → ∃ o e, ops[j]? = some o ∧ e ∈ o.after.toList ∧ bindsB e = true ∧ (i = e.on ∨ (e.on < j ∧ ∃ b', B[e.on]? = some b' ∧ b'.testBit i = true))
theorem befores_at {ops : List Oper} : ∀ {l pre : List Oper} {acc : List Nat}, ops = pre ++ l → acc.length = pre.length → BitsOK ops acc.reverse →
    (befores l pre.length acc).length = ops.length ∧ BitsOK ops (befores l pre.length acc).reverse
  | [], pre, acc, h, hl, hb => by simp at h; subst h; exact ⟨hl, hb⟩
  | o :: l, pre, acc, h, hl, hb => by
    have e : befores (o :: l) pre.length acc = fN (orE (fun i => Bool.casesOn (Nat.blt i pre.length) 0 (atR acc pre.length i)) o.after.toList 0) fun b => befores l (Nat.succ pre.length) (b :: acc) := rfl
    rw [e, fN_eq]
    generalize hbv : orE (fun i => Bool.casesOn (Nat.blt i pre.length) 0 (atR acc pre.length i)) o.after.toList 0 = b
    have ih := @befores_at ops l (pre ++ [o]) (b :: acc) (by simp [h]) (by simp [hl])
    have e2 : (pre ++ [o]).length = Nat.succ pre.length := by simp
    rw [e2] at ih
    refine ih ?_
    intro j b' hj i hi
    rw [List.reverse_cons] at hj ⊢
    have hlen : acc.reverse.length = pre.length := by simp [hl]
    by_cases hlt : j < pre.length
    · rw [List.getElem?_append_left (by omega)] at hj
      obtain ⟨o', e', h1, h2, h3, h4⟩ := hb j b' hj i hi
      refine ⟨o', e', h1, h2, h3, h4.imp id fun ⟨g1, b2, g2, g3⟩ => ⟨g1, b2, ?_, g3⟩⟩
      rw [List.getElem?_append_left (by omega)]; exact g2
    · rw [List.getElem?_append_right (by omega), hlen] at hj
      have hj0 : j = pre.length := by
        rcases Nat.lt_or_ge (j - pre.length) 1 with h' | h'
        · omega
        · rw [List.getElem?_eq_none (by simpa using h')] at hj; cases hj
      subst hj0
      simp at hj
      subst hj
      rw [← hbv] at hi
      rcases orE_at hi with h0 | ⟨x, h1, h2, h3⟩
      · simp at h0
      · refine ⟨o, x, by simp [h], h1, h2, h3.imp id fun h4 => ?_⟩
        cases hlt' : Nat.blt x.on pre.length with
        | false => rw [hlt'] at h4; simp at h4
        | true =>
          rw [hlt'] at h4
          rw [natBlt_eq] at hlt'
          refine ⟨hlt', ?_⟩
          have h5 : acc.reverse[x.on]? = acc[pre.length - 1 - x.on]? := by rw [List.getElem?_reverse (by omega), hl]
          have h4 : (Option.casesOn (nthO acc (Nat.sub (Nat.sub pre.length 1) x.on)) 0 (fun x => x) : Nat).testBit i = true := h4
          rw [nthO_eq] at h4
          have h6 : acc[pre.length - 1 - x.on]? = acc[Nat.sub (Nat.sub pre.length 1) x.on]? := rfl
          rw [← h6] at h4
          rw [List.getElem?_append_left (by omega), h5]
          cases hq : acc[pre.length - 1 - x.on]? with
          | none => rw [hq] at h4; simp at h4
          | some q => rw [hq] at h4; exact ⟨q, rfl, h4⟩
theorem mem_dops {c : Cx} {d : DOp} : ∀ {l : List Oper} {B : List Nat} {k : Nat}, d ∈ dopsOf c l B k → k ≤ d.i ∧ l[d.i - k]? = some d.o ∧ B[d.i - k]? = some d.b ∧ d.cl = clOf c d.o
  | [], B, k, h => by cases B <;> cases h
  | o :: l, [], k, h => by cases h
  | o :: l, b :: B, k, h => by
    rcases List.mem_cons.1 h with rfl | h
    · simp
    · obtain ⟨h1, h2, h3, h4⟩ := mem_dops h
      have : d.i - k = (d.i - Nat.succ k) + 1 := by omega
      exact ⟨by omega, by rw [this]; simpa using h2, by rw [this]; simpa using h3, h4⟩
theorem dops_mem {c : Cx} : ∀ {l : List Oper} {B : List Nat} {k j : Nat} {o : Oper} {b : Nat}, l[j]? = some o → B[j]? = some b → (⟨k + j, o, b, clOf c o⟩ : DOp) ∈ dopsOf c l B k
  | [], B, k, j, o, b, h, _ => by simp at h
  | x :: l, [], k, j, o, b, _, h => by simp at h
  | x :: l, y :: B, k, j, o, b, h, h' => by
    cases j with
    | zero => simp at h h'; subst h; subst h'; exact List.mem_cons_self
    | succ j =>
      have := @dops_mem c l B (Nat.succ k) j o b (by simpa using h) (by simpa using h')
      rw [show Nat.succ k + j = k + (j + 1) from by omega] at this
      exact List.mem_cons_of_mem _ this
end Eng

/- Drawn regions: the canonical order; what has been done of it; what the slots hold. -/
namespace Eng
open Go

structure SSOK (all : List Oper) (ss : List DOp) : Prop where
  topo : ∀ s1 d s2, ss = s1 ++ d :: s2 → (∀ i, d.b.testBit i = true → ∃ x ∈ s1, x.i = i) ∧ ∀ x ∈ s1, x.i ≠ d.i
  named : ∀ w ∈ ss, ∀ d ∈ ss, ∀ t, w.o.dst = some t → t ∈ namesOf all d.o → d.i = w.i ∨ d.b.testBit w.i = true ∨ w.b.testBit d.i = true
  self : ∀ d ∈ ss, ∀ t, d.o.dst = some t → t ∉ looksOf all d.o
  effs : ∀ e ∈ ss, ∀ e' ∈ ss, isEf e = true → isEf e' = true → e.i ≠ e'.i → e.b.testBit e'.i = true ∨ e'.b.testBit e.i = true
  asap : asapOk ss = true
  idx : ∀ i o, all[i]? = some o → ∃ d ∈ ss, d.i = i
  at_ : ∀ d ∈ ss, all[d.i]? = some d.o
  bits : ∀ d ∈ ss, ∀ i, d.b.testBit i = true → ∃ e ∈ d.o.after.toList, bindsB e = true ∧ (i = e.on ∨ ∃ d' ∈ ss, d'.i = e.on ∧ d'.b.testBit i = true)
  edges : ∀ d ∈ ss, ∀ e ∈ d.o.after.toList, bindsB e = true → e.on < d.i
  cl : ∃ c, ∀ d ∈ ss, d.cl = clOf c d.o

theorem namesOf_eq (all : List Oper) (o : Oper) (t : Nat) : t ∈ namesOf all o ↔ o.dst = some t ∨ t ∈ looksOf all o := by
  unfold namesOf
  rw [List.mem_append]
  cases h : o.dst with
  | none => simp
  | some d => simp [eq_comm]

theorem pairwise_or {l : List DOp} {R : DOp → DOp → Prop} (h : l.Pairwise R) : ∀ x ∈ l, ∀ y ∈ l, x.i ≠ y.i → R x y ∨ R y x := by
  induction h with
  | nil => intro x hx; cases hx
  | cons h1 _ ih =>
    intro x hx y hy hne
    rcases List.mem_cons.1 hx with e1 | hx1 <;> rcases List.mem_cons.1 hy with e2 | hy1
    · rw [e1, e2] at hne; exact absurd rfl hne
    · rw [e1]; exact .inl (h1 y hy1)
    · rw [e2]; exact .inr (h1 x hx1)
    · exact ih x hx1 y hy1 hne

/-- The checks of 'cDraw' give all that. -/
theorem cDraw_ss {c : Cx} {ops : List Oper} {fin r : RCode} (h : cDraw c ops fin = some r) : ∃ ss, SSOK ops ss ∧ (∀ d ∈ ss, d.cl = clOf c d.o) ∧ dOps c ops fin ss [] 0 [] [] = some r := by
  unfold cDraw at h
  simp only [] at h
  generalize hds : dopsOf c ops (List.reverse (befores ops 0 [])) 0 = ds at h
  generalize hss : slots (selD isEf ds) (selD (fun d => notB (isEf d)) ds) = ss at h
  obtain ⟨h1, h⟩ := gd_eq.1 h
  obtain ⟨h2, h⟩ := gd_eq.1 h
  obtain ⟨h3, h⟩ := gd_eq.1 h
  obtain ⟨h4, h⟩ := gd_eq.1 h
  obtain ⟨h5, h⟩ := gd_eq.1 h
  obtain ⟨_, h⟩ := gd_eq.1 h
  obtain ⟨h6, h⟩ := gd_eq.1 h
  have hmem : ∀ d, d ∈ ss ↔ d ∈ ds := by
    intro d
    rw [← hss, mem_slots, mem_selD, mem_selD]
    cases isEf d <;> simp
  obtain ⟨hlen, hbits⟩ := @befores_at ops ops [] [] (by simp) rfl (by intro j b hj; simp at hj)
  have hds' : ∀ d ∈ ds, ops[d.i]? = some d.o ∧ (befores ops 0 []).reverse[d.i]? = some d.b ∧ d.cl = clOf c d.o := by
    intro d hd
    rw [← hds] at hd
    obtain ⟨_, g1, g2, g3⟩ := mem_dops hd
    exact ⟨by simpa using g1, by simpa using g2, g3⟩
  have hall : ∀ i o, ops[i]? = some o → ∃ b, (befores ops 0 []).reverse[i]? = some b ∧ (⟨i, o, b, clOf c o⟩ : DOp) ∈ ds := by
    intro i o ho
    have hi : i < (befores ops 0 []).reverse.length := by
      rw [List.length_reverse]
      have : i < ops.length := (List.getElem?_eq_some_iff.1 ho).1
      have hlen' : (befores ops 0 []).length = ops.length := hlen
      omega
    refine ⟨_, List.getElem?_eq_getElem hi, ?_⟩
    have := @dops_mem c ops _ 0 i o _ ho (List.getElem?_eq_getElem hi)
    rw [hds, Nat.zero_add] at this
    exact this
  refine ⟨ss, ⟨?_, ?_, ?_, ?_, h6, ?_, ?_, ?_, ?_, ⟨c, fun d hd => (hds' d ((hmem d).1 hd)).2.2⟩⟩, fun d hd => (hds' d ((hmem d).1 hd)).2.2, h⟩
  · intro s1 d s2 e
    rw [e] at h5
    obtain ⟨g1, _, g3⟩ := topoOk_at h5
    exact ⟨fun i hi => (g1 i hi).resolve_left (by simp), g3⟩
  · intro w hw d hd t ht hn
    have g1 := allB_eq h3 w ((hmem w).1 hw)
    rw [ht] at g1
    have g2 := allB_eq g1 d ((hmem d).1 hd)
    rw [memT_eq.2 hn] at g2
    have g2 : (Bool.casesOn (Nat.beq d.i w.i) (Bool.casesOn (bitN d.b w.i) (bitN w.b d.i) true) true : Bool) = true := g2
    cases e1 : Nat.beq d.i w.i with
    | true => rw [natBeq_eq] at e1; exact .inl e1
    | false =>
      rw [e1] at g2
      cases e2 : bitN d.b w.i with
      | true => rw [bitN_eq] at e2; exact .inr (.inl e2)
      | false => rw [e2] at g2; exact .inr (.inr (by rw [← bitN_eq]; exact g2))
  · intro d hd t ht
    have g1 := allB_eq h4 d ((hmem d).1 hd)
    rw [ht] at g1
    have g1 : (Bool.casesOn (memT t (looksOf ops d.o)) true false : Bool) = true := g1
    cases e1 : memT t (looksOf ops d.o) with
    | true => rw [e1] at g1; cases g1
    | false => exact memT_ne e1
  · intro e he e' he' h7 h8 hne
    have g := pairwise_or (chainOk_eq h2) e (by rw [mem_selD]; exact ⟨(hmem e).1 he, h7⟩) e' (by rw [mem_selD]; exact ⟨(hmem e').1 he', h8⟩) hne
    exact g.symm
  · intro i o ho
    obtain ⟨b, _, g⟩ := hall i o ho
    exact ⟨_, (hmem _).2 g, rfl⟩
  · intro d hd
    exact (hds' d ((hmem d).1 hd)).1
  · intro d hd i hi
    obtain ⟨g1, g2, _⟩ := hds' d ((hmem d).1 hd)
    obtain ⟨o, e, k1, k2, k3, k4⟩ := hbits d.i d.b g2 i hi
    rw [g1] at k1
    cases k1
    refine ⟨e, k2, k3, k4.imp id fun ⟨k5, b', k6, k7⟩ => ?_⟩
    have hlt : e.on < ops.length := by
      have := (List.getElem?_eq_some_iff.1 k6).1
      rw [List.length_reverse] at this
      have hlen' : (befores ops 0 []).length = ops.length := hlen
      omega
    obtain ⟨b2, k8, k9⟩ := hall e.on _ (List.getElem?_eq_getElem hlt)
    have k6' : (befores ops 0 []).reverse[e.on]? = some b' := k6
    rw [k8] at k6'
    cases k6'
    exact ⟨_, (hmem _).2 k9, rfl, k7⟩
  · intro d hd e he
    have g1 := (hds' d ((hmem d).1 hd)).1
    have := edgesOk_at h1 d.i d.o g1 e he
    simpa using this

/-! ## What has been done -/
def runD (D : Nat → Bool) (val : Nat → Value) : List DOp → Act → Act
  | [], a => a
  | d :: l, a => runD D val l (bif D d.i then a.put d.o.dst (val d.i) else a)
section
variable {D D' : Nat → Bool} {val val' : Nat → Value}
theorem runD_append : ∀ {l1 l2 : List DOp} {a : Act}, runD D val (l1 ++ l2) a = runD D val l2 (runD D val l1 a)
  | [], _, _ => rfl
  | d :: l1, l2, a => by show runD D val (l1 ++ l2) _ = _; rw [runD_append]; rfl
theorem runD_size : ∀ {l : List DOp} {a : Act}, (runD D val l a).tmps.size = a.tmps.size
  | [], _ => rfl
  | d :: l, a => by
    show (runD D val l _).tmps.size = _
    rw [runD_size]
    cases D d.i
    · rfl
    · exact put_size
theorem slot_put' {a a' : Act} {dst : Option Nat} {w : Value} {t : Nat} (hs : a.tmps.size = a'.tmps.size) (h : slotV a t = slotV a' t) : slotV (a.put dst w) t = slotV (a'.put dst w) t := by
  cases dst with
  | none => exact h
  | some d =>
    by_cases hd : d < a.tmps.size
    · rw [slot_put hd, slot_put (hs ▸ hd), h]
    · have e1 : a.put (some d) w = a := by
        unfold Act.put
        simp only [Array.setIfInBounds, hd, dite_false]
      have e2 : a'.put (some d) w = a' := by
        unfold Act.put
        simp only [Array.setIfInBounds, hs ▸ hd, dite_false]
      rw [e1, e2, h]
theorem slot_put_ne {a : Act} {dst : Option Nat} {w : Value} {t : Nat} (h : dst ≠ some t) : slotV (a.put dst w) t = slotV a t := by
  cases dst with
  | none => rfl
  | some d =>
    by_cases hd : d < a.tmps.size
    · rw [slot_put hd, if_neg (fun e => h (by rw [e]))]
    · have e1 : a.put (some d) w = a := by
        unfold Act.put
        simp only [Array.setIfInBounds, hd, dite_false]
      rw [e1]
theorem runD_agree {t : Nat} : ∀ {l : List DOp} {a a' : Act}, a.tmps.size = a'.tmps.size → slotV a t = slotV a' t → (∀ d ∈ l, d.o.dst = some t → D d.i = D' d.i ∧ val d.i = val' d.i) →
    slotV (runD D val l a) t = slotV (runD D' val' l a') t
  | [], a, a', _, h, _ => h
  | d :: l, a, a', hs, h, hd => by
    have e1 : (bif D d.i then a.put d.o.dst (val d.i) else a).tmps.size = a.tmps.size := by cases D d.i <;> simp [put_size]
    have e2 : (bif D' d.i then a'.put d.o.dst (val' d.i) else a').tmps.size = a'.tmps.size := by cases D' d.i <;> simp [put_size]
    show slotV (runD D val l (bif D d.i then a.put d.o.dst (val d.i) else a)) t = slotV (runD D' val' l (bif D' d.i then a'.put d.o.dst (val' d.i) else a')) t
    refine runD_agree (by rw [e1, e2, hs]) ?_ fun x hx => hd x (List.mem_cons_of_mem _ hx)
    by_cases ht : d.o.dst = some t
    · obtain ⟨h1, h2⟩ := hd d (by simp) ht
      rw [h1, h2]
      cases D' d.i
      · exact h
      · exact slot_put' hs h
    · have f1 : slotV (bif D d.i then a.put d.o.dst (val d.i) else a) t = slotV a t := by cases D d.i <;> simp [slot_put_ne ht]
      have f2 : slotV (bif D' d.i then a'.put d.o.dst (val' d.i) else a') t = slotV a' t := by cases D' d.i <;> simp [slot_put_ne ht]
      rw [f1, f2, h]
theorem runD_none {t : Nat} : ∀ {l : List DOp} {a : Act}, (∀ d ∈ l, d.o.dst = some t → D d.i = false) → slotV (runD D val l a) t = slotV a t
  | [], a, _ => rfl
  | d :: l, a, hd => by
    show slotV (runD D val l _) t = _
    rw [runD_none fun x hx => hd x (List.mem_cons_of_mem _ hx)]
    cases hD : D d.i with
    | false => rfl
    | true => exact slot_put_ne fun e => by rw [hd d (by simp) e] at hD; cases hD

def setB (D : Nat → Bool) (i : Nat) : Nat → Bool := fun j => bif Nat.beq j i then true else D j
def setVal (val : Nat → Value) (i : Nat) (w : Value) : Nat → Value := fun j => bif Nat.beq j i then w else val j
theorem setB_self {i : Nat} : setB D i i = true := by simp [setB, Nat.beq_refl]
theorem setB_ne {i j : Nat} (h : j ≠ i) : setB D i j = D j := by
  unfold setB
  have : Nat.beq j i = false := by rw [natBeq_ne]; exact h
  rw [this]; rfl
theorem setB_mono {i j : Nat} (h : D j = true) : setB D i j = true := by
  by_cases e : j = i
  · rw [e]; exact setB_self
  · rw [setB_ne e]; exact h
theorem setVal_self {i : Nat} {w : Value} : setVal val i w i = w := by simp [setVal, Nat.beq_refl]
theorem setVal_ne {i j : Nat} {w : Value} (h : j ≠ i) : setVal val i w j = val j := by
  unfold setVal
  have : Nat.beq j i = false := by rw [natBeq_ne]; exact h
  rw [this]; rfl

/-- One more has been done, wherever it stands in the canonical order. -/
theorem runD_done {l1 l2 : List DOp} {d : DOp} {a0 a : Act} {w : Value} (hs : a.tmps.size = a0.tmps.size) (ha : ∀ t, slotV a t = slotV (runD D val (l1 ++ l2) a0) t) (hlt : ∀ t, d.o.dst = some t → t < a0.tmps.size)
    (h1 : ∀ x ∈ l1, x.i ≠ d.i) (h2 : ∀ x ∈ l2, x.i ≠ d.i) (h3 : ∀ x ∈ l2, ∀ t, d.o.dst = some t → x.o.dst = some t → D x.i = false) :
    ∀ t, slotV (a.put d.o.dst w) t = slotV (runD (setB D d.i) (setVal val d.i w) (l1 ++ d :: l2) a0) t := by
  intro t
  have e1 : runD (setB D d.i) (setVal val d.i w) (l1 ++ d :: l2) a0 = runD (setB D d.i) (setVal val d.i w) l2 ((runD (setB D d.i) (setVal val d.i w) l1 a0).put d.o.dst w) := by
    rw [runD_append]
    show runD _ _ l2 (bif setB D d.i d.i then _ else _) = _
    rw [setB_self, setVal_self]; rfl
  have hag1 : ∀ x ∈ l1, x.o.dst = some t → setB D d.i x.i = D x.i ∧ setVal val d.i w x.i = val x.i := fun x hx _ => ⟨setB_ne (h1 x hx), setVal_ne (h1 x hx)⟩
  have hag2 : ∀ x ∈ l2, x.o.dst = some t → setB D d.i x.i = D x.i ∧ setVal val d.i w x.i = val x.i := fun x hx _ => ⟨setB_ne (h2 x hx), setVal_ne (h2 x hx)⟩
  rw [e1]
  by_cases ht : d.o.dst = some t
  · have hlt' := hlt t ht
    rw [runD_none fun x hx hxt => by rw [setB_ne (h2 x hx)]; exact h3 x hx t ht hxt]
    rw [ht, slot_put (by rw [hs]; exact hlt'), slot_put (by rw [runD_size]; exact hlt')]
    simp
  · rw [slot_put_ne ht, ha t, runD_append]
    refine (runD_agree (by rw [put_size, runD_size, runD_size]) ?_ hag2).symm
    rw [slot_put_ne ht]
    exact runD_agree rfl rfl hag1
end

/-! ## The records of what the engine has passed -/
structure Rec where
  d : DOp
  env : Env
  f : FT
  l : List V
  env' : Env
  f' : FT
  l' : List V
  R : Mp → Value → Prop
structure RecOK (S : Sym) (c : Cx) (r : Rec) : Prop where
  mono : ∀ φ φ' w, Gro φ φ' → r.R φ w → r.R φ' w
  done : ∀ X φ a w, RSt S φ c X r.env r.f r.l a → r.R φ w → RSt S φ c X r.env' r.f' r.l' (a.put r.d.o.dst w)
  skip : ∀ X φ a, RSt S φ c X r.env r.f r.l a → (∀ t, X t → r.d.o.dst ≠ some t) → RSt S φ c X r.env' r.f' r.l' a
  lt : ∀ t, r.d.o.dst = some t → t < c.n
def Chain : List Rec → Env → FT → List V → Env → FT → List V → Prop
  | [], e, f, l, e', f', l' => e = e' ∧ f = f' ∧ l = l'
  | r :: rs, e, f, l, e', f', l' => r.env = e ∧ r.f = f ∧ r.l = l ∧ Chain rs r.env' r.f' r.l' e' f' l'
theorem Chain.split : ∀ {r1 _r2 : List Rec} {e f l _e' _f' _l'}, Chain (r1 ++ _r2) e f l _e' _f' _l' → ∃ e1 f1 l1, Chain r1 e f l e1 f1 l1 ∧ Chain _r2 e1 f1 l1 _e' _f' _l'
  | [], _, e, f, l, _, _, _, h => ⟨e, f, l, ⟨rfl, rfl, rfl⟩, h⟩
  | _ :: _, _, _, _, _, _, _, _, ⟨h1, h2, h3, h⟩ =>
    let ⟨e1, f1, l1, h4, h5⟩ := Chain.split h
    ⟨e1, f1, l1, ⟨h1, h2, h3, h4⟩, h5⟩
theorem Chain.snoc : ∀ {rs : List Rec} {_r : Rec} {_e _f _l}, Chain rs _e _f _l _r.env _r.f _r.l → Chain (rs ++ [_r]) _e _f _l _r.env' _r.f' _r.l'
  | [], _, _, _, _, ⟨h1, h2, h3⟩ => ⟨h1.symm, h2.symm, h3.symm, rfl, rfl, rfl⟩
  | _ :: _, _, _, _, _, ⟨h1, h2, h3, h⟩ => ⟨h1, h2, h3, Chain.snoc h⟩
theorem Chain.hist {S : Sym} {c : Cx} {φ : Mp} {X : Nat → Prop} {D : Nat → Bool} {val : Nat → Value} : ∀ {rs : List Rec} {e f l e' f' l'} {a0 : Act}, Chain rs e f l e' f' l' → (∀ r ∈ rs, RecOK S c r) → RSt S φ c X e f l a0 →
    (∀ r ∈ rs, D r.d.i = true → r.R φ (val r.d.i)) → (∀ t, X t → ∀ r ∈ rs, r.d.o.dst = some t → D r.d.i = true) → RSt S φ c X e' f' l' (runD D val (rs.map (·.d)) a0)
  | [], e, f, l, e', f', l', a0, ⟨h1, h2, h3⟩, _, st, _, _ => by subst h1 h2 h3; exact st
  | r :: rs, e, f, l, e', f', l', a0, ⟨h1, h2, h3, h⟩, hok, st, hv, hX => by
    subst h1 h2 h3
    show RSt S φ c X e' f' l' (runD D val (rs.map (·.d)) (bif D r.d.i then a0.put r.d.o.dst (val r.d.i) else a0))
    refine Chain.hist h (fun x hx => hok x (List.mem_cons_of_mem _ hx)) ?_ (fun x hx => hv x (List.mem_cons_of_mem _ hx)) fun t ht x hx => hX t ht x (List.mem_cons_of_mem _ hx)
    cases hD : D r.d.i with
    | true => exact (hok r (by simp)).done X φ a0 _ st (hv r (by simp) hD)
    | false => exact (hok r (by simp)).skip X φ a0 st fun t ht e => by rw [hX t ht r (by simp) e] at hD; cases hD
end Eng

/- Drawn regions: what each operation that the engine has passed leaves behind. -/
namespace Eng
open Go

section
variable {S : Sym} {φ : Mp} {c : Cx} {f f' : FT} {l : List V} {env : Env} {a : Act} {v : V} {X : Nat → Prop}

theorem RSt.congr {a' : Act} (r : RSt S φ c X env f l a) (h : ∀ t, X t → slotV a' t = slotV a t) (hs : a'.tmps.size = a.tmps.size) : RSt S φ c X env f l a' :=
  ⟨fun t hX ht hk v hv => by rw [h t hX]; exact r.fr t hX ht hk v hv, fun t e hX he => by rw [h t hX]; exact r.env t e hX he, by rw [hs]; exact r.sz, r.dp⟩
theorem RSt.sub {Y : Nat → Prop} (r : RSt S φ c X env f l a) (h : ∀ t, Y t → X t) : RSt S φ c Y env f l a :=
  ⟨fun t hY ht hk v hv => r.fr t (h t hY) ht hk v hv, fun t e hY he => r.env t e (h t hY) he, r.sz, r.dp⟩
theorem RSt.pushN (r : RSt S φ c X env f l a) {d : Nat} (hX : ¬ X d) {p : Bool} {ty : Nat} : RSt S φ c X (⟨d, .loc l.length, p, ty⟩ :: env) f (v :: l) a := by
  refine ⟨fun t hXt ht hkt u hu => r.fr t hXt ht hkt u hu, fun t e hXt he => ?_, r.sz, r.dp⟩
  rw [lookE_cons, if_neg (show ¬ d = t from fun e => hX (e ▸ hXt))] at he
  exact ⟨(r.env t e hXt he).1.push, (r.env t e hXt he).2⟩
theorem kill_look {d t : Nat} {e : Ent} (h : lookE (killE d env) t = some e) : ∃ e0, lookE env t = some e0 ∧ ((e0.s.on d = true ∧ e = ⟨e0.t, .bad, false, 0⟩) ∨ (e0.s.on d = false ∧ e = e0)) := by
  rw [lookE_kill] at h
  cases hl : lookE env t with
  | none => rw [hl] at h; cases h
  | some e0 =>
    rw [hl] at h
    simp only [Option.map_some, Option.some.injEq] at h
    cases hon : e0.s.on d with
    | true => rw [hon] at h; exact ⟨e0, rfl, .inl ⟨hon, h.symm⟩⟩
    | false => rw [hon] at h; exact ⟨e0, rfl, .inr ⟨hon, h.symm⟩⟩
theorem RSt.pushGN (r : RSt S φ c X env f l a) {d : Nat} (hX : ¬ X d) {p : Bool} {ty : Nat} (hoth : ∀ t, t < c.n → t ≠ d → FT.at c.d t f' = FT.at c.d t f) :
    RSt S φ c X (⟨d, .loc l.length, p, ty⟩ :: killE d env) f' (v :: l) a := by
  refine ⟨fun t hXt ht hkt u hu => ?_, fun t e hXt he => ?_, r.sz, r.dp⟩
  · rw [hoth t ht (fun e => hX (e ▸ hXt))] at hu
    exact r.fr t hXt ht hkt u hu
  · rw [lookE_cons, if_neg (show ¬ d = t from fun e => hX (e ▸ hXt))] at he
    obtain ⟨e0, h1, ⟨h2, rfl⟩ | ⟨h2, rfl⟩⟩ := kill_look he
    · exact ⟨trivial, (fun h => by cases h), (r.env t _ hXt h1).2.2⟩
    · exact ⟨((r.env t _ hXt h1).1.ft hoth h2).push, (r.env t _ hXt h1).2⟩
theorem RSt.setGN (r : RSt S φ c X env f l a) {d : Nat} (hX : ¬ X d) {ty : Nat} (hoth : ∀ t, t < c.n → t ≠ d → FT.at c.d t f' = FT.at c.d t f) :
    RSt S φ c X (⟨d, .ft d, false, ty⟩ :: killE d env) f' l a := by
  refine ⟨fun t hXt ht hkt u hu => ?_, fun t e hXt he => ?_, r.sz, r.dp⟩
  · rw [hoth t ht (fun e => hX (e ▸ hXt))] at hu
    exact r.fr t hXt ht hkt u hu
  · rw [lookE_cons, if_neg (show ¬ d = t from fun e => hX (e ▸ hXt))] at he
    obtain ⟨e0, h1, ⟨h2, rfl⟩ | ⟨h2, rfl⟩⟩ := kill_look he
    · exact ⟨trivial, (fun h => by cases h), (r.env t _ hXt h1).2.2⟩
    · exact ⟨(r.env t _ hXt h1).1.ft hoth h2, (r.env t _ hXt h1).2⟩
theorem RSt.aliasN (r : RSt S φ c X env f l a) {d : Nat} (hX : ¬ X d) {s : Src} {p : Bool} {ty : Nat} : RSt S φ c X (⟨d, s, p, ty⟩ :: env) f l a := by
  refine ⟨r.fr, fun t e hXt he => ?_, r.sz, r.dp⟩
  rw [lookE_cons, if_neg (show ¬ d = t from fun e => hX (e ▸ hXt))] at he
  exact r.env t e hXt he

/-- How a result is laid down. -/
inductive DstR (c : Cx) (v : V) (f : FT) (l : List V) : Option Nat → FT → List V → Prop where
  | none : DstR c v f l none f l
  | loc (d : Nat) (h : d < c.n) (k : c.kept d = false) : DstR c v f l (some d) f (v :: l)
  | ft (d : Nat) (f' : FT) (h : d < c.n) (k : c.kept d = true) (h1 : FT.at c.d d f' = some v) (h2 : ∀ t, t < c.n → t ≠ d → FT.at c.d t f' = FT.at c.d t f) : DstR c v f l (some d) f' (v :: l)
theorem dst_cases {dst : Option Nat} {D : Dst} (hD : dstOf c dst = some D) (dp : c.n ≤ 4 ^ c.d) {k : FT → List V → Res} {outs : List (V × H)} (hr : D v f l k = some outs) :
    ∃ f' l', k f' l' = some outs ∧ l'.length = lenAfter l.length dst ∧ DstR c v f l dst f' l' := by
  cases dst with
  | none => cases hD; exact ⟨f, l, hr, rfl, .none⟩
  | some d =>
    unfold dstOf at hD
    obtain ⟨hd, hD⟩ := gd_eq.1 hD
    rw [natBlt_eq] at hd
    rcases bc_eq.1 hD with ⟨hk, hD⟩ | ⟨hk, hD⟩
    · cases hD
      exact ⟨f, v :: l, hr, rfl, .loc d hd hk⟩
    · obtain ⟨u, h1, hD⟩ := ob_eq.1 hD
      cases hD
      obtain ⟨f', h2, h3, h4⟩ := ft_set h1 dp hd hr
      exact ⟨f', v :: l, h2, rfl, .ft d f' hd hk h3 h4⟩
section
variable {dst : Option Nat} {l' : List V}
theorem DstR.done (h : DstR c v f l dst f' l') (r : RSt S φ c X env f l a) {w : Value} (hv : VR S φ v w) {p : Bool} (hp : p = true → IsP w) {ty : Nat} :
    RSt S φ c X (envAfter c env l.length dst p ty) f' l' (a.put dst w) := by
  cases h with
  | none => exact r
  | loc d hd hk => have := r.push hd hk hv hp (ty := ty); simpa [envAfter, hk] using this
  | ft d f' hd hk h1 h2 => have := r.pushG hd hv hp (ty := ty) h1 h2; simpa [envAfter, hk] using this
theorem DstR.skip (h : DstR c v f l dst f' l') (r : RSt S φ c X env f l a) (hX : ∀ t, X t → dst ≠ some t) {p : Bool} {ty : Nat} :
    RSt S φ c X (envAfter c env l.length dst p ty) f' l' a := by
  cases h with
  | none => exact r
  | loc d hd hk => have := r.pushN (v := v) (d := d) (fun h => hX d h rfl) (p := p) (ty := ty); simpa [envAfter, hk] using this
  | ft d f' hd hk h1 h2 => have := r.pushGN (v := v) (d := d) (fun h => hX d h rfl) (p := p) (ty := ty) h2; simpa [envAfter, hk] using this
theorem DstR.lt (h : DstR c v f l dst f' l') : ∀ t, dst = some t → t < c.n := by
  intro t ht
  cases h with
  | none => cases ht
  | loc d hd hk => cases ht; exact hd
  | ft d f' hd hk h1 h2 => cases ht; exact hd
theorem DstR.grow (h : DstR c v f l dst f' l') : ∃ m, l' = m ++ l := by
  cases h with
  | none => exact ⟨[], rfl⟩
  | loc d hd hk => exact ⟨[v], rfl⟩
  | ft d f' hd hk h1 h2 => exact ⟨[v], rfl⟩
end

/-- The value that a slot holds lies on the list. -/
def LF (x : DOp) (v : V) (env : Env) (l : List V) : Prop := ∀ t, x.o.dst = some t → ∃ e k, lookE env t = some e ∧ e.s = .loc k ∧ k < l.length ∧ l.reverse[k]? = some v
def EnvKeeps (dst : Option Nat) (env env' : Env) : Prop := ∀ t e k, lookE env t = some e → e.s = .loc k → dst ≠ some t → lookE env' t = some e
theorem after_keeps {dst : Option Nat} {p : Bool} {ty n : Nat} : EnvKeeps dst env (envAfter c env n dst p ty) := by
  intro t e k h1 h2 h3
  cases dst with
  | none => exact h1
  | some d =>
    have hne : d ≠ t := fun e => h3 (by rw [e])
    show lookE (⟨d, .loc n, p, ty⟩ :: Bool.casesOn (c.kept d) env (killE d env)) t = some e
    rw [lookE_cons, if_neg hne]
    cases c.kept d with
    | false => exact h1
    | true =>
      show lookE (killE d env) t = some e
      rw [lookE_kill, h1]
      simp [h2, Src.on]
theorem LF.keep {x : DOp} {v : V} {env' : Env} {l' : List V} {dst : Option Nat} (h : LF x v env l) (hk : EnvKeeps dst env env') (hg : ∃ m, l' = m ++ l) (hn : ∀ t, x.o.dst = some t → dst ≠ some t) : LF x v env' l' := by
  intro t ht
  obtain ⟨e, k, h1, h2, h3, h4⟩ := h t ht
  obtain ⟨m, rfl⟩ := hg
  refine ⟨e, k, hk t e k h1 h2 (hn t ht), h2, by simp; omega, ?_⟩
  rw [List.reverse_append, List.getElem?_append_left (by simpa using h3)]
  exact h4
theorem LF.new {x : DOp} {p : Bool} {ty : Nat} {l' : List V} (h : DstR c v f l x.o.dst f' l') : LF x v (envAfter c env l.length x.o.dst p ty) l' := by
  intro t ht
  rw [ht] at h ⊢
  refine ⟨⟨t, .loc l.length, p, ty⟩, l.length, ?_, rfl, ?_, ?_⟩
  · show lookE (⟨t, .loc l.length, p, ty⟩ :: _) t = _
    rw [lookE_cons, if_pos rfl]
  · cases h <;> simp
  · cases h <;> simp
theorem LF.ev {x : DOp} {v w : V} {t : Nat} {e : Ev} (h : LF x v env l) (ht : x.o.dst = some t) (he : opE c env l.length (.tmp t) = some e) (hw : e f l = some w) : w = v := by
  obtain ⟨en, k, h1, h2, h3, h4⟩ := h t ht
  obtain ⟨en', h5, h6⟩ := ob_eq.1 he
  simp only [srcOf, h1] at h5
  cases h5
  rw [h2] at h6
  obtain ⟨_, h6⟩ := gd_eq.1 h6
  rw [eAt_at h6] at hw
  rw [List.getElem?_reverse h3] at h4
  have : l[l.length - 1 - k]? = some w := hw
  rw [h4] at this
  cases this; rfl
end

mutual
theorem vEq_eq : ∀ {v w : V}, vEq v w = true → v = w
  | .bool a, w, h => by cases w <;> simp [vEq] at h; cases a <;> simp_all
  | .int j a, w, h => by
    cases w <;> simp [vEq] at h
    rename_i k b
    cases h1 : kEq j k with
    | false => rw [h1] at h; simp at h
    | true => rw [h1] at h; have := kEq_eq h1; subst this; rw [iEq_eq] at h; simp at h; rw [h]
  | .str la a, w, h => by
    cases w <;> simp [vEq] at h
    rename_i lb b
    unfold sEq at h
    cases h1 : Nat.beq la lb with
    | false => rw [h1] at h; simp at h
    | true => rw [h1] at h; rw [natBeq_eq] at h1; have h : Nat.beq a b = true := h; rw [natBeq_eq] at h; rw [h1, h]
  | .ptr a o, w, h => by
    cases w <;> simp [vEq] at h
    rename_i b p
    cases h1 : Nat.beq a b with
    | false => rw [h1] at h; simp at h
    | true => rw [h1] at h; rw [natBeq_eq] at h1; have h : Nat.beq o p = true := h; rw [natBeq_eq] at h; rw [h1, h]
  | .slc a o n c e, w, h => by
    cases w <;> simp [vEq] at h
    rename_i b p m d g
    cases h1 : Nat.beq a b with
    | false => rw [h1] at h; simp at h
    | true =>
      rw [h1] at h
      cases h2 : Nat.beq o p with
      | false => rw [h2] at h; simp at h
      | true =>
        rw [h2] at h
        cases h3 : Nat.beq n m with
        | false => rw [h3] at h; simp at h
        | true =>
          rw [h3] at h
          cases h4 : Nat.beq c d with
          | false => rw [h4] at h; simp at h
          | true =>
            rw [h4] at h
            rw [natBeq_eq] at h1 h2 h3 h4
            subst h1 h2 h3 h4
            cases e <;> cases g <;> simp_all
  | .agg a, w, h => by cases w <;> simp [vEq] at h; rw [vEqL_eq h]
  | .nilp, w, h => by cases w <;> simp [vEq] at h; rfl
  | .nils, w, h => by cases w <;> simp [vEq] at h; rfl
  | .nilm, w, h => by cases w <;> simp [vEq] at h; rfl
  | .map a, w, h => by
    cases w <;> simp [vEq] at h
    rw [h]
  | .nilf, w, h => by cases w <;> simp [vEq] at h; rfl
  | .fn f a b, w, h => by
    cases w with
    | fn g c d =>
      cases f <;> cases g <;> simp [vEq] at h
      rename_i f g
      cases h1 : Nat.beq f g with
      | false => rw [h1] at h; simp at h
      | true =>
        rw [h1] at h
        cases h2 : vEqL a c with
        | false => rw [h2] at h; simp at h
        | true =>
          rw [h2] at h
          rw [natBeq_eq] at h1
          rw [h1, vEqL_eq h2, vEqL_eq h]
    | _ => cases f <;> simp [vEq] at h
  | .nili, w, h => by cases w <;> simp [vEq] at h; rfl
  | .ifc t a, w, h => by
    cases w <;> simp [vEq] at h
    rename_i u b
    cases h1 : Nat.beq t u with
    | false => rw [h1] at h; simp at h
    | true => rw [h1] at h; rw [natBeq_eq] at h1; rw [h1, vEq_eq h]
  | .tup a, w, h => by cases w <;> simp [vEq] at h; rw [vEqL_eq h]
  | .capv _ _ _ _, w, h => by cases w <;> simp [vEq] at h
  | .sym i d, w, h => by
    cases w <;> simp [vEq] at h
    rename_i j e
    cases h1 : Nat.beq i j with
    | false => rw [h1] at h; simp at h
    | true => rw [h1] at h; rw [natBeq_eq] at h1; have h : iEq d e = true := h; rw [iEq_eq] at h; simp at h; rw [h1, h]
  | .dec i d, w, h => by
    cases w <;> simp [vEq] at h
    rename_i j e
    cases h1 : Nat.beq i j with
    | false => rw [h1] at h; simp at h
    | true => rw [h1] at h; rw [natBeq_eq] at h1; have h : iEq d e = true := h; rw [iEq_eq] at h; simp at h; rw [h1, h]
  | .any, w, h => by cases w <;> simp [vEq] at h
theorem vEqL_eq : ∀ {v w : List V}, vEqL v w = true → v = w
  | [], [], _ => rfl
  | [], _ :: _, h => by simp [vEqL] at h
  | _ :: _, [], h => by simp [vEqL] at h
  | x :: l, y :: m, h => by
    simp only [vEqL] at h
    cases h1 : vEq x y with
    | false => rw [h1] at h; cases h
    | true => rw [h1] at h; rw [vEq_eq h1, vEqL_eq h]
end
end Eng

/- Drawn regions: the engine passes one operation that does not turn the heap. -/
namespace Eng
open Go

def Lk (all : List Oper) (d : DOp) (t : Nat) : Prop := t ∈ looksOf all d.o
def wantD (all : List Oper) (d : DOp) (a : Act) : Bool := Region.wanted d.o (yielded all.toArray a.tmps)
theorem mem_tmps {t : Nat} (l : List Operand) (h : Operand.tmp t ∈ l) : t ∈ tmpsOf l := by
  induction l with
  | nil => cases h
  | cons x l ih =>
    rcases List.mem_cons.1 h with e | h1
    · subst e; exact List.mem_cons_self
    · cases x <;> first | exact List.mem_cons_of_mem _ (ih h1) | exact ih h1
theorem lk_op {all : List Oper} {d : DOp} {t : Nat} (h : Operand.tmp t ∈ d.o.op.operands.toList) : Lk all d t := List.mem_append.2 (.inr (mem_tmps _ h))
theorem lk_guard {all : List Oper} {d : DOp} {j : Nat} {x : Bool} {p : Oper} {t : Nat} (hg : d.o.guard = some (j, x)) (hj : all[j]? = some p) (hp : p.dst = some t) : Lk all d t := by
  unfold Lk looksOf
  refine List.mem_append.2 (.inl ?_)
  rw [hg]
  show t ∈ (match nthO all j with
      | none => []
      | some p => match p.dst with
        | none => []
        | some d => [d] : List Nat)
  rw [nthO_eq, hj]
  simp [hp]

def HG (S : Sym) (c : Cx) (all : List Oper) (φr : Mp) (r : Rec) : Prop := ∀ φ a, Gro φr φ → GOK c.sy.ng φ → RSt S φ c (Lk all r.d) r.env r.f r.l a → wantD all r.d a = false → r.R φ undef
def HY (P : Program) (S : Sym) (c : Cx) (all : List Oper) (φr : Mp) (r : Rec) (t : T Eng.Obj) : Prop :=
  ∀ φ a W n, Gro φr φ → GOK c.sy.ng φ → RD S c.ty φ ⟨n, t⟩ W.heap → RSt S φ c (Lk all r.d) r.env r.f r.l a → wantD all r.d a = true → ∃ w, (execOp a.eval r.d.o).run P W = .ok (.value w) W ∧ r.R φ w
def SY (P : Program) (S : Sym) (c : Cx) (all : List Oper) (φr : Mp) (r : Rec) : Prop :=
  ∀ φ a W, Gro φr φ → GOK c.sy.ng φ → RSt S φ c (Lk all r.d) r.env r.f r.l a → wantD all r.d a = true → ∃ w, (execOp a.eval r.d.o).run P W = .ok (.value w) W ∧ r.R φ w
def AK (S : Sym) (c : Cx) (o : Oper) (a : Act) (L : Loc) (o' : Go.Obj) : Prop :=
  ∀ φ env n f l al ob mk b, cOp c env n o = some (.al al) → OpsR S φ c env n f l a o.op.operands.toList → al f l = some (ob, mk) → φ b = some L → OAt S c.ty φ ob L o'
def AY (P : Program) (S : Sym) (c : Cx) (all : List Oper) (φr : Mp) (r : Rec) (id : Nat) : Prop :=
  ∀ φ a W, Gro φr φ → GOK c.sy.ng φ → RSt S φ c (Lk all r.d) r.env r.f r.l a → wantD all r.d a = true ∧
    ∃ w o' L k, (execOp a.eval r.d.o).run P W = .ok (.value w) { W with heap := W.heap.push o', drawn := k } ∧ L.c = W.heap.size ∧ (∀ φ', Gro φ φ' → φ' id = some L → r.R φ' w) ∧ AK S c r.d.o a L o'

/-- What the engine found of a guarded reading. -/
def EvalR (g : Option (Ev × Bool)) (rr : Rd) (f : FT) (l : List V) (h : H) (v : V) : Prop := match g with
  | none => rr f l h = some v
  | some (x, y) => ∃ gv b, x f l = some gv ∧ wantedV y gv = some b ∧ (b = true → rr f l h = some v) ∧ (b = false → v = undefV)

section
variable {P : Program} {S : Sym} {c : Cx} {K : Eng.K} {φ0 φ : Mp} {h : H} {W : World} {outs : List (V × H)} {f : FT} {l : List V} {env : Env} {a : Act} {L : Ls} {rest fin : RCode} {all : List Oper} {v : V}

theorem guarded_rd {g : Option (Ev × Bool)} {dst : Dst} {rr : Rd} (hr : guarded g dst (sR rr dst rest) rest K L f l h = some outs) : ∃ v, EvalR g rr f l h v ∧ dst v f l (fun f l => rest K L f l h) = some outs := by
  cases g with
  | none =>
    obtain ⟨v, h1, hr⟩ := ob_eq.1 hr
    exact ⟨v, h1, hr⟩
  | some p =>
    obtain ⟨x, y⟩ := p
    obtain ⟨gv, h1, hr⟩ := ob_eq.1 hr
    obtain ⟨b, h2, hr⟩ := ob_eq.1 hr
    cases b with
    | false => exact ⟨undefV, ⟨gv, false, h1, h2, (fun h => by cases h), fun _ => rfl⟩, hr⟩
    | true =>
      obtain ⟨v, h3, hr⟩ := ob_eq.1 hr
      exact ⟨v, ⟨gv, true, h1, h2, (fun _ => h3), fun h => by cases h⟩, hr⟩
theorem guard_none {o : Oper} {n : Nat} (h : guardOf c env n all o.guard = some none) : o.guard = none := by
  cases hg : o.guard with
  | none => rfl
  | some p =>
    rw [hg] at h
    obtain ⟨j, x⟩ := p
    obtain ⟨p, _, h⟩ := ob_eq.1 h
    obtain ⟨d, _, h⟩ := ob_eq.1 h
    obtain ⟨e, _, h⟩ := ob_eq.1 h
    cases h
theorem guard_some {o : Oper} {n : Nat} {p : Ev × Bool} (h : guardOf c env n all o.guard = some (some p)) : ∃ j x, o.guard = some (j, x) := by
  cases hg : o.guard with
  | none => rw [hg] at h; cases h
  | some q => exact ⟨q.1, q.2, rfl⟩
theorem guard_want {d : DOp} (hG : GOK c.sy.ng φ) (st : RSt S φ c (Lk all d) env f l a) {e : Ev} {y : Bool} (h : guardOf c env l.length all d.o.guard = some (some (e, y))) {gv : V} {b : Bool} (hv : e f l = some gv) (hw : wantedV y gv = some b) :
    wantD all d a = b := by
  obtain ⟨j, x, hg⟩ := guard_some h
  exact guard_run hG st hg h (fun p t hp ht => lk_guard hg hp ht) hv hw
theorem evalR_yes {d : DOp} {g : Option (Ev × Bool)} {rr : Rd} (hG : GOK c.sy.ng φ) (st : RSt S φ c (Lk all d) env f l a) (hg : guardOf c env l.length all d.o.guard = some g) (he : EvalR g rr f l h v) (hw : wantD all d a = true) : rr f l h = some v := by
  cases g with
  | none => exact he
  | some p =>
    obtain ⟨x, y⟩ := p
    obtain ⟨gv, b, h1, h2, h3, h4⟩ := he
    rw [guard_want hG st hg h1 h2] at hw
    exact h3 hw
theorem evalR_no {d : DOp} {g : Option (Ev × Bool)} {rr : Rd} (hG : GOK c.sy.ng φ) (st : RSt S φ c (Lk all d) env f l a) (hg : guardOf c env l.length all d.o.guard = some g) (he : EvalR g rr f l h v) (hw : wantD all d a = false) : v = undefV := by
  cases g with
  | none =>
    have := guard_none hg
    rw [show wantD all d a = true from wanted_none this] at hw
    cases hw
  | some p =>
    obtain ⟨x, y⟩ := p
    obtain ⟨gv, b, h1, h2, h3, h4⟩ := he
    rw [guard_want hG st hg h1 h2] at hw
    exact h4 hw

theorem al_block {o : Oper} {al : Al} {n : Nat} {ob' : Eng.Obj} {mk : Nat → V} (hco : cOp c env n o = some (.al al)) (hr : al f l = some (ob', mk)) (b : Nat) : blockOf (mk b) = some b := by
  obtain ⟨dst, op, ty', pos, af, gu⟩ := o
  unfold cOp at hco
  cases op <;> simp only [cOpF] at hco
  case move x => exact absurd (k_move hco) (by simp [CO.k])
  case assign x => exact absurd (k_move hco) (by simp [CO.k])
  case pick p x y => exact absurd (k_pick hco) (by simp [CO.k])
  case alloc e =>
    obtain ⟨ti, _, hco⟩ := ob_eq.1 hco
    rw [fL_eq] at hco; cases hco
    obtain ⟨o', _, hr⟩ := ob_eq.1 hr
    cases hr; rfl
  case box e x =>
    obtain ⟨ex, _, hco⟩ := ob_eq.1 hco
    cases hco
    obtain ⟨v, _, hr⟩ := ob_eq.1 hr
    rcases bc_eq.1 hr with ⟨_, hr⟩ | ⟨_, hr⟩
    · obtain ⟨o', _, hr⟩ := ob_eq.1 hr
      cases hr; rfl
    · cases hr; rfl
  case build t ps => exact absurd (k_build hco) (by simp [CO.k])
  case buildSlice t len ps =>
    obtain ⟨ti, _, hco⟩ := ob_eq.1 hco
    split at hco
    · obtain ⟨ei, _, hco⟩ := ob_eq.1 hco
      obtain ⟨_, hco⟩ := gd_eq.1 hco
      obtain ⟨p, _, hco⟩ := ob_eq.1 hco
      rw [fL_eq] at hco; cases hco
      obtain ⟨cs, _, hr⟩ := ob_eq.1 hr
      obtain ⟨o', _, hr⟩ := ob_eq.1 hr
      cases hr; rfl
    · cases hco
  case load t x => exact absurd (k_load hco) (by simp [CO.k])
  case store t x y => exact absurd (k_store hco) (by simp [CO.k])
  case nilCheck x => exact absurd (k_nilCheck hco) (by simp [CO.k])
  case binOp op t x y yt => exact absurd (k_binOp hco) (by simp [CO.k])
  case unOp op t x => exact absurd (k_unOp hco) (by simp [CO.k])
  case convert s d x =>
    obtain ⟨si, di, e, ei, ex, _, _, _, _, _, _, _, rfl⟩ := cConvert_al hco
    obtain ⟨len, val, _, hr⟩ := oStr hr
    obtain ⟨_, hr⟩ := gd_eq.1 hr
    obtain ⟨cs, _, hr⟩ := ob_eq.1 hr
    rw [T.fc_eq] at hr
    cases hr; rfl
  case makeInterface t x => exact absurd (k_makeInterface hco) (by simp [CO.k])
  case makeFunc fn xs ys => exact absurd (k_makeFunc hco) (by simp [CO.k])
  case makeMap t q => cases q <;> cases hco; cases hr; rfl
  case makeSlice t x y =>
    obtain ⟨ti, _, hco⟩ := ob_eq.1 hco
    obtain ⟨e1, _, hco⟩ := ob_eq.1 hco
    obtain ⟨e2, _, hco⟩ := ob_eq.1 hco
    split at hco
    · obtain ⟨ei, _, hco⟩ := ob_eq.1 hco
      rw [fL_eq] at hco; cases hco
      obtain ⟨_, p, _, hr⟩ := oNat hr
      obtain ⟨_, q, _, hr⟩ := oNat hr
      obtain ⟨_, hr⟩ := gd_eq.1 hr
      obtain ⟨_, hr⟩ := gd_eq.1 hr
      obtain ⟨o', _, hr⟩ := ob_eq.1 hr
      cases hr; rfl
    · cases hco
  case slice t x lo hi mx => exact absurd (k_slice hco) (by simp [CO.k])
  case fieldAddr t x k => exact absurd (k_fieldAddr hco) (by simp [CO.k])
  case field t x k => exact absurd (k_field hco) (by simp [CO.k])
  case indexAddr t x y => exact absurd (k_indexAddr hco) (by simp [CO.k])
  case index t x y => exact absurd (k_index hco) (by simp [CO.k])
  case lookup t x y ok => exact absurd (k_lookup hco) (by simp [CO.k])
  case mapUpdate t m k x => exact absurd (k_mapUpdate hco) (by simp [CO.k])
  case insert t m k x => exact absurd (k_mapUpdate hco) (by simp [CO.k])
  case range t x =>
    obtain ⟨ti, _, hco⟩ := ob_eq.1 hco
    obtain ⟨e1, _, hco⟩ := ob_eq.1 hco
    split at hco
    · cases hco
      obtain ⟨len, val, _, hr⟩ := oStr hr
      cases hr; rfl
    · cases hco
    · cases hco
  case next x s => exact absurd (k_next hco) (by cases s <;> simp [CO.k])
  case entry x => exact absurd (k_entry hco) (by simp [CO.k])
  case typeAssert x u t ok => exact absurd (k_typeAssert hco) (by simp [CO.k])
  case extract x i => exact absurd (k_extract hco) (by simp [CO.k])
  case call p => exact absurd (k_call hco) (by simp [CO.k])
  all_goals cases hco

/-- What the engine's pass over one such operation leaves. -/
structure AdvR (P : Program) (S : Sym) (c : Cx) (K : Eng.K) (L : Ls) (all : List Oper) (fin : RCode) (φ : Mp) (d : DOp) (rem : List DOp) (env : Env) (f : FT) (l : List V) (h : H) (pend reads : List DOp) (outs : List (V × H))
    (r : Rec) (pend' reads' : List DOp) (h' : H) : Prop where
  ed : r.d = d
  eenv : r.env = env
  ef : r.f = f
  el : r.l = l
  ok : RecOK S c r
  keeps : EnvKeeps d.o.dst env r.env'
  grow : ∃ m, r.l' = m ++ l
  free1 : freeOf all d.o.dst pend = true
  free2 : freeOf all d.o.dst reads = true
  next : ∃ code', dOps c all fin rem r.env' r.l'.length pend' reads' = some code' ∧ code' K L r.f' r.l' h' = some outs
  hg : HG S c all φ r
  kind : (SY P S c all φ r ∧ h' = h ∧ pend' = pend ∧ reads' = reads) ∨
    (HY P S c all φ r h.t ∧ (∃ v, r.R = (fun φ w => VR S φ v w) ∧ LF d v r.env' r.l') ∧ h' = h ∧ pend' = pend ∧ reads' = d :: reads) ∨
    (AY P S c all φ r h.next ∧ (∃ v, blockOf v = some h.next ∧ LF d v r.env' r.l') ∧ h' = ⟨h.next + 1, h.t⟩ ∧ pend' = d :: pend ∧ reads' = reads)

theorem dstR_ok {d : DOp} {f' : FT} {l' : List V} {p : Bool} {ty : Nat} (h : DstR c v f l d.o.dst f' l') {R : Mp → Value → Prop} (hm : ∀ φ φ' w, Gro φ φ' → R φ w → R φ' w) (hR : ∀ φ w, R φ w → VR S φ v w ∧ (p = true → IsP w)) :
    RecOK S c ⟨d, env, f, l, envAfter c env l.length d.o.dst p ty, f', l', R⟩ :=
  ⟨hm, fun _ φ _ w st hr => h.done st (hR φ w hr).1 (hR φ w hr).2, fun _ _ _ st hX => h.skip st hX, h.lt⟩

theorem advance (hC : CtxA P S c K φ0) (dp : c.n ≤ 4 ^ c.d) (hRD : RD S c.ty φ h W.heap) {d : DOp} {rem pend reads : List DOp} {code : RCode} (hd : isEf d = false)
    (hc : dOps c all fin (d :: rem) env l.length pend reads = some code) (hr : code K L f l h = some outs) :
    ∃ r pend' reads' h', AdvR P S c K L all fin φ d rem env f l h pend reads outs r pend' reads' h' := by
  have hc : gd (freeOf all d.o.dst pend) (gd (freeOf all d.o.dst reads) (match aliasOf c env d.o with
    | some (e, chk) => ob (dOps c all fin rem (e :: env) l.length pend reads) fun rest => Bool.casesOn chk (some rest) (ob (evSrc c l.length e.s) fun x => some (sP x rest))
    | none => match keptMove c d.o with
      | some (t, x) => ob (opE c env l.length x) fun x => ob (updOf c.d t) fun u => gd (Nat.blt t c.n) (ob (dOps c all fin rem (⟨t, .ft t, false, 0⟩ :: killE t env) l.length pend reads) fun rest => some (sG x u rest))
      | none =>
        match d.cl with
        | .rd _ => ob (cOp c env l.length d.o) fun co => match co with
          | .rd heap r => ob (dstOf c d.o.dst) fun dst => ob (guardOf c env l.length all d.o.guard) fun g => fN (lenAfter l.length d.o.dst) fun m =>
            ob (dOps c all fin rem (envAfter c env l.length d.o.dst false d.o.type) m pend (Bool.casesOn heap reads (d :: reads))) fun rest => some (guarded g dst (sR r dst rest) rest)
          | _ => none
        | .al => ob (cOp c env l.length d.o) fun co => match co with
          | .al a => match d.o.guard with
            | some _ => none
            | none => ob (dstOf c d.o.dst) fun dst => fN (lenAfter l.length d.o.dst) fun m =>
              ob (dOps c all fin rem (envAfter c env l.length d.o.dst (isNew d.o) d.o.type) m (d :: pend) reads) fun rest => some (sRes a dst rest)
          | _ => none
        | .ef => ob (cOp c env l.length d.o) fun co => ob (dstOf c d.o.dst) fun dst => ob (guardOf c env l.length all d.o.guard) fun g => fN (lenAfter l.length d.o.dst) fun m => match envAfter c env l.length d.o.dst false d.o.type with
          | env' => ob (dOps c all fin rem env' m (selD (fun x => notB (bitN d.b x.i)) pend) (selD (fun x => notB (bitN d.b x.i)) reads)) fun rest =>
            ob (againAll c all env' m (selD (fun x => notB (bitN d.b x.i)) reads) rest) fun rest =>
            ob (match co with
              | .ef e => some (sE e dst rest)
              | .mu k => some (sM k dst rest)
              | .al a => some (sA a dst rest)
              | _ => none) fun yes => layAll c env l.length (selD (fun x => bitN d.b x.i) pend) (guarded g dst yes rest))) = some code := hc
  obtain ⟨hf1, hc⟩ := gd_eq.1 hc
  obtain ⟨hf2, hc⟩ := gd_eq.1 hc
  split at hc
  · rename_i e chk hal
    obtain ⟨hg, hdst, hlt, hkp⟩ := alias_dst hal
    obtain ⟨rst, h1, hc⟩ := ob_eq.1 hc
    have key : (chk = true → ∃ x b k, evSrc c l.length e.s = some x ∧ x f l = some (.ptr b k)) ∧ rst K L f l h = some outs := by
      rcases bc_eq.1 hc with ⟨hk, hc⟩ | ⟨hk, hc⟩
      · cases hc; exact ⟨(fun h => by rw [hk] at h; cases h), hr⟩
      · obtain ⟨x, h2, hc⟩ := ob_eq.1 hc
        cases hc
        obtain ⟨b, k, h3, hr⟩ := oPtr hr
        exact ⟨fun _ => ⟨x, b, k, h2, h3⟩, hr⟩
    refine ⟨⟨d, env, f, l, e :: env, f, l, fun φ w => SrcR S φ c f l e.s w ∧ (e.p = true → IsP w)⟩, pend, reads, h, ⟨rfl, rfl, rfl, rfl, ⟨fun φ φ' w hx hr => ⟨hr.1.mono hx, hr.2⟩, fun X φ a w st hr => ?_, fun X φ a st hX => ?_, fun t ht => ?_⟩, ?_, ⟨[], rfl⟩, hf1, hf2, ⟨rst, h1, key.2⟩, ?_, .inl ⟨?_, rfl, rfl, rfl⟩⟩⟩
    · show RSt S φ c X (e :: env) f l (a.put d.o.dst w)
      rw [hdst]
      exact st.alias hlt hkp hr.1 hr.2
    · exact st.aliasN (d := e.t) (s := e.s) (p := e.p) (ty := e.ty) fun h => hX e.t h hdst
    · have ht : d.o.dst = some t := ht
      rw [hdst] at ht; cases ht; exact hlt
    · intro t e' k h2 h3 h4
      rw [lookE_cons, if_neg (fun h => h4 (by rw [hdst, h]))]; exact h2
    · intro φ a hx hG' st hw
      rw [show wantD all d a = true from wanted_none hg] at hw
      cases hw
    · intro φ a W hx hG' st hw
      exact alias_run hC.ty hG' st (fun t ht => lk_op ht) hal key.1
  · split at hc
    · rename_i t x hkm
      obtain ⟨ex, h1, hc⟩ := ob_eq.1 hc
      obtain ⟨u, h2, hc⟩ := ob_eq.1 hc
      obtain ⟨h3, hc⟩ := gd_eq.1 hc
      obtain ⟨rst, h4, hc⟩ := ob_eq.1 hc
      rw [natBlt_eq] at h3
      cases hc
      obtain ⟨v, h5, hr⟩ := ob_eq.1 hr
      obtain ⟨f', h7, h8, h9⟩ := ft_set h2 dp h3 hr
      have hkm' : d.o.guard = none ∧ d.o.dst = some t ∧ (d.o.op = .move x ∨ d.o.op = .assign x) := by
        unfold keptMove at hkm
        cases hg : d.o.guard with
        | some g => rw [hg] at hkm; cases hkm
        | none =>
          rw [hg] at hkm
          cases hds : d.o.dst with
          | none => rw [hds] at hkm; cases hkm
          | some t' =>
            rw [hds] at hkm
            obtain ⟨_, hkm⟩ := gd_eq.1 hkm
            cases hop : d.o.op <;> rw [hop] at hkm <;> try (cases hkm; done)
            · cases hkm; exact ⟨rfl, rfl, .inl rfl⟩
            · cases hkm; exact ⟨rfl, rfl, .inr rfl⟩
      obtain ⟨hg, hdst, hop⟩ := hkm'
      refine ⟨⟨d, env, f, l, ⟨t, .ft t, false, 0⟩ :: killE t env, f', l, fun φ w => VR S φ v w⟩, pend, reads, h, ⟨rfl, rfl, rfl, rfl, ⟨fun φ φ' w hx hr => VR.mono hx hr, fun X φ a w st hr => ?_, fun X φ a st hX => ?_, fun t' ht => ?_⟩, ?_, ⟨[], rfl⟩, hf1, hf2, ⟨rst, h4, h7⟩, ?_, .inl ⟨?_, rfl, rfl, rfl⟩⟩⟩
      · show RSt S φ c X (⟨t, .ft t, false, 0⟩ :: killE t env) f' l (a.put d.o.dst w)
        rw [hdst]
        exact st.setG h3 hr h8 h9
      · exact st.setGN (fun h => hX t h hdst) h9
      · have ht : d.o.dst = some t' := ht
        rw [hdst] at ht; cases ht; exact h3
      · intro t' e' k g2 g3 g4
        rw [lookE_cons, if_neg (fun h => g4 (by rw [hdst]; exact congrArg some h)), lookE_kill, g2]
        simp [g3, Src.on]
      · intro φ a hx hG' st hw
        rw [show wantD all d a = true from wanted_none hg] at hw
        cases hw
      · intro φ a W hx hG' st hw
        have hmem : x ∈ d.o.op.operands.toList := by rcases hop with e | e <;> simp [e, Op.operands]
        have hv : VR S φ v (a.eval x) := st.ops hG' d.o.op.operands.toList (fun t ht => lk_op ht) x hmem ex h1 v h5
        exact ⟨a.eval x, (keptMove_run (P := P) (W := W) (a := a) hkm).2.2, hv⟩
    · split at hc
      · obtain ⟨co, h1, hc⟩ := ob_eq.1 hc
        split at hc
        · rename_i heap rr
          obtain ⟨D, h2, hc⟩ := ob_eq.1 hc
          obtain ⟨g, h3, hc⟩ := ob_eq.1 hc
          rw [fN_eq] at hc
          obtain ⟨rst, h4, hc⟩ := ob_eq.1 hc
          cases hc
          obtain ⟨v, h5, hr⟩ := guarded_rd hr
          obtain ⟨f', l', h6, h7, h8⟩ := dst_cases h2 dp hr
          have hno : HG S c all φ ⟨d, env, f, l, envAfter c env l.length d.o.dst false d.o.type, f', l', fun φ w => VR S φ v w⟩ := by
            intro φ a hx hG' st hw
            have := evalR_no hG' st h3 h5 hw
            subst this
            exact undef_vr
          have hok : RecOK S c ⟨d, env, f, l, envAfter c env l.length d.o.dst false d.o.type, f', l', fun φ w => VR S φ v w⟩ :=
            dstR_ok h8 (fun φ φ' w hx hr => VR.mono hx hr) fun φ w hr => ⟨hr, fun h => by cases h⟩
          cases heap with
          | false =>
            refine ⟨⟨d, env, f, l, envAfter c env l.length d.o.dst false d.o.type, f', l', fun φ w => VR S φ v w⟩, pend, reads, h, ⟨rfl, rfl, rfl, rfl, hok, after_keeps, h8.grow, hf1, hf2, ⟨rst, by rw [h7]; exact h4, h6⟩, hno, .inl ⟨?_, rfl, rfl, rfl⟩⟩⟩
            intro φ' a W' hx hG' st hw
            exact rd_sound (b := false) (φ0 := φ) (W0 := W) ⟨hC.ty, hC.sy, hRD, hx, fun h => by cases h⟩ (st.ops hG' d.o.op.operands.toList fun t ht => lk_op ht) h1 (evalR_yes hG' st h3 h5 hw)
          | true =>
            refine ⟨⟨d, env, f, l, envAfter c env l.length d.o.dst false d.o.type, f', l', fun φ w => VR S φ v w⟩, pend, d :: reads, h, ⟨rfl, rfl, rfl, rfl, hok, after_keeps, h8.grow, hf1, hf2, ⟨rst, by rw [h7]; exact h4, h6⟩, hno, .inr (.inl ⟨?_, ⟨v, rfl, LF.new h8⟩, rfl, rfl, rfl⟩)⟩⟩
            intro φ' a W' n hx hG' hRD' st hw
            exact rd_sound (b := true) (φ0 := φ') (W0 := W') (h := h) ⟨hC.ty, hC.sy, RD.next hRD', Gro.refl _, fun _ => ⟨rfl, rfl⟩⟩ (st.ops hG' d.o.op.operands.toList fun t ht => lk_op ht) h1 (evalR_yes hG' st h3 h5 hw)
        · cases hc
      · obtain ⟨co, h1, hc⟩ := ob_eq.1 hc
        split at hc
        · rename_i al
          split at hc
          · cases hc
          · rename_i hg
            obtain ⟨D, h2, hc⟩ := ob_eq.1 hc
            rw [fN_eq] at hc
            obtain ⟨rst, h4, hc⟩ := ob_eq.1 hc
            cases hc
            obtain ⟨p, h5, hr⟩ := ob_eq.1 hr
            obtain ⟨ob', mk⟩ := p
            have hr : (fN h.next fun n => fN (Nat.succ n) fun m => D (mk n) f l fun f l => rst K L f l ⟨m, h.t⟩) = some outs := hr
            rw [fN_eq, fN_eq] at hr
            obtain ⟨f', l', h6, h7, h8⟩ := dst_cases (k := fun f l => rst K L f l ⟨h.next + 1, h.t⟩) h2 dp hr
            refine ⟨⟨d, env, f, l, envAfter c env l.length d.o.dst (isNew d.o) d.o.type, f', l', fun φ w => VR S φ (mk h.next) w ∧ (isNew d.o = true → IsP w)⟩, d :: pend, reads, ⟨h.next + 1, h.t⟩, ⟨rfl, rfl, rfl, rfl,
              dstR_ok h8 (fun φ φ' w hx hr => ⟨VR.mono hx hr.1, hr.2⟩) fun φ w hr => hr, after_keeps, h8.grow, hf1, hf2, ⟨rst, by rw [h7]; exact h4, h6⟩, ?_, .inr (.inr ⟨?_, ⟨_, al_block h1 h5 _, LF.new h8⟩, rfl, rfl, rfl⟩)⟩⟩
            · intro φ a hx hG' st hw
              rw [show wantD all d a = true from wanted_none hg] at hw
              cases hw
            · intro φ' a W' hx hG' st
              refine ⟨wanted_none hg, ?_⟩
              have hO := st.ops hG' d.o.op.operands.toList (fun t ht => lk_op ht)
              obtain ⟨w, o', Lc, k, g1, g2, g3⟩ := al_sound (P := P) (W := W') hC.ty hO h1 h5
              refine ⟨w, o', Lc, k, g1, g2, fun φ2 hx2 hb => ?_, fun φ2 env n f l al ob mk b k1 k2 k3 k4 => (g3 φ2 env n f l al ob mk b k1 k2 k3 k4).1⟩
              have hO2 := (st.mono hx2).ops (hG'.mono hx2) d.o.op.operands.toList (fun t ht => lk_op ht)
              have g4 := (g3 φ2 env l.length f l al ob' mk h.next h1 hO2 h5 hb).2
              refine ⟨g4, fun hn => ?_⟩
              have := isNew_mk h1 hn h5
              subst this
              obtain ⟨L', _, e⟩ := VR.ptr g4
              exact ⟨_, e⟩
        · cases hc
      · rename_i hcl
        unfold isEf at hd
        rw [hcl] at hd
        cases hd
end
end Eng

/- Drawn regions: blocks that are kept back, and laid; readings that are made again. -/
namespace Eng
open Go

section
variable {all : List Oper} {ss s1 s2 : List DOp} {d x : DOp} {t : Nat}
/-- Who writes ahead of an operation what it names is ahead of it. -/
theorem SSOK.fore (hS : SSOK all ss) (e : ss = s1 ++ d :: s2) (hx : x ∈ s1) (ht : x.o.dst = some t) (hn : t ∈ namesOf all d.o) : d.b.testBit x.i = true := by
  obtain ⟨h1, h2⟩ := hS.topo s1 d s2 e
  rcases hS.named x (by rw [e]; simp [hx]) d (by rw [e]; simp) t ht hn with h | h | h
  · exact absurd h.symm (h2 x hx)
  · exact h
  · obtain ⟨u1, u2, rfl⟩ := List.append_of_mem hx
    obtain ⟨h3, _⟩ := hS.topo u1 x (u2 ++ d :: s2) (by rw [e]; simp)
    obtain ⟨y, hy, hyi⟩ := h3 d.i h
    exact absurd hyi (h2 y (by simp [hy]))
/-- Who writes behind an operation what it names waits for it. -/
theorem SSOK.aft (hS : SSOK all ss) (e : ss = s1 ++ d :: s2) (hx : x ∈ s2) (ht : x.o.dst = some t) (hn : t ∈ namesOf all d.o) : x.b.testBit d.i = true := by
  obtain ⟨h1, h2⟩ := hS.topo s1 d s2 e
  obtain ⟨u1, u2, rfl⟩ := List.append_of_mem hx
  obtain ⟨_, h4⟩ := hS.topo (s1 ++ d :: u1) x u2 (by rw [e]; simp)
  rcases hS.named x (by rw [e]; simp) d (by rw [e]; simp) t ht hn with h | h | h
  · exact absurd h (h4 d (by simp))
  · obtain ⟨y, hy, hyi⟩ := h1 x.i h
    exact absurd hyi (h4 y (by simp [hy]))
  · exact h
theorem SSOK.inj (hS : SSOK all ss) {x y : DOp} (hx : x ∈ ss) (hy : y ∈ ss) (h : x.i = y.i) : x = y := by
  obtain ⟨u1, u2, e⟩ := List.append_of_mem hx
  obtain ⟨_, h2⟩ := hS.topo u1 x u2 e
  rw [e] at hy
  rcases List.mem_append.1 hy with hy | hy
  · exact absurd h.symm (h2 y hy)
  · rcases List.mem_cons.1 hy with hy | hy
    · exact hy.symm
    · obtain ⟨v1, v2, rfl⟩ := List.append_of_mem hy
      obtain ⟨_, h4⟩ := hS.topo (u1 ++ x :: v1) y v2 (by rw [e]; simp)
      exact absurd h (h4 x (by simp))
theorem SSOK.apart (hS : SSOK all ss) (e : ss = s1 ++ d :: s2) : (∀ x ∈ s1, x.i ≠ d.i) ∧ ∀ x ∈ s2, x.i ≠ d.i := by
  refine ⟨(hS.topo s1 d s2 e).2, fun x hx => ?_⟩
  obtain ⟨u1, u2, rfl⟩ := List.append_of_mem hx
  obtain ⟨_, h4⟩ := hS.topo (s1 ++ d :: u1) x u2 (by rw [e]; simp)
  exact fun h => h4 d (by simp) h.symm
end

section
variable {S : Sym} {ty : Nat → Option TI} {φ φ0 : Mp} {h h0 : H} {W W0 : World}
/-- A block is made whose number was kept back. -/
theorem RH.exec (r : RH S ty φ h W.heap) {id : Nat} {L : Loc} {o' : Go.Obj} (hid : id < h.next) (hn : φ id = none) (hlv : ¬ Live h id) (hL : L.c = W.heap.size) : RH S ty (φ.add id L) h (W.heap.push o') := by
  have hx := Mp.ext_add (L := L) hn
  have lv : ∀ {b : Nat}, Live h b → b ≠ id := fun hl e => hlv (e ▸ hl)
  have ad : ∀ {b : Nat} {M : Loc}, b ≠ id → (φ.add id L) b = some M → φ b = some M := fun hne e => by unfold Mp.add at e; rwa [if_neg hne] at e
  refine ⟨fun b o e nd => ?_, fun b b' M M' lb lb' e e' hcc => r.inj b b' M M' lb lb' (ad (lv lb) e) (ad (lv lb') e') hcc, fun b M e => ?_, r.key, fun b f e => ?_⟩
  rotate_right
  · obtain ⟨M, e1, e2, e3⟩ := r.ro b f e
    have hlt := e2.lt
    exact ⟨M, hx _ _ e1, e2.mono hx (by rw [Array.getElem?_push, if_neg (by omega)]), fun ⟨x, N, lx, ex, hcc⟩ => e3 ⟨x, N, lx, ad (lv lx) ex, hcc⟩⟩
  · obtain ⟨M, p', e1, e2, e3⟩ := r.live b o e nd
    exact ⟨M, p', hx _ _ e1, by rw [Array.getElem?_push]; have := (r.dom _ _ e1).2; rw [if_neg (by omega)]; exact e2, e3.mono hx⟩
  · by_cases hb : b = id
    · subst hb; rw [Mp.add_self] at e; cases e; simp; omega
    · have := r.dom b M (ad hb e); simp; omega
theorem own_exec {id : Nat} {L : Loc} (hlv : ¬ Live h id) {c : Nat} (h1 : Own (φ.add id L) h c) : Own φ h c := by
  obtain ⟨b, M, lb, e, hc⟩ := h1
  have hne : b ≠ id := fun e => hlv (e ▸ lb)
  unfold Mp.add at e
  rw [if_neg hne] at e
  exact ⟨b, M, lb, e, hc⟩
theorem Fr.exec (fm : Fr φ0 h0 W0 φ h W) {id : Nat} {L : Loc} {o' : Go.Obj} {k : Nat} (hid : h0.next ≤ id) (hn : φ id = none) (hlv : ¬ Live h id) :
    Fr φ0 h0 W0 (φ.add id L) h { W with heap := W.heap.push o', drawn := k } := by
  refine ⟨fm.ext.trans (Mp.ext_add hn), fun b hb => ?_, fm.lv, fm.next, ?_, fm.tape, fm.os, fm.out, fun c hc n => ?_⟩
  · unfold Mp.add
    rw [if_neg (by omega)]
    exact fm.old b hb
  · show W0.heap.size ≤ (W.heap.push o').size
    have := fm.size; simp; omega
  · obtain ⟨e1, e2⟩ := fm.keep c hc n
    refine ⟨?_, fun h => e2 (own_exec hlv h)⟩
    show (W.heap.push o')[c]? = _
    have := fm.size
    rw [Array.getElem?_push, if_neg (by omega)]
    exact e1
/-- It is laid into the engine's heap. -/
theorem RH.lay (r : RH S ty φ h W.heap) {id : Nat} {L : Loc} {o : Eng.Obj} {o' : Go.Obj} (hid : id < h.next) (hL : φ id = some L) (hlv : ¬ Live h id) (ho : W.heap[L.c]? = some o') (hat : OAt S ty φ o L o') (hown : ¬ Own φ h L.c) (hro : ∀ b f M, S.ro b = some f → φ b = some M → M.c ≠ L.c) :
    RH S ty φ ⟨h.next, h.t.set id o⟩ W.heap := by
  have lv : ∀ {b : Nat}, Live ⟨h.next, h.t.set id o⟩ b → b = id ∨ Live h b := by
    rintro b ⟨p, e, nd⟩
    rw [T.get_set] at e
    by_cases hb : b = id
    · exact .inl hb
    · rw [if_neg hb] at e; exact .inr ⟨p, e, nd⟩
  refine ⟨fun b p e nd => ?_, fun b b' M M' lb lb' e e' hcc => ?_, r.dom, fun b p e => ?_, fun b f e => ?_⟩
  rotate_right
  · obtain ⟨M, e1, e2, e3⟩ := r.ro b f e
    refine ⟨M, e1, e2, fun ⟨x, N, lx, ex, hcc⟩ => ?_⟩
    rcases lv lx with h1 | h1
    · subst h1; rw [hL] at ex; cases ex; exact hro b f M e e1 hcc.symm
    · exact e3 ⟨x, N, h1, ex, hcc⟩
  · rw [T.get_set] at e
    by_cases hb : b = id
    · rw [if_pos hb] at e; cases e; subst hb; exact ⟨L, o', hL, ho, hat⟩
    · rw [if_neg hb] at e; exact r.live b p e nd
  · rcases lv lb with h1 | h1 <;> rcases lv lb' with h2 | h2
    · rw [h1, h2]
    · subst h1; rw [hL] at e; cases e; exact absurd ⟨b', M', h2, e', hcc.symm⟩ hown
    · subst h2; rw [hL] at e'; cases e'; exact absurd ⟨b, M, h1, e, hcc⟩ hown
    · exact r.inj b b' M M' h1 h2 e e' hcc
  · rw [T.get_set] at e
    by_cases hb : b = id
    · subst hb; exact hid
    · rw [if_neg hb] at e; exact r.key b p e
theorem own_lay {id : Nat} {o : Eng.Obj} {L : Loc} (hL : φ id = some L) {c : Nat} (h1 : Own φ ⟨h.next, h.t.set id o⟩ c) : L.c = c ∨ Own φ h c := by
  obtain ⟨b, M, ⟨p, e, nd⟩, em, hc⟩ := h1
  rw [T.get_set] at e
  by_cases hb : b = id
  · subst hb; rw [hL] at em; cases em; exact .inl hc
  · rw [if_neg hb] at e; exact .inr ⟨b, M, ⟨p, e, nd⟩, em, hc⟩
theorem live_lay {id b : Nat} {o : Eng.Obj} (h1 : Live ⟨h.next, h.t.set id o⟩ b) (hne : b ≠ id) : Live h b := by
  obtain ⟨p, e, nd⟩ := h1
  rw [T.get_set, if_neg hne] at e
  exact ⟨p, e, nd⟩
theorem Fr.lay (fm : Fr φ0 h0 W0 φ h W) {id : Nat} {L : Loc} {o : Eng.Obj} (hid : h0.next ≤ id) (hL : φ id = some L) (hc : W0.heap.size ≤ L.c) : Fr φ0 h0 W0 φ ⟨h.next, h.t.set id o⟩ W := by
  refine ⟨fm.ext, fm.old, fun b hb lb => fm.lv b hb (live_lay lb (by omega)), fm.next, fm.size, fm.tape, fm.os, fm.out, fun c hlt n => ?_⟩
  obtain ⟨e1, e2⟩ := fm.keep c hlt n
  refine ⟨e1, fun h => ?_⟩
  rcases own_lay hL h with h | h
  · omega
  · exact e2 h
end

/-! ## Laying what was kept back -/
section
variable {S : Sym} {c : Cx} {K : Eng.K} {φ φ0 : Mp} {h0 : H} {W W0 : World} {outs : List (V × H)} {f : FT} {l : List V} {env : Env} {a : Act} {L : Ls} {all : List Oper} {D : Nat → Bool} {ids : Nat → Nat}

/-- What a block that is kept back, and has been made, must bear. -/
structure LayOK (S : Sym) (c : Cx) (all : List Oper) (ids : Nat → Nat) (φ : Mp) (h0 : H) (W W0 : World) (env : Env) (f : FT) (l : List V) (n : Nat) (x : DOp) : Prop where
  lo : h0.next ≤ ids x.i
  hi : ids x.i < n
  lf : ∃ v, blockOf v = some (ids x.i) ∧ LF x v env l
  dn : ∃ L o' ax, φ (ids x.i) = some L ∧ W.heap[L.c]? = some o' ∧ W0.heap.size ≤ L.c ∧ RSt S φ c (Lk all x) env f l ax ∧ AK S c x.o ax L o' ∧ ∀ b f M, S.ro b = some f → φ b = some M → M.c ≠ L.c
theorem lay_sound (hG : GOK c.sy.ng φ) {X : RCode} : ∀ (sel : List DOp) (code : RCode) (h : H), layAll c env l.length sel X = some code → code K L f l h = some outs →
    RH S c.ty φ h W.heap → Fr φ0 h0 W0 φ h W → (∀ x ∈ sel, LayOK S c all ids φ h0 W W0 env f l h.next x) → (∀ x ∈ sel, ¬ Live h (ids x.i)) → (∀ x ∈ sel, ∀ Lx, φ (ids x.i) = some Lx → ¬ Own φ h Lx.c) →
    sel.Pairwise (fun x y => ids x.i ≠ ids y.i ∧ ∀ Lx Ly, φ (ids x.i) = some Lx → φ (ids y.i) = some Ly → Lx.c ≠ Ly.c) →
    ∃ h1, X K L f l h1 = some outs ∧ RH S c.ty φ h1 W.heap ∧ Fr φ0 h0 W0 φ h1 W ∧ h1.next = h.next ∧ (∀ b, Live h1 b → Live h b ∨ ∃ x ∈ sel, b = ids x.i) ∧
      (∀ k, Own φ h1 k → Own φ h k ∨ ∃ x ∈ sel, ∃ Lx, φ (ids x.i) = some Lx ∧ Lx.c = k)
  | [], code, h, hc, hr, rh, fm, _, _, _, _ => by
    cases hc
    exact ⟨h, hr, rh, fm, rfl, fun b hb => .inl hb, fun k hk => .inl hk⟩
  | x :: sel, code, h, hc, hr, rh, fm, hok, hlv, hown, hpw => by
    obtain ⟨rst, h1, hc⟩ := ob_eq.1 hc
    obtain ⟨co, h2, hc⟩ := ob_eq.1 hc
    split at hc
    · rename_i al
      obtain ⟨t, h3, hc⟩ := ob_eq.1 hc
      obtain ⟨e, h4, hc⟩ := ob_eq.1 hc
      cases hc
      obtain ⟨p, h5, hr⟩ := ob_eq.1 hr
      obtain ⟨ob', mk⟩ := p
      obtain ⟨v, h6, hr⟩ := ob_eq.1 hr
      obtain ⟨b, h7, hr⟩ := ob_eq.1 hr
      rw [putO_eq] at hr
      have hx := hok x (by simp)
      obtain ⟨v', h8, h9⟩ := hx.lf
      have := h9.ev h3 h4 h6
      subst this
      rw [h7] at h8
      cases h8
      obtain ⟨Lx, o', ax, g1, g2, g3, g4, g5, g5'⟩ := hx.dn
      have g6 := g5 φ env l.length f l al ob' mk _ h2 (g4.ops hG x.o.op.operands.toList fun t ht => lk_op ht) h5 g1
      have hlvx := hlv x (by simp)
      have hownx := hown x (by simp) Lx g1
      obtain ⟨hp1, hp2⟩ := List.pairwise_cons.1 hpw
      have rh' := rh.lay (o := ob') hx.hi g1 hlvx g2 g6 hownx g5'
      have fm' := fm.lay (o := ob') hx.lo g1 g3
      obtain ⟨h1', k1, k2, k3, k4, k5, k6⟩ := lay_sound hG sel rst ⟨h.next, h.t.set (ids x.i) ob'⟩ h1 hr rh' fm' (fun y hy => hok y (List.mem_cons_of_mem _ hy))
        (fun y hy lb => hlv y (List.mem_cons_of_mem _ hy) (live_lay lb fun e => (hp1 y hy).1 e.symm))
        (fun y hy Ly hLy ow => by
          rcases own_lay g1 ow with e | ow
          · exact (hp1 y hy).2 Lx Ly g1 hLy e
          · exact hown y (List.mem_cons_of_mem _ hy) Ly hLy ow) hp2
      refine ⟨h1', k1, k2, k3, k4, fun b lb => ?_, fun k ow => ?_⟩
      · rcases k5 b lb with lb | ⟨y, hy, e⟩
        · by_cases hb : b = ids x.i
          · exact .inr ⟨x, by simp, hb⟩
          · exact .inl (live_lay lb hb)
        · exact .inr ⟨y, List.mem_cons_of_mem _ hy, e⟩
      · rcases k6 k ow with ow | ⟨y, hy, Ly, e1, e2⟩
        · rcases own_lay g1 ow with e | ow
          · exact .inr ⟨x, by simp, Lx, g1, e⟩
          · exact .inl ow
        · exact .inr ⟨y, List.mem_cons_of_mem _ hy, Ly, e1, e2⟩
    · cases hc
end

/-! ## Reading again -/
section
variable {P : Program} {S : Sym} {c : Cx} {K : Eng.K} {φ φ0 : Mp} {h : H} {outs : List (V × H)} {f : FT} {l : List V} {env : Env} {L : Ls} {all : List Oper}
/-- Related where it was passed, related here. -/
def PT (S : Sym) (c : Cx) (all : List Oper) (r : Rec) (env : Env) (f : FT) (l : List V) : Prop := ∀ φ a, RSt S φ c (Lk all r.d) r.env r.f r.l a → RSt S φ c (Lk all r.d) env f l a
theorem again_sound (hC : CtxA P S c K φ0) {X : RCode} : ∀ (rl : List DOp) (code : RCode), againAll c all env l.length rl X = some code → code K L f l h = some outs →
    X K L f l h = some outs ∧ ∀ r : Rec, r.d ∈ rl → PT S c all r env f l → (∃ v, r.R = (fun φ w => VR S φ v w) ∧ LF r.d v env l) → ∀ φr, HY P S c all φr r h.t
  | [], code, hc, hr => by
    cases hc
    exact ⟨hr, fun r hr => by cases hr⟩
  | x :: rl, code, hc, hr => by
    obtain ⟨rst, h1, hc⟩ := ob_eq.1 hc
    obtain ⟨co, h2, hc⟩ := ob_eq.1 hc
    split at hc
    · rename_i heap rr
      obtain ⟨t, h3, hc⟩ := ob_eq.1 hc
      obtain ⟨e, h4, hc⟩ := ob_eq.1 hc
      obtain ⟨g, h5, hc⟩ := ob_eq.1 hc
      have key : rst K L f l h = some outs ∧ ((∃ v' w', EvalR g rr f l h v' ∧ e f l = some w' ∧ vEq v' w' = true) ∨ (∃ x' y gv, g = some (x', y) ∧ x' f l = some gv ∧ wantedV y gv = some false)) := by
        cases g with
        | none =>
          cases hc
          obtain ⟨v, k1, hr⟩ := ob_eq.1 hr
          obtain ⟨w, k2, hr⟩ := ob_eq.1 hr
          exact ⟨(gd_eq.1 hr).2, .inl ⟨v, w, k1, k2, (gd_eq.1 hr).1⟩⟩
        | some p =>
          obtain ⟨x', y⟩ := p
          cases hc
          obtain ⟨gv, k1, hr⟩ := ob_eq.1 hr
          obtain ⟨b, k2, hr⟩ := ob_eq.1 hr
          cases b with
          | false => exact ⟨hr, .inr ⟨x', y, gv, rfl, k1, k2⟩⟩
          | true =>
            obtain ⟨v, k3, hr⟩ := ob_eq.1 hr
            obtain ⟨w, k4, hr⟩ := ob_eq.1 hr
            exact ⟨(gd_eq.1 hr).2, .inl ⟨v, w, ⟨gv, true, k1, k2, (fun _ => k3), fun h => by cases h⟩, k4, (gd_eq.1 hr).1⟩⟩
      obtain ⟨k0, key⟩ := key
      obtain ⟨ih1, ih2⟩ := again_sound hC rl rst h1 k0
      refine ⟨ih1, fun r hrd hpt hlf φr => ?_⟩
      rcases List.mem_cons.1 hrd with hrd | hrd
      · obtain ⟨v, hR, hlf⟩ := hlf
        intro φ a W n hx hG hRD st hw
        have st' := hpt φ a st
        rw [hrd] at st' hw hlf ⊢
        rcases key with ⟨v', w', k1, k2, k3⟩ | ⟨x', y, gv, k1, k2, k3⟩
        · have k4 := hlf.ev h3 h4 k2
          have k5 := vEq_eq k3
          subst k5 k4
          rw [hR]
          exact rd_sound (b := heap) (φ0 := φ) (W0 := W) (h := h) ⟨hC.ty, hC.sy, RD.next hRD, Gro.refl _, fun _ => ⟨rfl, rfl⟩⟩ (st'.ops hG x.o.op.operands.toList fun t ht => lk_op ht) h2 (evalR_yes hG st' h5 k1 hw)
        · subst k1
          rw [guard_want hG st' h5 k2 k3] at hw
          cases hw
      · exact ih2 r hrd hpt hlf φr
    · cases hc
end
end Eng

/- Drawn regions: what holds between the model's order and the engine's. -/
namespace Eng
open Go

/-- What stays fixed in a region. -/
structure Rg where
  P : Program
  S : Sym
  c : Cx
  K : Eng.K
  φ0 : Mp
  h0 : H
  W0 : World
  OUT : List (V × H)
  L : Ls
  all : List Oper
  fin : RCode
  ss : List DOp
  a0 : Act
  f0 : FT
  φs : Mp
structure RgOK (g : Rg) : Prop where
  hC : CtxA g.P g.S g.c g.K g.φ0
  dp : g.c.n ≤ 4 ^ g.c.d
  hS : SSOK g.all g.ss
  cl : ∀ d ∈ g.ss, d.cl = clOf g.c d.o
  st0 : RSt g.S g.φs g.c (fun _ => True) [] g.f0 [] g.a0
/-- Where the model stands, and the engine. -/
structure Sm where
  D : Nat → Bool
  val : Nat → Value
  ids : Nat → Nat
  φ : Mp
  h : H
  W : World
  a : Act
  rs : List Rec
  rem : List DOp
  env : Env
  f : FT
  l : List V
  pend : List DOp
  reads : List DOp

structure PendOK (g : Rg) (s : Sm) (x : DOp) : Prop where
  rc : ∃ r ∈ s.rs, r.d = x ∧ PT g.S g.c g.all r s.env s.f s.l
  lf : ∃ v, blockOf v = some (s.ids x.i) ∧ LF x v s.env s.l
  lo : g.h0.next ≤ s.ids x.i
  hi : s.ids x.i < s.h.next
  lv : ¬ Live s.h (s.ids x.i)
  nf : ∀ r ∈ s.rs, r.d.i ≠ x.i → ∀ t, r.d.o.dst = some t → t ∈ namesOf g.all x.o → x.b.testBit r.d.i = true
  un : s.D x.i = false → s.φ (s.ids x.i) = none
  dn : s.D x.i = true → ∃ Lx o' ax, s.φ (s.ids x.i) = some Lx ∧ s.W.heap[Lx.c]? = some o' ∧ ¬ Own s.φ s.h Lx.c ∧ g.W0.heap.size ≤ Lx.c ∧ ax.tmps.size = g.c.n ∧ (∀ t, Lk g.all x t → slotV ax t = slotV s.a t) ∧ AK g.S g.c x.o ax Lx o' ∧ ∀ b f M, g.S.ro b = some f → s.φ b = some M → M.c ≠ Lx.c
def UndOK (g : Rg) (s : Sm) (r : Rec) : Prop := ∃ φr, Gro φr s.φ ∧
  (((∃ x ∈ s.pend, x.i = r.d.i) ∧ AY g.P g.S g.c g.all φr r (s.ids r.d.i)) ∨
   ((∀ x ∈ s.pend, x.i ≠ r.d.i) ∧ (SY g.P g.S g.c g.all φr r ∨
     (r.d ∈ s.reads ∧ HY g.P g.S g.c g.all φr r s.h.t ∧ PT g.S g.c g.all r s.env s.f s.l ∧ ∃ v, r.R = (fun φ w => VR g.S φ v w) ∧ LF r.d v s.env s.l))))
structure Inv (g : Rg) (s : Sm) : Prop where
  split : g.ss = s.rs.map (·.d) ++ s.rem
  chain : Chain s.rs [] g.f0 [] s.env s.f s.l
  ok : ∀ r ∈ s.rs, RecOK g.S g.c r
  code : ∃ code outs, dOps g.c g.all g.fin s.rem s.env s.l.length s.pend s.reads = some code ∧ code g.K g.L s.f s.l s.h = some outs ∧ ∀ x ∈ outs, x ∈ g.OUT
  rh : RH g.S g.c.ty s.φ s.h s.W.heap
  fm : Fr g.φ0 g.h0 g.W0 s.φ s.h s.W
  gs : Gro g.φs s.φ
  sz : s.a.tmps.size = g.c.n
  df : s.a.defers = []
  slots : ∀ t, slotV s.a t = slotV (runD s.D s.val (s.rs.map (·.d)) g.a0) t
  dc : ∀ d ∈ g.ss, s.D d.i = true → ∀ i, d.b.testBit i = true → s.D i = true
  rem0 : ∀ d ∈ s.rem, s.D d.i = false
  effs : ∀ r ∈ s.rs, isEf r.d = true → s.D r.d.i = true
  vals : ∀ r ∈ s.rs, s.D r.d.i = true → r.R s.φ (s.val r.d.i)
  hg : ∀ r ∈ s.rs, isEf r.d = false → ∃ φr, Gro φr s.φ ∧ HG g.S g.c g.all φr r
  und : ∀ r ∈ s.rs, s.D r.d.i = false → UndOK g s r
  pnd : ∀ x ∈ s.pend, PendOK g s x
  pw : s.pend.Pairwise fun x y => x.i ≠ y.i
  pids : ∀ x ∈ s.pend, ∀ y ∈ s.pend, x.i ≠ y.i → s.ids x.i ≠ s.ids y.i
  plocs : ∀ x ∈ s.pend, ∀ y ∈ s.pend, x.i ≠ y.i → ∀ Lx Ly, s.φ (s.ids x.i) = some Lx → s.φ (s.ids y.i) = some Ly → Lx.c ≠ Ly.c

section
variable {g : Rg} {s : Sm}

theorem Inv.gok (hg : RgOK g) (hI : Inv g s) : GOK g.c.sy.ng s.φ := hg.hC.g.mono hI.fm.ext
theorem Inv.a0 (hg : RgOK g) (hI : Inv g s) : s.a.tmps.size = g.a0.tmps.size := by rw [hI.sz, hg.st0.sz]
theorem Inv.mem (hI : Inv g s) {r : Rec} (hr : r ∈ s.rs) : r.d ∈ g.ss := by rw [hI.split]; exact List.mem_append.2 (.inl (List.mem_map.2 ⟨r, hr, rfl⟩))
theorem Inv.at_ (hI : Inv g s) {r1 r2 : List Rec} {r : Rec} (e : s.rs = r1 ++ r :: r2) : g.ss = r1.map (·.d) ++ r.d :: (r2.map (·.d) ++ s.rem) := by rw [hI.split, e]; simp

/-- What an operation looks at is what it looked at when the engine passed it. -/
theorem Inv.names (hg : RgOK g) (hI : Inv g s) {r1 r2 : List Rec} {r : Rec} (e : s.rs = r1 ++ r :: r2) (hp : ∀ i, r.d.b.testBit i = true → s.D i = true) (h2 : ∀ x ∈ r2, ∀ t, x.d.o.dst = some t → Lk g.all r.d t → s.D x.d.i = false) :
    RSt g.S s.φ g.c (Lk g.all r.d) r.env r.f r.l s.a := by
  have hss := hI.at_ e
  have hch := hI.chain
  rw [e] at hch
  obtain ⟨e1, f1, l1, hc1, hc2, hc3, hc4, _⟩ := hch.split
  subst hc2 hc3 hc4
  have hmem : ∀ x ∈ r1, x ∈ s.rs := fun x hx => by rw [e]; exact List.mem_append.2 (.inl hx)
  have hst := hc1.hist (X := Lk g.all r.d) (φ := s.φ) (D := s.D) (val := s.val) (fun x hx => hI.ok x (hmem x hx)) ((hg.st0.mono hI.gs).sub fun _ _ => trivial) (fun x hx => hI.vals x (hmem x hx)) (fun t ht x hx hd =>
    hp _ (hg.hS.fore hss (List.mem_map.2 ⟨x, hx, rfl⟩) hd ((namesOf_eq _ _ _).2 (.inr ht))))
  refine hst.congr (fun t ht => ?_) (by rw [runD_size, hI.sz, hg.st0.sz])
  rw [hI.slots t, e, List.map_append, List.map_cons, runD_append]
  refine runD_none fun x hx hd => ?_
  rcases List.mem_cons.1 hx with rfl | hx
  · exact absurd ht (hg.hS.self r.d (by rw [hss]; simp) t hd)
  · obtain ⟨y, hy, rfl⟩ := List.mem_map.1 hx
    exact h2 y hy t hd ht
/-- The same, where the engine stands. -/
theorem Inv.cur (hg : RgOK g) (hI : Inv g s) {X : Nat → Prop} (hX : ∀ t, X t → ∀ r ∈ s.rs, r.d.o.dst = some t → s.D r.d.i = true) : RSt g.S s.φ g.c X s.env s.f s.l s.a := by
  have hst := hI.chain.hist (X := X) (φ := s.φ) (D := s.D) (val := s.val) hI.ok ((hg.st0.mono hI.gs).sub fun _ _ => trivial) hI.vals hX
  exact hst.congr (fun t _ => hI.slots t) (by rw [runD_size, hI.sz, hg.st0.sz])
/-- One that is not done yet may be done: it looks at what it looked at. -/
theorem Inv.ready (hg : RgOK g) (hI : Inv g s) {r1 r2 : List Rec} {r : Rec} (e : s.rs = r1 ++ r :: r2) (hn : s.D r.d.i = false) (hp : ∀ i, r.d.b.testBit i = true → s.D i = true) : RSt g.S s.φ g.c (Lk g.all r.d) r.env r.f r.l s.a := by
  refine hI.names hg e hp fun x hx t hd ht => ?_
  have hss := hI.at_ e
  have h1 := hg.hS.aft hss (x := x.d) (by simp; exact .inl ⟨x, hx, rfl⟩) hd ((namesOf_eq _ _ _).2 (.inr ht))
  cases hD : s.D x.d.i with
  | false => rfl
  | true => rw [hI.dc x.d (by rw [hss]; simp; exact .inr (.inr (.inl ⟨x, hx, rfl⟩))) hD _ h1] at hn; cases hn
/-- A block that is kept back and has been made: it looks at what it looked at. -/
theorem Inv.kept (hg : RgOK g) (hI : Inv g s) {x : DOp} (hx : x ∈ s.pend) (hD : s.D x.i = true) : RSt g.S s.φ g.c (Lk g.all x) s.env s.f s.l s.a := by
  have hp := hI.pnd x hx
  obtain ⟨r, hr, rfl, hpt⟩ := hp.rc
  obtain ⟨r1, r2, e⟩ := List.append_of_mem hr
  have hss := hI.at_ e
  refine hpt s.φ s.a (hI.names hg e (hI.dc r.d (hI.mem hr) hD) fun x hx t hd ht => ?_)
  have hap := hg.hS.apart hss
  have hxi := hap.2 x.d (by simp; exact .inl ⟨x, hx, rfl⟩)
  have h1 := hp.nf x (by rw [e]; simp [hx]) hxi t hd ((namesOf_eq _ _ _).2 (.inr ht))
  obtain ⟨y, hy, hyi⟩ := (hg.hS.topo _ _ _ hss).1 _ h1
  obtain ⟨u1, u2, e2⟩ := List.append_of_mem hx
  have hss2 : g.ss = (r1.map (·.d) ++ r.d :: u1.map (·.d)) ++ x.d :: (u2.map (·.d) ++ s.rem) := by rw [hss, e2]; simp
  exact absurd hyi ((hg.hS.apart hss2).1 y (by simp; exact .inl (by simpa using hy)))

theorem freeOf_at {all : List Oper} {t : Nat} {l : List DOp} {dst : Option Nat} (h : freeOf all dst l = true) (ht : dst = some t) {x : DOp} (hx : x ∈ l) : t ∉ namesOf all x.o := by
  subst ht
  have h : chainOk.allB (fun d => (Bool.casesOn (memT t (namesOf all d.o)) true false : Bool)) l = true := h
  have h := allB_eq h x hx
  cases e : memT t (namesOf all x.o) with
  | false => exact memT_ne e
  | true =>
    have h : (Bool.casesOn (memT t (namesOf all x.o)) true false : Bool) = true := h
    rw [e] at h; cases h

/-- The engine goes on by one record: what is kept back stays so. -/
theorem PendOK.keep {s' : Sm} {r : Rec} {x : DOp} (hp : PendOK g s x) (hok : RecOK g.S g.c r) (e1 : r.env = s.env) (e2 : r.f = s.f) (e3 : r.l = s.l) (e4 : s'.env = r.env') (e5 : s'.f = r.f') (e6 : s'.l = r.l') (e7 : s'.rs = s.rs ++ [r])
    (hfree : ∀ t, r.d.o.dst = some t → t ∉ namesOf g.all x.o) (hk : EnvKeeps r.d.o.dst s.env r.env') (hgr : ∃ m, r.l' = m ++ s.l) (hids : s'.ids x.i = s.ids x.i) (hnext : s.h.next ≤ s'.h.next) (hlv : Live s'.h (s.ids x.i) → Live s.h (s.ids x.i))
    (hD : s'.D x.i = s.D x.i) (hφ : s'.φ (s.ids x.i) = s.φ (s.ids x.i))
    (hW : ∀ Lx o', s.φ (s.ids x.i) = some Lx → s.W.heap[Lx.c]? = some o' → ¬ Own s.φ s.h Lx.c → s'.W.heap[Lx.c]? = some o' ∧ ¬ Own s'.φ s'.h Lx.c) (ha : ∀ t, Lk g.all x t → slotV s'.a t = slotV s.a t) (hro : ∀ b f M, g.S.ro b = some f → s'.φ b = some M → s.φ b = some M) : PendOK g s' x := by
  refine ⟨?_, ?_, by rw [hids]; exact hp.lo, by rw [hids]; exact Nat.lt_of_lt_of_le hp.hi hnext, by rw [hids]; exact fun h => hp.lv (hlv h), ?_, fun h => by rw [hids, hφ]; exact hp.un (hD ▸ h), fun h => ?_⟩
  · obtain ⟨r0, h1, h2, h3⟩ := hp.rc
    refine ⟨r0, by rw [e7]; simp [h1], h2, ?_⟩
    rw [e4, e5, e6]
    intro φ a st
    have st' := h3 φ a st
    rw [← e1, ← e2, ← e3] at st'
    exact hok.skip _ φ a st' fun t ht hd => hfree t hd (by rw [← h2]; exact (namesOf_eq _ _ _).2 (.inr ht))
  · obtain ⟨v, h1, h2⟩ := hp.lf
    refine ⟨v, by rw [hids]; exact h1, ?_⟩
    rw [e4, e6]
    exact h2.keep hk hgr fun t ht hd => hfree t hd ((namesOf_eq _ _ _).2 (.inl ht))
  · intro r0 hr0 hne t ht hn
    rw [e7] at hr0
    rcases List.mem_append.1 hr0 with hr0 | hr0
    · exact hp.nf r0 hr0 hne t ht hn
    · simp at hr0; subst hr0
      exact absurd hn (hfree t ht)
  · obtain ⟨Lx, o', ax, g1, g2, g3, g4, g5, g6, g7, g8⟩ := hp.dn (hD ▸ h)
    obtain ⟨k1, k2⟩ := hW Lx o' g1 g2 g3
    exact ⟨Lx, o', ax, by rw [hids, hφ]; exact g1, k1, k2, g4, g5, fun t ht => by rw [ha t ht]; exact g6 t ht, g7, fun b f M h1 h2 => g8 b f M h1 (hro b f M h1 h2)⟩
theorem PT.keep {s' : Sm} {r r0 : Rec} (hpt : PT g.S g.c g.all r0 s.env s.f s.l) (hok : RecOK g.S g.c r) (e1 : r.env = s.env) (e2 : r.f = s.f) (e3 : r.l = s.l) (e4 : s'.env = r.env') (e5 : s'.f = r.f') (e6 : s'.l = r.l')
    (hfree : ∀ t, r.d.o.dst = some t → t ∉ namesOf g.all r0.d.o) : PT g.S g.c g.all r0 s'.env s'.f s'.l := by
  rw [e4, e5, e6]
  intro φ a st
  have st' := hpt φ a st
  rw [← e1, ← e2, ← e3] at st'
  exact hok.skip _ φ a st' fun t ht hd => hfree t hd ((namesOf_eq _ _ _).2 (.inr ht))
end
end Eng

/- Drawn regions: the engine goes on by itself over what does not turn the heap. -/
namespace Eng
open Go

section
variable {S : Sym} {ty : Nat → Option TI} {φ φ0 : Mp} {h0 : H} {W W0 : World} {n m : Nat} {t : T Eng.Obj}
theorem RH.bump {hp : Array Go.Obj} (r : RH S ty φ ⟨n, t⟩ hp) (hm : n ≤ m) : RH S ty φ ⟨m, t⟩ hp :=
  ⟨r.live, r.inj, fun b L e => ⟨Nat.lt_of_lt_of_le (r.dom b L e).1 hm, (r.dom b L e).2⟩, fun b o e => Nat.lt_of_lt_of_le (r.key b o e) hm, r.ro⟩
theorem Fr.bump (r : Fr φ0 h0 W0 φ ⟨n, t⟩ W) (hm : n ≤ m) : Fr φ0 h0 W0 φ ⟨m, t⟩ W :=
  ⟨r.ext, r.old, r.lv, Nat.le_trans r.next hm, r.size, r.tape, r.os, r.out, r.keep⟩
end

section
variable {g : Rg} {s : Sm}
theorem Inv.pend_rs (hI : Inv g s) {x : DOp} (hx : x ∈ s.pend) : ∃ r ∈ s.rs, r.d = x := by
  obtain ⟨r, h1, h2, _⟩ := (hI.pnd x hx).rc
  exact ⟨r, h1, h2⟩

theorem adv_step (hg : RgOK g) (hI : Inv g s) {d : DOp} {rem' : List DOp} (hrem : s.rem = d :: rem') (hd : isEf d = false) :
    ∃ s', Inv g s' ∧ s'.rem = rem' ∧ s'.D = s.D ∧ s'.a = s.a ∧ s'.W = s.W := by
  obtain ⟨code, outs, hc, hr, hsub⟩ := hI.code
  rw [hrem] at hc
  obtain ⟨r, pend', reads', h', A⟩ := advance hg.hC hg.dp hI.rh.rd hd hc hr
  have hDd : s.D d.i = false := hI.rem0 d (by rw [hrem]; simp)
  have hss : g.ss = s.rs.map (·.d) ++ d :: rem' := by rw [hI.split, hrem]
  have hap := hg.hS.apart hss
  have hne : ∀ r0 ∈ s.rs, r0.d.i ≠ d.i := fun r0 h => hap.1 r0.d (List.mem_map.2 ⟨r0, h, rfl⟩)
  have hdss : d ∈ g.ss := by rw [hss]; simp
  have hpne : ∀ x ∈ s.pend, x.i ≠ d.i := fun x hx => by
    obtain ⟨r0, h1, rfl⟩ := hI.pend_rs hx
    exact hne r0 h1
  have hnx : s.φ s.h.next = none := hI.rh.fresh
  -- the new state
  let ids' : Nat → Nat := fun j => bif Nat.beq j d.i then s.h.next else s.ids j
  have hids0 : ids' d.i = s.h.next := by show (bif Nat.beq d.i d.i then _ else _) = _; rw [Nat.beq_refl]; rfl
  have hids1 : ∀ j, j ≠ d.i → ids' j = s.ids j := fun j hj => by
    have : Nat.beq j d.i = false := by rw [natBeq_ne]; exact hj
    show (bif Nat.beq j d.i then _ else _) = _
    rw [this]; rfl
  let s' : Sm := { s with ids := ids', rs := s.rs ++ [r], rem := rem', env := r.env', f := r.f', l := r.l', pend := pend', reads := reads', h := h' }
  have hh : h'.t = s.h.t ∧ s.h.next ≤ h'.next := by
    rcases A.kind with ⟨_, e, _⟩ | ⟨_, _, e, _⟩ | ⟨_, _, e, _⟩ <;> (rw [e]; exact ⟨rfl, by simp⟩)
  have hlive : ∀ b, Live h' b → Live s.h b := fun b ⟨o, e, nd⟩ => ⟨o, by rw [← hh.1]; exact e, nd⟩
  have hown : ∀ k, Own s.φ h' k → Own s.φ s.h k := fun k ⟨b, M, lb, e, hc⟩ => ⟨b, M, hlive b lb, e, hc⟩
  have rh' : RH g.S g.c.ty s.φ h' s.W.heap := by
    have : h' = ⟨h'.next, s.h.t⟩ := by rw [← hh.1]
    rw [this]
    exact RH.bump (n := s.h.next) hI.rh hh.2
  have fm' : Fr g.φ0 g.h0 g.W0 s.φ h' s.W := by
    have : h' = ⟨h'.next, s.h.t⟩ := by rw [← hh.1]
    rw [this]
    exact Fr.bump (n := s.h.next) hI.fm hh.2
  have hpsub : ∀ x ∈ s.pend, x ∈ pend' := fun x hx => by
    rcases A.kind with ⟨_, _, e, _⟩ | ⟨_, _, _, e, _⟩ | ⟨_, _, _, e, _⟩ <;> (rw [e]; first | exact hx | exact List.mem_cons_of_mem _ hx)
  have hrsub : ∀ x ∈ s.reads, x ∈ reads' := fun x hx => by
    rcases A.kind with ⟨_, _, _, e⟩ | ⟨_, _, _, _, e⟩ | ⟨_, _, _, _, e⟩ <;> (rw [e]; first | exact hx | exact List.mem_cons_of_mem _ hx)
  have hpend : ∀ x ∈ pend', x ∈ s.pend ∨ x = d := fun x hx => by
    rcases A.kind with ⟨_, _, e, _⟩ | ⟨_, _, _, e, _⟩ | ⟨_, _, _, e, _⟩ <;> rw [e] at hx
    · exact .inl hx
    · exact .inl hx
    · rcases List.mem_cons.1 hx with hx | hx
      · exact .inr hx
      · exact .inl hx
  have hself : PT g.S g.c g.all r r.env' r.f' r.l' := fun φ a st => A.ok.skip _ φ a st fun t ht hdt => by
    rw [A.ed] at hdt ht
    exact hg.hS.self d hdss t hdt ht
  have hkeeps : EnvKeeps r.d.o.dst s.env r.env' := by rw [A.ed]; exact A.keeps
  have hpf : ∀ x ∈ s.pend, ∀ t, r.d.o.dst = some t → t ∉ namesOf g.all x.o := fun x hx t ht => freeOf_at A.free1 (A.ed ▸ ht) hx
  have hrf : ∀ x ∈ s.reads, ∀ t, r.d.o.dst = some t → t ∉ namesOf g.all x.o := fun x hx t ht => freeOf_at A.free2 (A.ed ▸ ht) hx
  have hold : ∀ x ∈ s.pend, PendOK g s' x := fun x hx =>
    (hI.pnd x hx).keep A.ok A.eenv A.ef A.el rfl rfl rfl rfl (hpf x hx) hkeeps A.grow (hids1 _ (hpne x hx)) hh.2 (hlive _) rfl rfl (fun Lx o' _ h2 h3 => ⟨h2, fun h => h3 (hown _ h)⟩) (fun t _ => rfl) (fun _ _ _ _ h => h)
  have hundo : ∀ r0 ∈ s.rs, s.D r0.d.i = false → UndOK g s' r0 := by
    intro r0 hr0 hD
    obtain ⟨φr, hx, hu⟩ := hI.und r0 hr0 hD
    refine ⟨φr, hx, ?_⟩
    rcases hu with ⟨⟨x, hx1, hx2⟩, hay⟩ | ⟨hnp, hu⟩
    · refine .inl ⟨⟨x, hpsub x hx1, hx2⟩, ?_⟩
      show AY g.P g.S g.c g.all φr r0 (ids' r0.d.i)
      rw [hids1 _ (hne r0 hr0)]; exact hay
    · refine .inr ⟨fun x hx1 => ?_, ?_⟩
      · rcases hpend x hx1 with h | h
        · exact hnp x h
        · subst h; exact fun e => hne r0 hr0 e.symm
      · rcases hu with hu | ⟨h1, h2, h3, v, h4, h5⟩
        · exact .inl hu
        · refine .inr ⟨hrsub _ h1, ?_, h3.keep A.ok A.eenv A.ef A.el rfl rfl rfl (hrf _ h1), v, h4, ?_⟩
          · show HY g.P g.S g.c g.all φr r0 h'.t
            rw [hh.1]; exact h2
          · exact h5.keep hkeeps A.grow fun t ht hd => hrf _ h1 t hd ((namesOf_eq _ _ _).2 (.inl ht))
  refine ⟨s', ⟨?_, ?_, ?_, ?_, rh', fm', hI.gs, hI.sz, hI.df, ?_, hI.dc, fun x hx => hI.rem0 x (by rw [hrem]; exact List.mem_cons_of_mem _ hx), ?_, ?_, ?_, ?_, ?_, ?_, ?_, ?_⟩, rfl, rfl, rfl, rfl⟩
  · show g.ss = (s.rs ++ [r]).map (·.d) ++ rem'
    rw [hss]; simp [A.ed]
  · show Chain (s.rs ++ [r]) [] g.f0 [] r.env' r.f' r.l'
    exact Chain.snoc (by rw [A.eenv, A.ef, A.el]; exact hI.chain)
  · intro x hx
    rcases List.mem_append.1 hx with hx | hx
    · exact hI.ok x hx
    · simp at hx; subst hx; exact A.ok
  · obtain ⟨code', h1, h2⟩ := A.next
    exact ⟨code', outs, h1, h2, hsub⟩
  · intro t
    show slotV s.a t = slotV (runD s.D s.val ((s.rs ++ [r]).map (·.d)) g.a0) t
    rw [List.map_append, runD_append, runD_none (l := [r].map (·.d)) (fun x hx _ => by simp at hx; subst hx; rw [A.ed]; exact hDd)]
    exact hI.slots t
  · intro x hx hef
    rcases List.mem_append.1 hx with hx | hx
    · exact hI.effs x hx hef
    · simp at hx; subst hx; rw [A.ed, hd] at hef; cases hef
  · intro x hx hD
    rcases List.mem_append.1 hx with hx | hx
    · exact hI.vals x hx hD
    · simp at hx; subst hx
      have hD : s.D x.d.i = true := hD
      rw [A.ed, hDd] at hD; cases hD
  · intro x hx hef
    rcases List.mem_append.1 hx with hx | hx
    · exact hI.hg x hx hef
    · simp at hx; subst hx; exact ⟨s.φ, Gro.refl _, A.hg⟩
  · intro x hx hD
    rcases List.mem_append.1 hx with hx | hx
    · exact hundo x hx hD
    · simp at hx; subst hx
      refine ⟨s.φ, Gro.refl _, ?_⟩
      rcases A.kind with ⟨hsy, e1, e2, e3⟩ | ⟨hhy, ⟨v, hR, hlf⟩, e1, e2, e3⟩ | ⟨hay, ⟨v, hv, hlf⟩, e1, e2, e3⟩
      · refine .inr ⟨fun y hy => ?_, .inl hsy⟩
        have hy : y ∈ pend' := hy
        rw [e2] at hy; rw [A.ed]; exact hpne y hy
      · refine .inr ⟨fun y hy => ?_, .inr ⟨?_, ?_, hself, v, hR, by rw [A.ed]; exact hlf⟩⟩
        · have hy : y ∈ pend' := hy
          rw [e2] at hy; rw [A.ed]; exact hpne y hy
        · show x.d ∈ reads'
          rw [e3, A.ed]; simp
        · show HY g.P g.S g.c g.all s.φ x h'.t
          rw [hh.1]; exact hhy
      · refine .inl ⟨⟨d, by show d ∈ pend'; rw [e2]; simp, by rw [A.ed]⟩, ?_⟩
        show AY g.P g.S g.c g.all s.φ x (ids' x.d.i)
        rw [A.ed, hids0]; exact hay
  · intro x hx
    have hx : x ∈ pend' := hx
    rcases A.kind with ⟨hsy, e1, e2, e3⟩ | ⟨hhy, hlf, e1, e2, e3⟩ | ⟨hay, ⟨v, hv, hlf⟩, e1, e2, e3⟩
    · rw [e2] at hx; exact hold x hx
    · rw [e2] at hx; exact hold x hx
    · rw [e2] at hx
      rcases List.mem_cons.1 hx with rfl | hx
      · refine ⟨⟨r, by show r ∈ s.rs ++ [r]; simp, A.ed, hself⟩, ⟨v, ?_, hlf⟩, ?_, ?_, ?_, ?_, fun _ => ?_, fun h => ?_⟩
        · show blockOf v = some (ids' x.i)
          rw [hids0]; exact hv
        · show g.h0.next ≤ ids' x.i
          rw [hids0]; exact hI.fm.next
        · show ids' x.i < h'.next
          rw [hids0, e1]; exact Nat.lt_succ_self _
        · show ¬ Live h' (ids' x.i)
          rw [hids0]
          rintro ⟨o, e, _⟩
          rw [hh.1] at e
          have := hI.rh.key _ _ e; omega
        · intro r0 hr0 hni t ht hn
          have hr0 : r0 ∈ s.rs ++ [r] := hr0
          rcases List.mem_append.1 hr0 with hr0 | hr0
          · exact hg.hS.fore hss (List.mem_map.2 ⟨r0, hr0, rfl⟩) ht hn
          · simp at hr0; subst hr0; rw [A.ed] at hni; exact absurd rfl hni
        · show s.φ (ids' x.i) = none
          rw [hids0]; exact hnx
        · have h : s.D x.i = true := h
          rw [hDd] at h; cases h
      · exact hold x hx
  · show pend'.Pairwise _
    rcases A.kind with ⟨_, _, e, _⟩ | ⟨_, _, _, e, _⟩ | ⟨_, _, _, e, _⟩ <;> rw [e]
    · exact hI.pw
    · exact hI.pw
    · exact List.Pairwise.cons (fun y hy e => hpne y hy e.symm) hI.pw
  · intro x hx y hy hxy
    show ids' x.i ≠ ids' y.i
    rcases hpend x hx with hx1 | hx1 <;> rcases hpend y hy with hy1 | hy1
    · rw [hids1 _ (hpne x hx1), hids1 _ (hpne y hy1)]; exact hI.pids x hx1 y hy1 hxy
    · rw [hids1 _ (hpne x hx1), hy1, hids0]; have := (hI.pnd x hx1).hi; omega
    · rw [hx1, hids0, hids1 _ (hpne y hy1)]; have := (hI.pnd y hy1).hi; omega
    · rw [hx1, hy1] at hxy; exact absurd rfl hxy
  · intro x hx y hy hxy Lx Ly h1 h2
    have h1 : s.φ (ids' x.i) = some Lx := h1
    have h2 : s.φ (ids' y.i) = some Ly := h2
    rcases hpend x hx with hx1 | hx1
    · rcases hpend y hy with hy1 | hy1
      · rw [hids1 _ (hpne x hx1)] at h1
        rw [hids1 _ (hpne y hy1)] at h2
        exact hI.plocs x hx1 y hy1 hxy Lx Ly h1 h2
      · rw [hy1, hids0, hnx] at h2; cases h2
    · rw [hx1, hids0, hnx] at h1; cases h1

def Settled (s : Sm) : Prop := s.rem = [] ∨ ∃ e t, s.rem = e :: t ∧ isEf e = true
theorem settle (hg : RgOK g) : ∀ (n : Nat) (s : Sm), s.rem.length = n → Inv g s → ∃ s', Inv g s' ∧ Settled s' ∧ s'.D = s.D ∧ s'.a = s.a ∧ s'.W = s.W
  | 0, s, hn, hI => ⟨s, hI, .inl (List.length_eq_zero_iff.1 hn), rfl, rfl, rfl⟩
  | n + 1, s, hn, hI => by
    cases hrem : s.rem with
    | nil => rw [hrem] at hn; cases hn
    | cons d t =>
      cases hd : isEf d with
      | true => exact ⟨s, hI, .inr ⟨d, t, hrem, hd⟩, rfl, rfl, rfl⟩
      | false =>
        obtain ⟨s1, h1, h2, h3, h4, h5⟩ := adv_step hg hI hrem hd
        obtain ⟨s2, k1, k2, k3, k4, k5⟩ := settle hg n s1 (by rw [h2]; rw [hrem] at hn; simpa using hn) h1
        exact ⟨s2, k1, k2, k3.trans h3, k4.trans h4, k5.trans h5⟩
end
end Eng

/- Drawn regions: the model does one operation that the engine has passed already. -/
namespace Eng
open Go

section
variable {g : Rg} {s : Sm}

theorem done_inv (hg : RgOK g) (hI : Inv g s) {r : Rec} (hr : r ∈ s.rs) (hn : s.D r.d.i = false) (hp : ∀ i, r.d.b.testBit i = true → s.D i = true) {w : Value} {W' : World} {φ' : Mp} (hx : Gro s.φ φ') (rh : RH g.S g.c.ty φ' s.h W'.heap) (fm : Fr g.φ0 g.h0 g.W0 φ' s.h W')
    (hR : r.R φ' w) (hφ : ∀ x ∈ s.pend, x.i ≠ r.d.i → φ' (s.ids x.i) = s.φ (s.ids x.i)) (hW : ∀ (k : Nat) o', s.W.heap[k]? = some o' → W'.heap[k]? = some o') (hown : ∀ k, Own φ' s.h k → Own s.φ s.h k)
    (hnew : ∀ x ∈ s.pend, x.i = r.d.i → ∃ Lx o', φ' (s.ids x.i) = some Lx ∧ W'.heap[Lx.c]? = some o' ∧ ¬ Own φ' s.h Lx.c ∧ g.W0.heap.size ≤ Lx.c ∧ AK g.S g.c r.d.o s.a Lx o' ∧ (∀ b f M, g.S.ro b = some f → φ' b = some M → M.c ≠ Lx.c) ∧ ∀ y ∈ s.pend, y.i ≠ x.i → ∀ Ly, φ' (s.ids y.i) = some Ly → Lx.c ≠ Ly.c) :
    ∃ s', Inv g s' ∧ s'.rem = s.rem ∧ s'.D = setB s.D r.d.i ∧ s'.a = s.a.put r.d.o.dst w ∧ s'.W = W' := by
  obtain ⟨r1, r2, e⟩ := List.append_of_mem hr
  have hss := hI.at_ e
  have hap := hg.hS.apart hss
  have hrss := hI.mem hr
  have hne1 : ∀ x ∈ r1, x.d.i ≠ r.d.i := fun x hx => hap.1 x.d (List.mem_map.2 ⟨x, hx, rfl⟩)
  have hne2 : ∀ x ∈ r2, x.d.i ≠ r.d.i := fun x hx => hap.2 x.d (List.mem_append.2 (.inl (List.mem_map.2 ⟨x, hx, rfl⟩)))
  have hner : ∀ x ∈ s.rem, x.i ≠ r.d.i := fun x hx => hap.2 x (List.mem_append.2 (.inr hx))
  have hcase : ∀ x ∈ s.rs, x = r ∨ x.d.i ≠ r.d.i := fun x hx => by
    rw [e] at hx
    rcases List.mem_append.1 hx with hx | hx
    · exact .inr (hne1 x hx)
    · rcases List.mem_cons.1 hx with hx | hx
      · exact .inl hx
      · exact .inr (hne2 x hx)
  let s' : Sm := { s with D := setB s.D r.d.i, val := setVal s.val r.d.i w, φ := φ', W := W', a := s.a.put r.d.o.dst w }
  have haft : ∀ x ∈ r2.map (·.d), ∀ t, r.d.o.dst = some t → x.o.dst = some t → s.D x.i = false := by
    intro x hx t ht hxt
    have h1 := hg.hS.aft hss (x := x) (List.mem_append.2 (.inl hx)) hxt ((namesOf_eq _ _ _).2 (.inl ht))
    cases hD : s.D x.i with
    | false => rfl
    | true => rw [hI.dc x (by rw [hss]; exact List.mem_append.2 (.inr (List.mem_cons_of_mem _ (List.mem_append.2 (.inl hx))))) hD _ h1] at hn; cases hn
  refine ⟨s', ⟨hI.split, hI.chain, hI.ok, hI.code, rh, fm, hI.gs.trans hx, by show (s.a.put r.d.o.dst w).tmps.size = _; rw [put_size]; exact hI.sz, by show (s.a.put r.d.o.dst w).defers = _; rw [put_defers]; exact hI.df, ?_, ?_, ?_, ?_, ?_, ?_, ?_, ?_, hI.pw, hI.pids, ?_⟩, rfl, rfl, rfl, rfl⟩
  · intro t
    show slotV (s.a.put r.d.o.dst w) t = slotV (runD (setB s.D r.d.i) (setVal s.val r.d.i w) (s.rs.map (·.d)) g.a0) t
    have hsl : ∀ t, slotV s.a t = slotV (runD s.D s.val (r1.map (·.d) ++ r2.map (·.d)) g.a0) t := by
      intro t
      rw [hI.slots t, e, List.map_append, List.map_cons, runD_append, runD_append]
      show slotV (runD s.D s.val (r2.map (·.d)) (bif s.D r.d.i then _ else _)) t = _
      rw [hn]; rfl
    have := runD_done (d := r.d) (w := w) (hI.a0 hg) hsl (fun t ht => by rw [hg.st0.sz]; exact (hI.ok r hr).lt t ht) (fun x hx => by obtain ⟨y, hy, rfl⟩ := List.mem_map.1 hx; exact hne1 y hy) (fun x hx => by obtain ⟨y, hy, rfl⟩ := List.mem_map.1 hx; exact hne2 y hy) haft t
    rw [this, e, List.map_append, List.map_cons]
  · intro d hd hD i hi
    show setB s.D r.d.i i = true
    by_cases hdi : d.i = r.d.i
    · have := hg.hS.inj hd hrss hdi
      subst this
      exact setB_mono (hp i hi)
    · have hD : setB s.D r.d.i d.i = true := hD
      rw [setB_ne hdi] at hD
      exact setB_mono (hI.dc d hd hD i hi)
  · intro d hd
    show setB s.D r.d.i d.i = false
    rw [setB_ne (hner d hd)]; exact hI.rem0 d hd
  · intro x hx hef
    exact setB_mono (hI.effs x hx hef)
  · intro x hxr hD
    show x.R φ' (setVal s.val r.d.i w x.d.i)
    rcases hcase x hxr with rfl | hne
    · rw [setVal_self]; exact hR
    · have hD : setB s.D r.d.i x.d.i = true := hD
      rw [setB_ne hne] at hD
      rw [setVal_ne hne]
      exact (hI.ok x hxr).mono _ _ _ hx (hI.vals x hxr hD)
  · intro x hxr hef
    obtain ⟨φr, h1, h2⟩ := hI.hg x hxr hef
    exact ⟨φr, h1.trans hx, h2⟩
  · intro x hxr hD
    have hD : setB s.D r.d.i x.d.i = false := hD
    rcases hcase x hxr with rfl | hne
    · rw [setB_self] at hD; cases hD
    · rw [setB_ne hne] at hD
      obtain ⟨φr, h1, h2⟩ := hI.und x hxr hD
      exact ⟨φr, h1.trans hx, h2⟩
  · intro x hxp
    have hxp : x ∈ s.pend := hxp
    have hpx := hI.pnd x hxp
    by_cases hxi : x.i = r.d.i
    · obtain ⟨r0, hr0, he⟩ := hI.pend_rs hxp
      have hxr : x = r.d := hg.hS.inj (he ▸ hI.mem hr0) hrss hxi
      obtain ⟨Lx, o', k1, k2, k3, k4, k5, k5', _⟩ := hnew x hxp hxi
      refine ⟨hpx.rc, hpx.lf, hpx.lo, hpx.hi, hpx.lv, hpx.nf, fun h => ?_, fun _ => ⟨Lx, o', s.a, k1, k2, k3, k4, hI.sz, fun t ht => ?_, by rw [hxr]; exact k5, k5'⟩⟩
      · have h : setB s.D r.d.i x.i = false := h
        rw [hxi, setB_self] at h; cases h
      · show slotV s.a t = slotV (s.a.put r.d.o.dst w) t
        rw [slot_put_ne fun hd => hg.hS.self r.d hrss t hd (hxr ▸ ht)]
    · refine ⟨hpx.rc, hpx.lf, hpx.lo, hpx.hi, hpx.lv, hpx.nf, fun h => ?_, fun h => ?_⟩
      · have h : setB s.D r.d.i x.i = false := h
        rw [setB_ne hxi] at h
        show φ' (s.ids x.i) = none
        rw [hφ x hxp hxi]; exact hpx.un h
      · have h : setB s.D r.d.i x.i = true := h
        rw [setB_ne hxi] at h
        obtain ⟨Lx, o', ax, g1, g2, g3, g4, g5, g6, g7, g8⟩ := hpx.dn h
        refine ⟨Lx, o', ax, (hφ x hxp hxi).trans g1, hW _ _ g2, fun ow => g3 (hown _ ow), g4, g5, fun t ht => ?_, g7, fun b f M q1 q2 => g8 b f M q1 (hI.rh.ro_old hx q1 q2)⟩
        show slotV ax t = slotV (s.a.put r.d.o.dst w) t
        rw [slot_put_ne fun hd => ?_]
        · exact g6 t ht
        · have hxs : x ∈ g.ss := by obtain ⟨r0, hr0, he⟩ := hI.pend_rs hxp; exact he ▸ hI.mem hr0
          have := hI.dc x hxs h _ (hpx.nf r hr (fun h => hxi h.symm) t hd ((namesOf_eq _ _ _).2 (.inr ht)))
          rw [hn] at this; cases this
  · intro x hxp y hyp hxy Lx Ly h1 h2
    have h1 : φ' (s.ids x.i) = some Lx := h1
    have h2 : φ' (s.ids y.i) = some Ly := h2
    by_cases hxi : x.i = r.d.i
    · obtain ⟨Lx', o', k1, _, _, _, _, _, k6⟩ := hnew x hxp hxi
      rw [k1] at h1; cases h1
      exact k6 y hyp (fun h => hxy h.symm) Ly h2
    · by_cases hyi : y.i = r.d.i
      · obtain ⟨Ly', o', k1, _, _, _, _, _, k6⟩ := hnew y hyp hyi
        rw [k1] at h2; cases h2
        exact fun h => k6 x hxp hxy Lx h1 h.symm
      · rw [hφ x hxp hxi] at h1
        rw [hφ y hyp hyi] at h2
        exact hI.plocs x hxp y hyp hxy Lx Ly h1 h2

theorem real_step (hg : RgOK g) (hI : Inv g s) {r : Rec} (hr : r ∈ s.rs) (hn : s.D r.d.i = false) (hp : ∀ i, r.d.b.testBit i = true → s.D i = true) :
    (wantD g.all r.d s.a = false → ∃ s', Inv g s' ∧ s'.rem = s.rem ∧ s'.D = setB s.D r.d.i ∧ s'.a = s.a.put r.d.o.dst undef ∧ s'.W = s.W) ∧
    (wantD g.all r.d s.a = true → ∃ w W', (execOp s.a.eval r.d.o).run g.P s.W = .ok (.value w) W' ∧ ∃ s', Inv g s' ∧ s'.rem = s.rem ∧ s'.D = setB s.D r.d.i ∧ s'.a = s.a.put r.d.o.dst w ∧ s'.W = W') := by
  obtain ⟨r1, r2, e⟩ := List.append_of_mem hr
  have hst := hI.ready hg e hn hp
  have hG := hI.gok hg
  have hef : isEf r.d = false := by
    cases h : isEf r.d with
    | false => rfl
    | true => rw [hI.effs r hr h] at hn; cases hn
  obtain ⟨φr, hx, hu⟩ := hI.und r hr hn
  rcases hu with ⟨⟨x, hx1, hx2⟩, hay⟩ | ⟨hnp, hu⟩
  · obtain ⟨hw, w, o', Lx, k, h1, h2, h3, h4⟩ := hay s.φ s.a s.W hx hG hst
    refine ⟨fun h => by rw [hw] at h; (cases h), fun _ => ⟨w, _, h1, ?_⟩⟩
    have hpx := hI.pnd x hx1
    have hxn : s.D x.i = false := by rw [hx2]; exact hn
    rw [← hx2] at h3
    have hnone := hpx.un hxn
    have hgr := Mp.ext_add (L := Lx) hnone
    have hsz : ∀ b M, s.φ b = some M → M.c < s.W.heap.size := fun b M e => (hI.rh.dom b M e).2
    refine done_inv hg hI hr hn hp (φ' := s.φ.add (s.ids x.i) Lx) hgr (hI.rh.exec hpx.hi hnone hpx.lv h2) (hI.fm.exec hpx.lo hnone hpx.lv) (h3 _ hgr Mp.add_self) ?_ ?_ (fun k ow => own_exec hpx.lv ow) ?_
    · intro y hy hyi
      have : s.ids y.i ≠ s.ids x.i := hI.pids y hy x hx1 (by rw [hx2]; exact hyi)
      unfold Mp.add; rw [if_neg this]
    · intro k o2 h
      show (s.W.heap.push o')[k]? = some o2
      rw [Array.getElem?_push]
      have : k < s.W.heap.size := (Array.getElem?_eq_some_iff.1 h).1
      rw [if_neg (by omega)]; exact h
    · intro y hy hyi
      have hyx : y.i = x.i := by rw [hyi, hx2]
      refine ⟨Lx, o', by rw [hyx]; exact Mp.add_self, ?_, fun ow => ?_, ?_, h4, fun b f M q1 q2 => ?_, fun z hz hzi Lz hLz => ?_⟩
      · show (s.W.heap.push o')[Lx.c]? = some o'
        rw [h2]; simp
      · obtain ⟨b, M, _, em, hc⟩ := own_exec hpx.lv ow
        have := hsz b M em; omega
      · rw [h2]; exact hI.fm.size
      · have := hsz b M (hI.rh.ro_old hgr q1 q2); omega
      · have hzx : s.ids z.i ≠ s.ids x.i := hI.pids z hz x hx1 (by rw [← hyx]; exact hzi)
        unfold Mp.add at hLz
        rw [if_neg hzx] at hLz
        have := hsz _ _ hLz; omega
  · have key : ∀ w, (r.R s.φ w) → ∃ s', Inv g s' ∧ s'.rem = s.rem ∧ s'.D = setB s.D r.d.i ∧ s'.a = s.a.put r.d.o.dst w ∧ s'.W = s.W := fun w hR =>
      done_inv hg hI hr hn hp (φ' := s.φ) (W' := s.W) (Gro.refl _) hI.rh hI.fm hR (fun _ _ _ => rfl) (fun _ _ h => h) (fun _ h => h) fun x hx1 hx2 => absurd hx2 (hnp x hx1)
    refine ⟨fun hw => ?_, fun hw => ?_⟩
    · obtain ⟨φr', hx', hh⟩ := hI.hg r hr hef
      exact key undef (hh s.φ s.a hx' hG hst hw)
    · rcases hu with hu | ⟨_, hu, _⟩
      · obtain ⟨w, h1, h2⟩ := hu s.φ s.a s.W hx hG hst hw
        exact ⟨w, s.W, h1, key w h2⟩
      · obtain ⟨w, h1, h2⟩ := hu s.φ s.a s.W s.h.next hx hG hI.rh.rd hst hw
        exact ⟨w, s.W, h1, key w h2⟩
end
end Eng

/- Drawn regions: an effect; the end; all of them. -/
namespace Eng
open Go

section
variable {P : Program} {S : Sym} {c : Cx} {K : Eng.K} {φ0 φ : Mp} {h : H} {W : World} {outs : List (V × H)} {f : FT} {l : List V} {env : Env} {a : Act} {L : Ls} {rest : RCode}

theorem co_ans (hC : CtxA P S c K φ0) (hG : GOK c.sy.ng φ) (rh : RH S c.ty φ h W.heap) {o : Oper} {co : CO} {D : Dst} (hO : OpsR S φ c env l.length f l a o.op.operands.toList) (hco : cOp c env l.length o = some co) (hk : co.k ≠ 0)
    (hr : stepOf co D rest K L f l h = some outs) : ∃ ol, MuA P S c.ty φ h W ol o a ∧ ∀ v h', (v, h') ∈ ol → ∃ outs', D v f l (fun f l => rest K L f l h') = some outs' ∧ ∀ x ∈ outs', x ∈ outs := by
  cases co with
  | rd b r => exact absurd rfl hk
  | al al =>
    obtain ⟨p, h1, hr⟩ := ob_eq.1 hr
    obtain ⟨ob', mk⟩ := p
    replace hr : newO h ob' (fun b h => D (mk b) f l fun f l => rest K L f l h) = some outs := hr
    rw [newO_eq] at hr
    obtain ⟨w, o', Lc, k, h2, h3, h4⟩ := al_sound (P := P) (W := W) hC.ty hO hco h1
    have hx := Mp.ext_add (L := Lc) rh.fresh
    obtain ⟨h5, h6⟩ := h4 (φ.add h.next Lc) env l.length f l al ob' mk h.next hco (fun x hxm e he v hv => VR.mono hx (hO x hxm e he v hv)) h1 Mp.add_self
    refine ⟨[(mk h.next, ⟨h.next + 1, h.t.set h.next ob'⟩)], fun next Q hn => wp_value h2 (hn w _ ⟨_, _, φ.add h.next Lc, by simp, h6, rh.new h3 h5, Fr.new rh h3 rfl rfl rfl rfl⟩), fun v h' hm => ?_⟩
    simp at hm
    obtain ⟨rfl, rfl⟩ := hm
    exact ⟨outs, hr, fun _ hx => hx⟩
  | ef e =>
    obtain ⟨p, h1, hr⟩ := ob_eq.1 hr
    obtain ⟨v, h'⟩ := p
    refine ⟨[(v, h')], ef_sound hC.ty rh hO hco h1, fun v2 h2 hm => ?_⟩
    simp at hm
    obtain ⟨rfl, rfl⟩ := hm
    exact ⟨outs, hr, fun _ hx => hx⟩
  | mu m =>
    obtain ⟨os, h1, hr⟩ := ob_eq.1 hr
    exact ⟨os, mu_sound hC.k hG hC.ms rh hO hco h1, fun v h' hm => eachR_sub hr hm⟩

theorem alias_cl {o : Oper} {p : Ent × Bool} (h : aliasOf c env o = some p) : clOf c o = .rd false := by
  obtain ⟨e, chk⟩ := p
  obtain ⟨hg, _⟩ := alias_dst h
  obtain ⟨dst, op, ty', pos, af, gu⟩ := o
  cases hg
  unfold aliasOf at h
  cases dst with
  | none => cases h
  | some d =>
    replace h := (gd_eq.1 h).2
    rcases bc_eq.1 h with ⟨_, h⟩ | ⟨_, h⟩
    · cases op <;> first | rfl | cases h
    · cases h
theorem kept_cl {o : Oper} {p : Nat × Operand} (h : keptMove c o = some p) : clOf c o = .rd false := by
  obtain ⟨dst, op, ty', pos, af, gu⟩ := o
  unfold keptMove at h
  cases gu with
  | some g => cases h
  | none =>
    cases dst with
    | none => cases h
    | some d =>
      obtain ⟨_, h⟩ := gd_eq.1 h
      cases op <;> first | rfl | cases h
end

section
variable {g : Rg} {s : Sm}

/-- Behind an effect. -/
theorem ef_post (hg : RgOK g) (hI : Inv g s) {e : DOp} {rem' : List DOp} (hrem : s.rem = e :: rem') (he : isEf e = true) (hp : ∀ i, e.b.testBit i = true → s.D i = true) (hf1 : freeOf g.all e.o.dst s.pend = true) (hf2 : freeOf g.all e.o.dst s.reads = true)
    {D : Dst} (hD : dstOf g.c e.o.dst = some D) {rst rst2 : RCode}
    (h4 : dOps g.c g.all g.fin rem' (envAfter g.c s.env s.l.length e.o.dst false e.o.type) (lenAfter s.l.length e.o.dst) (selD (fun x => notB (bitN e.b x.i)) s.pend) (selD (fun x => notB (bitN e.b x.i)) s.reads) = some rst)
    (h5 : againAll g.c g.all (envAfter g.c s.env s.l.length e.o.dst false e.o.type) (lenAfter s.l.length e.o.dst) (selD (fun x => notB (bitN e.b x.i)) s.reads) rst = some rst2)
    {h1 : H} (hfm1 : Fr g.φ0 g.h0 g.W0 s.φ h1 s.W) (hn1 : h1.next = s.h.next) (hl1 : ∀ b, Live h1 b → Live s.h b ∨ ∃ x ∈ selD (fun x => bitN e.b x.i) s.pend, b = s.ids x.i)
    (ho1 : ∀ k, Own s.φ h1 k → Own s.φ s.h k ∨ ∃ x ∈ selD (fun x => bitN e.b x.i) s.pend, ∃ Lx, s.φ (s.ids x.i) = some Lx ∧ Lx.c = k)
    {v : V} {w : Value} {φ' : Mp} {h' : H} {W' : World} (hv : VR g.S φ' v w) (rh : RH g.S g.c.ty φ' h' W'.heap) (fr : Fr s.φ h1 s.W φ' h' W') {outs : List (V × H)} (hr : D v s.f s.l (fun f l => rst2 g.K g.L f l h') = some outs) (hsub : ∀ x ∈ outs, x ∈ g.OUT) :
    ∃ s', Inv g s' ∧ s'.D = setB s.D e.i ∧ s'.a = s.a.put e.o.dst w ∧ s'.W = W' := by
  have hss : g.ss = s.rs.map (·.d) ++ e :: rem' := by rw [hI.split, hrem]
  have hap := hg.hS.apart hss
  have hess : e ∈ g.ss := by rw [hss]; simp
  have hne : ∀ r0 ∈ s.rs, r0.d.i ≠ e.i := fun r0 h => hap.1 r0.d (List.mem_map.2 ⟨r0, h, rfl⟩)
  have hDe : s.D e.i = false := hI.rem0 e (by rw [hrem]; simp)
  have hpne : ∀ x ∈ s.pend, x.i ≠ e.i := fun x hx => by
    obtain ⟨r0, k1, rfl⟩ := hI.pend_rs hx
    exact hne r0 k1
  obtain ⟨f', l', k1, k2, k3⟩ := dst_cases (v := v) (k := fun f l => rst2 g.K g.L f l h') hD hg.dp hr
  rw [← k2] at h4 h5
  obtain ⟨k4, k5⟩ := again_sound hg.hC _ _ h5 k1
  let r : Rec := ⟨e, s.env, s.f, s.l, envAfter g.c s.env s.l.length e.o.dst false e.o.type, f', l', fun φ w => VR g.S φ v w⟩
  have hok : RecOK g.S g.c r := dstR_ok k3 (fun φ φ' w hx hr => VR.mono hx hr) fun φ w hr => ⟨hr, fun h => by cases h⟩
  let s' : Sm := { s with D := setB s.D e.i, val := setVal s.val e.i w, φ := φ', h := h', W := W', a := s.a.put e.o.dst w, rs := s.rs ++ [r], rem := rem', env := envAfter g.c s.env s.l.length e.o.dst false e.o.type, f := f', l := l', pend := selD (fun x => notB (bitN e.b x.i)) s.pend, reads := selD (fun x => notB (bitN e.b x.i)) s.reads }
  have hsel : ∀ x : DOp, x ∈ selD (fun x => notB (bitN e.b x.i)) s.pend ↔ x ∈ s.pend ∧ e.b.testBit x.i = false := by
    intro x
    rw [mem_selD, bitN_eq]; simp
  have hselr : ∀ x : DOp, x ∈ selD (fun x => notB (bitN e.b x.i)) s.reads ↔ x ∈ s.reads ∧ e.b.testBit x.i = false := by
    intro x
    rw [mem_selD, bitN_eq]; simp
  have hsel2 : ∀ x : DOp, x ∈ selD (fun x => bitN e.b x.i) s.pend ↔ x ∈ s.pend ∧ e.b.testBit x.i = true := by
    intro x
    rw [mem_selD, bitN_eq]
  have hkeeps : EnvKeeps r.d.o.dst s.env r.env' := after_keeps
  have hundb : ∀ i, s.D i = false → e.b.testBit i = false := fun i hi => by
    cases h : e.b.testBit i with
    | false => rfl
    | true => rw [hp i h] at hi; cases hi
  have hpf : ∀ x ∈ s.pend, ∀ t, r.d.o.dst = some t → t ∉ namesOf g.all x.o := fun x hx t ht => freeOf_at hf1 ht hx
  have hrf : ∀ x ∈ s.reads, ∀ t, r.d.o.dst = some t → t ∉ namesOf g.all x.o := fun x hx t ht => freeOf_at hf2 ht hx
  have hφ : ∀ x ∈ s.pend, φ' (s.ids x.i) = s.φ (s.ids x.i) := fun x hx => fr.old _ (by rw [hn1]; exact (hI.pnd x hx).hi)
  have hown1 : ∀ x ∈ s.pend, e.b.testBit x.i = false → ∀ Lx, s.φ (s.ids x.i) = some Lx → ¬ Own s.φ s.h Lx.c → ¬ Own s.φ h1 Lx.c := by
    intro x hx hb Lx hLx hno ow
    rcases ho1 _ ow with ow | ⟨y, hy, Ly, hLy, hc⟩
    · exact hno ow
    · obtain ⟨hy1, hy2⟩ := (hsel2 y).1 hy
      have : y.i ≠ x.i := fun h => by rw [h, hb] at hy2; cases hy2
      exact hI.plocs y hy1 x hx this Ly Lx hLy hLx hc
  refine ⟨s', ⟨?_, ?_, ?_, ⟨rst, outs, h4, k4, hsub⟩, rh, hfm1.trans fr, hI.gs.trans fr.ext, by show (s.a.put e.o.dst w).tmps.size = _; rw [put_size]; exact hI.sz, by show (s.a.put e.o.dst w).defers = _; rw [put_defers]; exact hI.df, ?_, ?_, ?_, ?_, ?_, ?_, ?_, ?_, ?_, ?_, ?_⟩, rfl, rfl, rfl⟩
  · show g.ss = (s.rs ++ [r]).map (·.d) ++ rem'
    rw [hss]; simp [r]
  · exact Chain.snoc (_r := r) hI.chain
  · intro x hx
    rcases List.mem_append.1 hx with hx | hx
    · exact hI.ok x hx
    · simp at hx; subst hx; exact hok
  · intro t
    show slotV (s.a.put e.o.dst w) t = slotV (runD (setB s.D e.i) (setVal s.val e.i w) ((s.rs ++ [r]).map (·.d)) g.a0) t
    have := runD_done (l1 := s.rs.map (·.d)) (l2 := []) (d := e) (w := w) (hI.a0 hg) (fun t => by rw [List.append_nil]; exact hI.slots t) (fun t ht => by rw [hg.st0.sz]; exact hok.lt t ht) hap.1 (fun x hx => by cases hx) (fun x hx => by cases hx) t
    rw [this, List.map_append]; rfl
  · intro d hd hDd i hi
    show setB s.D e.i i = true
    by_cases hdi : d.i = e.i
    · have := hg.hS.inj hd hess hdi
      subst this
      exact setB_mono (hp i hi)
    · have hDd : setB s.D e.i d.i = true := hDd
      rw [setB_ne hdi] at hDd
      exact setB_mono (hI.dc d hd hDd i hi)
  · intro d hd
    show setB s.D e.i d.i = false
    rw [setB_ne (hap.2 d hd)]; exact hI.rem0 d (by rw [hrem]; exact List.mem_cons_of_mem _ hd)
  · intro x hx hef
    rcases List.mem_append.1 hx with hx | hx
    · exact setB_mono (hI.effs x hx hef)
    · simp at hx; subst hx; exact setB_self
  · intro x hx hDx
    show x.R φ' (setVal s.val e.i w x.d.i)
    rcases List.mem_append.1 hx with hx | hx
    · have hDx : setB s.D e.i x.d.i = true := hDx
      rw [setB_ne (hne x hx)] at hDx
      rw [setVal_ne (hne x hx)]
      exact (hI.ok x hx).mono _ _ _ fr.ext (hI.vals x hx hDx)
    · simp at hx; subst hx
      rw [setVal_self]; exact hv
  · intro x hx hef
    rcases List.mem_append.1 hx with hx | hx
    · obtain ⟨φr, q1, q2⟩ := hI.hg x hx hef
      exact ⟨φr, q1.trans fr.ext, q2⟩
    · simp at hx; subst hx
      have hef : isEf e = false := hef
      rw [he] at hef; cases hef
  · intro x hx hDx
    have hDx : setB s.D e.i x.d.i = false := hDx
    rcases List.mem_append.1 hx with hx | hx
    · rw [setB_ne (hne x hx)] at hDx
      obtain ⟨φr, q1, q2⟩ := hI.und x hx hDx
      refine ⟨φr, q1.trans fr.ext, ?_⟩
      rcases q2 with ⟨⟨y, hy1, hy2⟩, hay⟩ | ⟨hnp, hu⟩
      · exact .inl ⟨⟨y, (hsel y).2 ⟨hy1, by rw [hy2]; exact hundb _ hDx⟩, hy2⟩, hay⟩
      · refine .inr ⟨fun y hy => hnp y ((hsel y).1 hy).1, ?_⟩
        rcases hu with hu | ⟨u1, u2, u3, v0, u4, u5⟩
        · exact .inl hu
        · have hmr := (hselr x.d).2 ⟨u1, hundb _ hDx⟩
          have hpt : PT g.S g.c g.all x s'.env s'.f s'.l := u3.keep hok rfl rfl rfl rfl rfl rfl (hrf _ u1)
          have hlf : LF x.d v0 s'.env s'.l := u5.keep hkeeps k3.grow fun t ht hd => hrf _ u1 t hd ((namesOf_eq _ _ _).2 (.inl ht))
          exact .inr ⟨hmr, k5 x hmr hpt ⟨v0, u4, hlf⟩ φr, hpt, v0, u4, hlf⟩
    · simp at hx; subst hx
      have hDx : setB s.D e.i e.i = false := hDx
      rw [setB_self] at hDx; cases hDx
  · intro x hx
    obtain ⟨hx1, hx2⟩ := (hsel x).1 hx
    have hpx := hI.pnd x hx1
    refine hpx.keep (s' := s') hok rfl rfl rfl rfl rfl rfl rfl (hpf x hx1) hkeeps k3.grow rfl (by rw [← hn1]; exact fr.next) (fun lb => ?_) (setB_ne (hpne x hx1)) (hφ x hx1) (fun Lx o' q1 q2 q3 => ?_) (fun t ht => ?_) fun b f M q1 q2 => hI.rh.ro_old fr.ext q1 q2
    · have hlt : s.ids x.i < h1.next := by rw [hn1]; exact hpx.hi
      rcases hl1 _ (fr.lv _ hlt lb) with lb | ⟨y, hy, heq⟩
      · exact lb
      · obtain ⟨hy1, hy2⟩ := (hsel2 y).1 hy
        have : x.i ≠ y.i := fun h => by rw [← h, hx2] at hy2; cases hy2
        exact absurd heq (hI.pids x hx1 y hy1 this)
    · have hlt : Lx.c < s.W.heap.size := (Array.getElem?_eq_some_iff.1 q2).1
      obtain ⟨u1, u2⟩ := fr.keep _ hlt (hown1 x hx1 hx2 Lx q1 q3)
      exact ⟨u1.trans q2, u2⟩
    · exact slot_put_ne fun hd => hpf x hx1 t hd ((namesOf_eq _ _ _).2 (.inr ht))
  · show (selD (fun x => notB (bitN e.b x.i)) s.pend).Pairwise _
    rw [selD_eq]
    exact hI.pw.filter _
  · intro x hx y hy
    exact hI.pids x ((hsel x).1 hx).1 y ((hsel y).1 hy).1
  · intro x hx y hy hxy Lx Ly q1 q2
    have q1 : φ' (s.ids x.i) = some Lx := q1
    have q2 : φ' (s.ids y.i) = some Ly := q2
    rw [hφ x ((hsel x).1 hx).1] at q1
    rw [hφ y ((hsel y).1 hy).1] at q2
    exact hI.plocs x ((hsel x).1 hx).1 y ((hsel y).1 hy).1 hxy Lx Ly q1 q2

/-- What is kept back and made may be laid. -/
theorem Inv.lay (hg : RgOK g) (hI : Inv g s) {p : DOp → Bool} (hp : ∀ x ∈ s.pend, p x = true → s.D x.i = true) {X code : RCode} {outs : List (V × H)} (hc : layAll g.c s.env s.l.length (selD p s.pend) X = some code) (hr : code g.K g.L s.f s.l s.h = some outs) :
    ∃ h1, X g.K g.L s.f s.l h1 = some outs ∧ RH g.S g.c.ty s.φ h1 s.W.heap ∧ Fr g.φ0 g.h0 g.W0 s.φ h1 s.W ∧ h1.next = s.h.next ∧ (∀ b, Live h1 b → Live s.h b ∨ ∃ x ∈ selD p s.pend, b = s.ids x.i) ∧
      (∀ k, Own s.φ h1 k → Own s.φ s.h k ∨ ∃ x ∈ selD p s.pend, ∃ Lx, s.φ (s.ids x.i) = some Lx ∧ Lx.c = k) := by
  have hmem : ∀ x ∈ selD p s.pend, x ∈ s.pend ∧ s.D x.i = true := fun x hx => by
    obtain ⟨q1, q2⟩ := mem_selD.1 hx
    exact ⟨q1, hp x q1 q2⟩
  refine lay_sound (all := g.all) (ids := s.ids) (hI.gok hg) _ code s.h hc hr hI.rh hI.fm (fun x hx => ?_) (fun x hx => (hI.pnd x (hmem x hx).1).lv) (fun x hx Lx hLx => ?_) ?_
  · obtain ⟨q1, q2⟩ := hmem x hx
    have hpx := hI.pnd x q1
    obtain ⟨Lx, o', ax, g1, g2, g3, g4, g5, g6, g7, g8⟩ := hpx.dn q2
    exact ⟨hpx.lo, hpx.hi, hpx.lf, ⟨Lx, o', ax, g1, g2, g4, (hI.kept hg q1 q2).congr g6 (by rw [g5, hI.sz]), g7, g8⟩⟩
  · obtain ⟨q1, q2⟩ := hmem x hx
    obtain ⟨Lx', o', ax, g1, g2, g3, _⟩ := (hI.pnd x q1).dn q2
    rw [g1] at hLx; cases hLx
    exact g3
  · rw [selD_eq]
    refine (hI.pw.filter _).imp_of_mem fun hx hy hne => ?_
    have hx := (List.mem_filter.1 hx).1
    have hy := (List.mem_filter.1 hy).1
    exact ⟨hI.pids _ hx _ hy hne, fun Lx Ly q1 q2 => hI.plocs _ hx _ hy hne Lx Ly q1 q2⟩

theorem ef_step (hg : RgOK g) (hI : Inv g s) {e : DOp} {rem' : List DOp} (hrem : s.rem = e :: rem') (he : isEf e = true) (hp : ∀ i, e.b.testBit i = true → s.D i = true) :
    (wantD g.all e s.a = false → ∃ s', Inv g s' ∧ s'.D = setB s.D e.i ∧ s'.a = s.a.put e.o.dst undef ∧ s'.W = s.W) ∧
    (wantD g.all e s.a = true → ∀ (next : Act → World → Prop) (Q : Exit → Act → World → Prop), (∀ w s', Inv g s' → s'.D = setB s.D e.i → s'.a = s.a.put e.o.dst w → next s'.a s'.W) → e.o.wp g.P s.a s.W next Q) := by
  obtain ⟨code, outs, hc, hr, hsub⟩ := hI.code
  rw [hrem] at hc
  have hss : g.ss = s.rs.map (·.d) ++ e :: rem' := by rw [hI.split, hrem]
  have hess : e ∈ g.ss := by rw [hss]; simp
  have hcl := hg.cl e hess
  have hcle : e.cl = .ef := by
    unfold isEf at he
    cases h : e.cl with
    | ef => rfl
    | _ => rw [h] at he; cases he
  have hG := hI.gok hg
  have hst : RSt g.S s.φ g.c (Lk g.all e) s.env s.f s.l s.a := hI.cur hg fun t ht r hr hd =>
    hp _ (hg.hS.fore hss (List.mem_map.2 ⟨r, hr, rfl⟩) hd ((namesOf_eq _ _ _).2 (.inr ht)))
  have hc : gd (freeOf g.all e.o.dst s.pend) (gd (freeOf g.all e.o.dst s.reads) (match aliasOf g.c s.env e.o with
    | some (e', chk) => ob (dOps g.c g.all g.fin rem' (e' :: s.env) s.l.length s.pend s.reads) fun rest => Bool.casesOn chk (some rest) (ob (evSrc g.c s.l.length e'.s) fun x => some (sP x rest))
    | none => match keptMove g.c e.o with
      | some (t, x) => ob (opE g.c s.env s.l.length x) fun x => ob (updOf g.c.d t) fun u => gd (Nat.blt t g.c.n) (ob (dOps g.c g.all g.fin rem' (⟨t, .ft t, false, 0⟩ :: killE t s.env) s.l.length s.pend s.reads) fun rest => some (sG x u rest))
      | none =>
        match e.cl with
        | .rd _ => ob (cOp g.c s.env s.l.length e.o) fun co => match co with
          | .rd heap r => ob (dstOf g.c e.o.dst) fun dst => ob (guardOf g.c s.env s.l.length g.all e.o.guard) fun gu => fN (lenAfter s.l.length e.o.dst) fun m =>
            ob (dOps g.c g.all g.fin rem' (envAfter g.c s.env s.l.length e.o.dst false e.o.type) m s.pend (Bool.casesOn heap s.reads (e :: s.reads))) fun rest => some (guarded gu dst (sR r dst rest) rest)
          | _ => none
        | .al => ob (cOp g.c s.env s.l.length e.o) fun co => match co with
          | .al a => match e.o.guard with
            | some _ => none
            | none => ob (dstOf g.c e.o.dst) fun dst => fN (lenAfter s.l.length e.o.dst) fun m =>
              ob (dOps g.c g.all g.fin rem' (envAfter g.c s.env s.l.length e.o.dst (isNew e.o) e.o.type) m (e :: s.pend) s.reads) fun rest => some (sRes a dst rest)
          | _ => none
        | .ef => ob (cOp g.c s.env s.l.length e.o) fun co => ob (dstOf g.c e.o.dst) fun dst => ob (guardOf g.c s.env s.l.length g.all e.o.guard) fun gu => fN (lenAfter s.l.length e.o.dst) fun m => match envAfter g.c s.env s.l.length e.o.dst false e.o.type with
          | env' => ob (dOps g.c g.all g.fin rem' env' m (selD (fun x => notB (bitN e.b x.i)) s.pend) (selD (fun x => notB (bitN e.b x.i)) s.reads)) fun rest =>
            ob (againAll g.c g.all env' m (selD (fun x => notB (bitN e.b x.i)) s.reads) rest) fun rest =>
            ob (match co with
              | .ef e => some (sE e dst rest)
              | .mu k => some (sM k dst rest)
              | .al a => some (sA a dst rest)
              | _ => none) fun yes => layAll g.c s.env s.l.length (selD (fun x => bitN e.b x.i) s.pend) (guarded gu dst yes rest))) = some code := hc
  obtain ⟨hf1, hc⟩ := gd_eq.1 hc
  obtain ⟨hf2, hc⟩ := gd_eq.1 hc
  split at hc
  · rename_i hal
    rw [hcl, alias_cl hal] at hcle; cases hcle
  split at hc
  · rename_i hkm
    rw [hcl, kept_cl hkm] at hcle; cases hcle
  split at hc
  · rename_i h; rw [h] at hcle; cases hcle
  · rename_i h; rw [h] at hcle; cases hcle
  obtain ⟨co, h1, hc⟩ := ob_eq.1 hc
  obtain ⟨D, h2, hc⟩ := ob_eq.1 hc
  obtain ⟨gu, h3, hc⟩ := ob_eq.1 hc
  rw [fN_eq] at hc
  obtain ⟨rst, h4, hc⟩ := ob_eq.1 hc
  obtain ⟨rst2, h5, hc⟩ := ob_eq.1 hc
  obtain ⟨yes, h6, hc⟩ := ob_eq.1 hc
  obtain ⟨hh, l1, l2, l3, l4, l5, l6⟩ := hI.lay hg (fun x _ hx => hp _ (by rw [← bitN_eq]; exact hx)) hc hr
  have post := @ef_post g s hg hI e rem' hrem he hp hf1 hf2 D h2 rst rst2 h4 h5 hh l3 l4 l5 l6
  have hyes : yes = stepOf co D rst2 ∧ co.k ≠ 0 := by
    cases co with
    | rd b r => cases h6
    | al a => cases h6; exact ⟨rfl, by simp [CO.k]⟩
    | ef a => cases h6; exact ⟨rfl, by simp [CO.k]⟩
    | mu a => cases h6; exact ⟨rfl, by simp [CO.k]⟩
  have dowith : yes g.K g.L s.f s.l hh = some outs → ∀ (next : Act → World → Prop) (Q : Exit → Act → World → Prop), (∀ w s', Inv g s' → s'.D = setB s.D e.i → s'.a = s.a.put e.o.dst w → next s'.a s'.W) → e.o.wp g.P s.a s.W next Q := by
    intro hy next Q hn
    rw [hyes.1] at hy
    obtain ⟨ol, m1, m2⟩ := co_ans (P := g.P) (a := s.a) hg.hC hG l2 (hst.ops hG e.o.op.operands.toList fun t ht => lk_op ht) h1 hyes.2 hy
    refine m1 next Q ?_
    rintro w W' ⟨v, h', φ', hm, q1, q2, q3⟩
    obtain ⟨outs', q4, q5⟩ := m2 v h' hm
    obtain ⟨s', p1, p2, p3, p4⟩ := post q1 q2 q3 q4 fun x hx => hsub x (q5 x hx)
    have := hn w s' p1 p2 p3
    rw [p3, p4] at this
    exact this
  cases gu with
  | none =>
    have hg0 := guard_none h3
    exact ⟨(fun h => by rw [show wantD g.all e s.a = true from wanted_none hg0] at h; cases h), fun _ => dowith l1⟩
  | some p =>
    obtain ⟨x, y⟩ := p
    obtain ⟨gv, g1, l1⟩ := ob_eq.1 l1
    obtain ⟨b, g2, l1⟩ := ob_eq.1 l1
    have hw := guard_want hG hst h3 g1 g2
    cases b with
    | true => exact ⟨(fun h => by rw [hw] at h; cases h), fun _ => dowith l1⟩
    | false =>
      refine ⟨fun _ => ?_, (fun h => by rw [hw] at h; cases h)⟩
      exact post (v := undefV) (w := undef) (φ' := s.φ) (h' := hh) (W' := s.W) undef_vr l2 (Fr.refl _ _ _) l1 hsub
end
end Eng

/- Drawn regions: in whatever order the model takes them, the engine has said what comes. -/
namespace Eng
open Go

section
variable {g : Rg} {s : Sm}

/-- All is done. -/
theorem finish (hg : RgOK g) (hI : Inv g s) (hall : ∀ d ∈ g.ss, s.D d.i = true) {Q : Exit → Act → World → Prop}
    (hfin : ∀ f l h outs a W φ, g.fin g.K g.L f l h = some outs → (∀ x ∈ outs, x ∈ g.OUT) → StA g.S g.c g.φ0 g.h0 g.W0 φ f h a W → Q .normal a W) : Q .normal s.a s.W := by
  have hrem : s.rem = [] := by
    cases h : s.rem with
    | nil => rfl
    | cons d t =>
      have h1 := hI.rem0 d (by rw [h]; simp)
      rw [hall d (by rw [hI.split, h]; simp)] at h1; cases h1
  obtain ⟨code, outs, hc, hr, hsub⟩ := hI.code
  rw [hrem] at hc
  have hc : layAll g.c s.env s.l.length s.pend g.fin = some code := hc
  have hpall : ∀ x ∈ s.pend, s.D x.i = true := fun x hx => by
    obtain ⟨r, h1, rfl⟩ := hI.pend_rs hx
    exact hall r.d (hI.mem h1)
  have hsel : selD (fun _ => true) s.pend = s.pend := by rw [selD_eq]; simp
  rw [← hsel] at hc
  obtain ⟨hh, l1, l2, l3, _⟩ := hI.lay hg (p := fun _ => true) (fun x hx _ => hpall x hx) hc hr
  have hst := hI.cur hg (X := fun _ => True) fun t _ r hr _ => hall r.d (hI.mem hr)
  exact hfin s.f s.l hh outs s.a s.W s.φ l1 hsub ⟨hst.fr, l2, l3, hI.sz, hI.df⟩

theorem asap_suffix : ∀ {u v : List DOp}, asapOk (u ++ v) = true → asapOk v = true
  | [], v, h => h
  | x :: u, v, h => by
    have h : (Bool.casesOn (isEf x) (asapOk (u ++ v)) (Bool.casesOn (asapOk.waits (bitsOf (selD isEf (x :: (u ++ v)))) (u ++ v)) false (asapOk (u ++ v))) : Bool) = true := h
    cases hx : isEf x with
    | false => rw [hx] at h; exact asap_suffix h
    | true =>
      rw [hx] at h
      cases hw : asapOk.waits (bitsOf (selD isEf (x :: (u ++ v)))) (u ++ v) with
      | false => rw [hw] at h; cases h
      | true => rw [hw] at h; exact asap_suffix h

/-- Who is ready and not passed yet is the effect that stands next. -/
theorem rem_head (hg : RgOK g) (hI : Inv g s) (hset : Settled s) {d : DOp} (hd : d ∈ s.rem) (hp : ∀ i, d.b.testBit i = true → s.D i = true) : ∃ t, s.rem = d :: t ∧ isEf d = true := by
  rcases hset with h | ⟨e, t, h, he⟩
  · rw [h] at hd; cases hd
  · have hss : g.ss = s.rs.map (·.d) ++ e :: t := by rw [hI.split, h]
    have hno : ∀ x ∈ s.rem, d.b.testBit x.i = true → False := fun x hx hb => by
      have := hp _ hb
      rw [hI.rem0 x hx] at this; cases this
    cases hde : isEf d with
    | true =>
      rw [h] at hd
      rcases List.mem_cons.1 hd with rfl | hd'
      · exact ⟨t, h, rfl⟩
      · exfalso
        have hap := hg.hS.apart hss
        have hne := hap.2 d hd'
        rcases hg.hS.effs d (by rw [hss]; simp [hd']) e (by rw [hss]; simp) hde he hne with hb | hb
        · exact hno e (by rw [h]; simp) hb
        · obtain ⟨y, hy, hyi⟩ := (hg.hS.topo _ _ _ hss).1 _ hb
          obtain ⟨u1, u2, rfl⟩ := List.append_of_mem hd'
          have hss2 : g.ss = (s.rs.map (·.d) ++ e :: u1) ++ d :: u2 := by rw [hss]; simp
          exact (hg.hS.apart hss2).1 y (List.mem_append.2 (.inl hy)) hyi
    | false =>
      exfalso
      have has : asapOk s.rem = true := asap_suffix (u := s.rs.map (·.d)) (by rw [← hI.split]; exact hg.hS.asap)
      rcases asapOk_at has d hd hde with ⟨x, hx, _, hb⟩ | htw
      · exact hno x hx hb
      · rw [h, List.takeWhile_cons, he] at htw
        simp at htw

theorem all_listed (hg : RgOK g) {D : Nat → Bool} (hst : ∀ d ∈ g.ss, (∀ e ∈ d.o.after.toList, bindsB e = true → D e.on = true) → D d.i = true) : ∀ n, ∀ d ∈ g.ss, d.i < n → D d.i = true
  | 0, d, _, h => by omega
  | n + 1, d, hd, h => by
    refine hst d hd fun e he hb => ?_
    have hlt := hg.hS.edges d hd e he hb
    have : e.on < g.all.length := Nat.lt_trans hlt (List.getElem?_eq_some_iff.1 (hg.hS.at_ d hd)).1
    obtain ⟨d', h1, h2⟩ := hg.hS.idx e.on _ (List.getElem?_eq_getElem this)
    rw [← h2]
    exact all_listed hg hst n d' h1 (by omega)

theorem sim (hg : RgOK g) {Q : Exit → Act → World → Prop}
    (hfin : ∀ f l h outs a W φ, g.fin g.K g.L f l h = some outs → (∀ x ∈ outs, x ∈ g.OUT) → StA g.S g.c g.φ0 g.h0 g.W0 φ f h a W → Q .normal a W) :
    ∀ (fuel : Nat) (listed : Array Bool) (s : Sm) (todo : List Nat), Inv g s → Settled s → listed.size = g.all.length → (∀ j, j < g.all.length → listed.getD j false = s.D j) → (∀ j, j < g.all.length → s.D j = false → j ∈ todo) → todo.length ≤ fuel →
      wpAny g.P .any g.all.toArray Q fuel listed s.a s.W := by
  intro fuel
  induction fuel with
  | zero =>
    intro listed s todo hI hset hsz hl htd hlen
    have hnil : todo = [] := List.length_eq_zero_iff.1 (by omega)
    have hdone : ∀ j, j < g.all.length → s.D j = true := fun j hj => by
      cases h : s.D j with
      | true => rfl
      | false => have := htd j hj h; rw [hnil] at this; cases this
    refine ⟨?_, finish hg hI (fun d hd => hdone _ (List.getElem?_eq_some_iff.1 (hg.hS.at_ d hd)).1) hfin⟩
    cases hr : Region.ready .any g.all.toArray listed with
    | nil => rfl
    | cons j t =>
      have hj : j ∈ Region.ready .any g.all.toArray listed := by rw [hr]; simp
      obtain ⟨h1, o, ho, _⟩ := mem_ready.1 hj
      have hjlt : j < g.all.length := by
        have := (Array.getElem?_eq_some_iff.1 ho).1
        simpa using this
      have h2 := hl j hjlt
      rw [hdone j hjlt] at h2
      have hjs : j < listed.size := by omega
      simp [hjs] at h1 h2
      rw [h1] at h2; cases h2
  | succ fuel ih =>
    intro listed s todo hI hset hsz hl htd hlen
    have hD : ∀ j, j < g.all.length → listed.getD j true = s.D j := fun j hj => by
      have := hl j hj
      have hjs : j < listed.size := by omega
      simp [hjs] at this ⊢
      exact this
    refine ⟨fun hnil => ?_, fun i hi => ?_⟩
    · refine finish hg hI (fun d hd => ?_) hfin
      have hlt := (List.getElem?_eq_some_iff.1 (hg.hS.at_ d hd)).1
      refine all_listed hg (D := s.D) (fun x hx hpre => ?_) (d.i + 1) d hd (by omega)
      cases hx0 : s.D x.i with
      | true => rfl
      | false =>
        exfalso
        have hxlt := (List.getElem?_eq_some_iff.1 (hg.hS.at_ x hx)).1
        have : x.i ∈ Region.ready .any g.all.toArray listed := by
          refine mem_ready.2 ⟨by rw [hD _ hxlt]; exact hx0, x.o, by simpa using hg.hS.at_ x hx, fun e he hb => ?_⟩
          rw [← bindsB_eq] at hb
          have hlt' := hg.hS.edges x hx e (by simpa using he) hb
          rw [hl e.on (by omega)]
          exact hpre e (by simpa using he) hb
        rw [hnil] at this; cases this
    · obtain ⟨h1, o, ho, hpre⟩ := mem_ready.1 hi
      have ho' : g.all[i]? = some o := by simpa using ho
      have hilt : i < g.all.length := (List.getElem?_eq_some_iff.1 ho').1
      have hDi : s.D i = false := by rw [← hD i hilt]; exact h1
      obtain ⟨d, hd, rfl⟩ := hg.hS.idx i o ho'
      have hdo : d.o = o := by have := hg.hS.at_ d hd; rw [ho'] at this; cases this; rfl
      have hp : ∀ j, d.b.testBit j = true → s.D j = true := by
        intro j hj
        obtain ⟨e, he, hb, hcase⟩ := hg.hS.bits d hd j hj
        have hlt := hg.hS.edges d hd e he hb
        have hon : s.D e.on = true := by
          rw [← hl e.on (by omega)]
          exact hpre e (by rw [← hdo]; simpa using he) (by rw [← bindsB_eq]; exact hb)
        rcases hcase with rfl | ⟨d', h2, h3, h4⟩
        · exact hon
        · exact hI.dc d' h2 (by rw [h3]; exact hon) j h4
      have hsz' : (listed.setIfInBounds d.i true).size = g.all.length := by simp [hsz]
      have hl' : ∀ (s' : Sm), s'.D = setB s.D d.i → ∀ j, j < g.all.length → (listed.setIfInBounds d.i true).getD j false = s'.D j := by
        intro s' hs' j hj
        rw [hs']
        by_cases hji : j = d.i
        · subst hji
          rw [setB_self]
          have : d.i < listed.size := by omega
          simp [this]
        · rw [setB_ne hji, getD_set_ne false (fun h => hji h.symm)]
          exact hl j hj
      have htd' : ∀ (s' : Sm), s'.D = setB s.D d.i → ∀ j, j < g.all.length → s'.D j = false → j ∈ todo.erase d.i := by
        intro s' hs' j hj hjD
        rw [hs'] at hjD
        by_cases hji : j = d.i
        · subst hji; rw [setB_self] at hjD; cases hjD
        · rw [setB_ne hji] at hjD
          exact (List.mem_erase_of_ne hji).2 (htd j hj hjD)
      have hlen' : (todo.erase d.i).length ≤ fuel := by
        rw [List.length_erase_of_mem (htd d.i hilt hDi)]
        omega
      have go : ∀ s', Inv g s' → s'.D = setB s.D d.i → wpAny g.P .any g.all.toArray Q fuel (listed.setIfInBounds d.i true) s'.a s'.W := by
        intro s' hI' hD'
        obtain ⟨s2, k1, k2, k3, k4, k5⟩ := settle hg s'.rem.length s' rfl hI'
        have := ih (listed.setIfInBounds d.i true) s2 (todo.erase d.i) k1 k2 hsz' (hl' s2 (k3.trans hD')) (htd' s2 (k3.trans hD')) hlen'
        rw [k4, k5] at this
        exact this
      have hwp : ∀ (hno : wantD g.all d s.a = false → ∃ s', Inv g s' ∧ s'.D = setB s.D d.i ∧ s'.a = s.a.put d.o.dst undef ∧ s'.W = s.W)
          (hyes : wantD g.all d s.a = true → d.o.wp g.P s.a s.W (wpAny g.P .any g.all.toArray Q fuel (listed.setIfInBounds d.i true)) Q), wpOp g.P g.all.toArray Q d.i (wpAny g.P .any g.all.toArray Q fuel (listed.setIfInBounds d.i true)) s.a s.W := by
        intro hno hyes
        unfold wpOp
        rw [ho, ← hdo]
        show (if wantD g.all d s.a = true then _ else _)
        cases hw : wantD g.all d s.a with
        | true => rw [if_pos rfl]; exact .inl (hyes hw)
        | false =>
          rw [if_neg (by simp)]
          obtain ⟨s', q1, q2, q3, q4⟩ := hno hw
          have := go s' q1 q2
          rw [q3, q4] at this
          exact this
      rw [hI.split] at hd
      rcases List.mem_append.1 hd with hd | hd
      · obtain ⟨r, hr, hrd⟩ := List.mem_map.1 hd
        subst hrd
        obtain ⟨hno, hyes⟩ := real_step hg hI hr hDi hp
        refine hwp (fun hw => ?_) (fun hw => ?_)
        · obtain ⟨s', q1, _, q2, q3, q4⟩ := hno hw
          exact ⟨s', q1, q2, q3, q4⟩
        · obtain ⟨w, W', q0, s', q1, _, q2, q3, q4⟩ := hyes hw
          refine wp_value q0 ?_
          have := go s' q1 q2
          rw [q3, q4] at this
          exact this
      · obtain ⟨t, hrem, hef⟩ := rem_head hg hI hset hd hp
        obtain ⟨hno, hyes⟩ := ef_step hg hI hrem hef hp
        exact hwp hno fun hw => hyes hw _ Q fun w s' q1 q2 q3 => go s' q1 q2
end

/-- Every drawn region does what the engine says. -/
theorem draws : DrawsOK := by
  intro P S c K φ0 h0 W0 OUT hC dp L id ops rest r Q hcd hrest
  intro f h outs a W φ hr hsub st
  obtain ⟨ss, hS, hcl, hd⟩ := cDraw_ss hcd
  refine wp_region_draw fun t => ?_
  have hsch : Region.schedule (P.follows .mixedOrders) ops t = Region.linearise .any ops t := by
    unfold Region.schedule
    rw [hC.mix]; simp
  rw [hsch]
  refine wpAny_sound ops.size t _ a _ ?_
  let g : Rg := ⟨P, S, c, K, φ0, h0, W0, OUT, L, ops.toList, endR rest, ss, a, f, φ⟩
  have hg : RgOK g := ⟨hC, dp, hS, hcl, ⟨st.fr, EnvR.nil, st.sz, dp⟩⟩
  let s : Sm := ⟨fun _ => false, fun _ => undef, fun _ => 0, φ, h, { W with drawn := W.drawn + 1 }, a, [], ss, [], f, [], [], []⟩
  have fm : Fr φ0 h0 W0 φ h { W with drawn := W.drawn + 1 } := ⟨st.fm.ext, st.fm.old, st.fm.lv, st.fm.next, st.fm.size, st.fm.tape, st.fm.os, st.fm.out, st.fm.keep⟩
  have hI : Inv g s := ⟨rfl, ⟨rfl, rfl, rfl⟩, (fun r hr => by cases hr), ⟨r, outs, hd, hr, hsub⟩, st.rh, fm, Gro.refl _, st.sz, st.df, (fun t => rfl), (fun d _ h => by cases h), (fun d _ => rfl), (fun r hr => by cases hr), (fun r hr => by cases hr), (fun r hr => by cases hr), (fun r hr => by cases hr),
    (fun x hx => by cases hx), List.Pairwise.nil, (fun x hx => by cases hx), (fun x hx => by cases hx)⟩
  obtain ⟨s2, k1, k2, k3, k4, k5⟩ := settle hg s.rem.length s rfl hI
  have := sim hg (Q := Q) (fun f l h outs a W φ hr hs st => hrest f h outs a W φ hr hs st) ops.size (Array.replicate ops.size false) s2 (List.range ops.size) k1 k2 (by simp [g]) (fun j hj => by
      rw [k3]
      have hj : j < ops.size := by simpa [g] using hj
      simp [hj, s]) (fun j hj _ => by
      have hj : j < ops.size := by simpa [g] using hj
      simpa using hj) (by simp)
  rw [k4, k5] at this
  have e : g.all.toArray = ops := by simp [g]
  rw [e] at this
  exact this
end Eng
