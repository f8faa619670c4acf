/- The engine: an interpreter of the operations of the model that the kernel can run. No condition. -/
import GoSem.Step
/- An abstract interpreter for the model's operations, made of closures that Lean's kernel runs quickly: its data, its operations, its compiler. -/
noncomputable section
namespace Eng
open Go

def ob {α β : Type} (x : Option α) (f : α → Option β) : Option β := Option.casesOn x none f
def gd {β : Type} (b : Bool) (x : Option β) : Option β := Bool.casesOn b none x
def fN {β : Type} (n : Nat) (k : Nat → β) : β := Nat.casesOn n (k 0) (fun m => k (Nat.succ m))
def fI {β : Type} (n : Int) (k : Int → β) : β := Int.casesOn n (fun m => fN m fun m => k (.ofNat m)) (fun m => fN m fun m => k (.negSucc m))
def bIf {β : Type} (b : Bool) (x y : β) : β := Bool.casesOn b y x
def notB (b : Bool) : Bool := Bool.casesOn b true false

/-! ## Tries: a value and four children a node -/
inductive T (α : Type) where
  | nil : T α
  | node (v : Option α) (a b c d : T α) : T α

namespace T
variable {α : Type}
def dg {β : Type} (n : Nat) (a b c d : β) : β :=
  Nat.casesOn n a fun n => Nat.casesOn n b fun n => Nat.casesOn n c fun _ => d
def fc {β : Type} (t : T α) (k : T α → β) : β := T.casesOn t (k .nil) (fun v a b c d => k (.node v a b c d))
def get (t : T α) : Nat → Option α :=
  T.rec (motive := fun _ => Nat → Option α) (fun _ => none) (fun v _ _ _ _ ga gb gc gd i => Nat.rec v (fun n _ => dg (Nat.mod n 4) ga gb gc gd (Nat.div n 4)) i) t
def setF (f : Nat) : T α → Nat → α → T α :=
  Nat.rec (motive := fun _ => T α → Nat → α → T α) (fun t _ _ => t) (fun _ ih t i x => T.casesOn t
      (Nat.casesOn i (.node (some x) .nil .nil .nil .nil) fun n => dg (Nat.mod n 4)
        (fc (ih .nil (Nat.div n 4) x) fun t => .node none t .nil .nil .nil)
        (fc (ih .nil (Nat.div n 4) x) fun t => .node none .nil t .nil .nil)
        (fc (ih .nil (Nat.div n 4) x) fun t => .node none .nil .nil t .nil)
        (fc (ih .nil (Nat.div n 4) x) fun t => .node none .nil .nil .nil t))
      (fun v a b c d => Nat.casesOn i (.node (some x) a b c d) fun n => dg (Nat.mod n 4)
        (fc (ih a (Nat.div n 4) x) fun t => .node v t b c d)
        (fc (ih b (Nat.div n 4) x) fun t => .node v a t c d)
        (fc (ih c (Nat.div n 4) x) fun t => .node v a b t d)
        (fc (ih d (Nat.div n 4) x) fun t => .node v a b c t))) f
def set (t : T α) (i : Nat) (x : α) : T α := setF (Nat.succ i) t i x
def row (t : T α) (n : Nat) : Nat → Option (List α) :=
  Nat.rec (motive := fun _ => Nat → Option (List α)) (fun _ => some []) (fun _ ih i => ob (t.get i) fun v => ob (ih (Nat.succ i)) fun l => some (v :: l)) n
def setL (l : List α) : T α → Nat → T α :=
  List.rec (motive := fun _ => T α → Nat → T α) (fun t _ => t) (fun x _ ih t i => fN (Nat.succ i) fun j => fc (t.set i x) fun t => ih t j) l
def ofL (l : List α) : T α := setL l .nil 0
end T

def lenL {α : Type} (l : List α) : Nat → Nat :=
  List.rec (motive := fun _ => Nat → Nat) (fun n => n) (fun _ _ ih n => fN (Nat.succ n) ih) l
def nthO {α : Type} (l : List α) : Nat → Option α :=
  List.rec (motive := fun _ => Nat → Option α) (fun _ => none) (fun a _ ih n => Nat.casesOn n (some a) ih) l

/-! ## Values -/
inductive V where
  | bool (b : Bool)
  | int (k : IntKind) (n : Int)
  | str (len val : Nat)
  | ptr (b off : Nat)
  | slc (b off len cap : Nat) (ex : Bool)
  | agg (cs : List V)
  | nilp
  | nils
  | nilm
  | map (b : Nat)
  | nilf
  | fn (f : Fn) (first captured : List V)
  | nili
  | ifc (t : Nat) (v : V)
  | tup (vs : List V)
  | capv (b off es : Nat) (d : Int)
  | sym (i : Nat) (off : Int)
  | dec (i : Nat) (off : Int)
  | any

def undefV : V := .tup []

inductive Obj where
  | cells (n : Nat) (t : T V) (elem : Nat) (fz : Nat) (sf : Bool)
  | map (es : List (V × V × Nat)) (clock : Nat)
  | siter (len val pos : Nat)
  | miter (m : Option Nat) (since : Nat) (seen : List Nat) (stepped : Nat)
  | dead

structure H where
  next : Nat
  t : T Eng.Obj

abbrev Res := Option (List (V × H))
abbrev K := Nat → List V → H → Res

/-- The slots of a call's frame that are kept from region to region: a tree of fixed depth. -/
inductive FT where
  | em
  | lf (v : V)
  | nd (a b c d : FT)

abbrev Ac := FT → Option V
abbrev Up := FT → V → (FT → Res) → Res
def aV : Ac := fun t => FT.casesOn t none (fun v => some v) (fun _ _ _ _ => none)
def aA (p : Ac) : Ac := fun t => FT.casesOn t none (fun _ => none) (fun a _ _ _ => p a)
def aB (p : Ac) : Ac := fun t => FT.casesOn t none (fun _ => none) (fun _ a _ _ => p a)
def aC (p : Ac) : Ac := fun t => FT.casesOn t none (fun _ => none) (fun _ _ a _ => p a)
def aD (p : Ac) : Ac := fun t => FT.casesOn t none (fun _ => none) (fun _ _ _ a => p a)
def uV : Up := fun _ v k => k (.lf v)
def uA (p : Up) : Up := fun t v k => FT.casesOn t (p .em v fun x => k (.nd x .em .em .em)) (fun _ => none) (fun a b c d => p a v fun x => k (.nd x b c d))
def uB (p : Up) : Up := fun t v k => FT.casesOn t (p .em v fun x => k (.nd .em x .em .em)) (fun _ => none) (fun a b c d => p b v fun x => k (.nd a x c d))
def uC (p : Up) : Up := fun t v k => FT.casesOn t (p .em v fun x => k (.nd .em .em x .em)) (fun _ => none) (fun a b c d => p c v fun x => k (.nd a b x d))
def uD (p : Up) : Up := fun t v k => FT.casesOn t (p .em v fun x => k (.nd .em .em .em x)) (fun _ => none) (fun a b c d => p d v fun x => k (.nd a b c x))
def accOf : Nat → Nat → Option Ac
  | 0, _ => some aV
  | d + 1, n => ob (accOf d (Nat.div n 4)) fun p => T.dg (Nat.mod n 4) (some (aA p)) (some (aB p)) (some (aC p)) (some (aD p))
def updOf : Nat → Nat → Option Up
  | 0, _ => some uV
  | d + 1, n => ob (updOf d (Nat.div n 4)) fun p => T.dg (Nat.mod n 4) (some (uA p)) (some (uB p)) (some (uC p)) (some (uD p))

/-- What an operand is worth, by the kept slots and the region's own list. -/
abbrev Ev := FT → List V → Option V
def eF (p : Ac) : Ev := fun f _ => p f
def eK (v : V) : Ev := fun _ _ => some v
def e0 : Ev := fun _ l => List.casesOn l none (fun v _ => some v)
def eS (e : Ev) : Ev := fun f l => List.casesOn l none (fun _ l => e f l)

/-! ## Destructors -/
section
variable {β : Type}
def onBool (v : V) (k : Bool → Option β) : Option β := V.casesOn v k (fun _ _ => none) (fun _ _ => none) (fun _ _ => none) (fun _ _ _ _ _ => none) (fun _ => none) none none none (fun _ => none) none (fun _ _ _ => none) none (fun _ _ => none) (fun _ => none) (fun _ _ _ _ => none) (fun _ _ => none) (fun _ _ => none) none
def onInt (v : V) (k : IntKind → Int → Option β) : Option β := V.casesOn v (fun _ => none) k (fun _ _ => none) (fun _ _ => none) (fun _ _ _ _ _ => none) (fun _ => none) none none none (fun _ => none) none (fun _ _ _ => none) none (fun _ _ => none) (fun _ => none) (fun _ _ _ _ => none) (fun _ _ => none) (fun _ _ => none) none
/-- An integer's own arm; else y. -/
def onIntE (v : V) (k : IntKind → Int → Option β) (y : Option β) : Option β := V.casesOn v (fun _ => y) k (fun _ _ => y) (fun _ _ => y) (fun _ _ _ _ _ => y) (fun _ => y) y y y (fun _ => y) y (fun _ _ _ => y) y (fun _ _ => y) (fun _ => y) (fun _ _ _ _ => y) (fun _ _ => y) (fun _ _ => y) y
def onStr (v : V) (k : Nat → Nat → Option β) : Option β := V.casesOn v (fun _ => none) (fun _ _ => none) k (fun _ _ => none) (fun _ _ _ _ _ => none) (fun _ => none) none none none (fun _ => none) none (fun _ _ _ => none) none (fun _ _ => none) (fun _ => none) (fun _ _ _ _ => none) (fun _ _ => none) (fun _ _ => none) none
def onPtr (v : V) (k : Nat → Nat → Option β) : Option β := V.casesOn v (fun _ => none) (fun _ _ => none) (fun _ _ => none) k (fun _ _ _ _ _ => none) (fun _ => none) none none none (fun _ => none) none (fun _ _ _ => none) none (fun _ _ => none) (fun _ => none) (fun _ _ _ _ => none) (fun _ _ => none) (fun _ _ => none) none
def onSlc (v : V) (n : Option β) (k : Nat → Nat → Nat → Nat → Bool → Option β) : Option β := V.casesOn v (fun _ => none) (fun _ _ => none) (fun _ _ => none) (fun _ _ => none) k (fun _ => none) none n none (fun _ => none) none (fun _ _ _ => none) none (fun _ _ => none) (fun _ => none) (fun _ _ _ _ => none) (fun _ _ => none) (fun _ _ => none) none
def onAgg (v : V) (k : List V → Option β) : Option β := V.casesOn v (fun _ => none) (fun _ _ => none) (fun _ _ => none) (fun _ _ => none) (fun _ _ _ _ _ => none) k none none none (fun _ => none) none (fun _ _ _ => none) none (fun _ _ => none) (fun _ => none) (fun _ _ _ _ => none) (fun _ _ => none) (fun _ _ => none) none
def onTup (v : V) (k : List V → Option β) : Option β := V.casesOn v (fun _ => none) (fun _ _ => none) (fun _ _ => none) (fun _ _ => none) (fun _ _ _ _ _ => none) (fun _ => none) none none none (fun _ => none) none (fun _ _ _ => none) none (fun _ _ => none) k (fun _ _ _ _ => none) (fun _ _ => none) (fun _ _ => none) none
def onMap (v : V) (n : Option β) (k : Nat → Option β) : Option β := V.casesOn v (fun _ => none) (fun _ _ => none) (fun _ _ => none) (fun _ _ => none) (fun _ _ _ _ _ => none) (fun _ => none) none none n k none (fun _ _ _ => none) none (fun _ _ => none) (fun _ => none) (fun _ _ _ _ => none) (fun _ _ => none) (fun _ _ => none) none
def onFn (v : V) (k : Nat → List V → List V → Option β) : Option β := V.casesOn v (fun _ => none) (fun _ _ => none) (fun _ _ => none) (fun _ _ => none) (fun _ _ _ _ _ => none) (fun _ => none) none none none (fun _ => none) none (fun f a b => Fn.casesOn f (fun g => k g a b) (fun _ => none) (fun _ _ => none) (fun _ _ _ _ => none) (fun _ => none)) none (fun _ _ => none) (fun _ => none) (fun _ _ _ _ => none) (fun _ _ => none) (fun _ _ => none) none
def onIfc (v : V) (n : Option β) (k : Nat → V → Option β) : Option β := V.casesOn v (fun _ => none) (fun _ _ => none) (fun _ _ => none) (fun _ _ => none) (fun _ _ _ _ _ => none) (fun _ => none) none none none (fun _ => none) none (fun _ _ _ => none) n k (fun _ => none) (fun _ _ _ _ => none) (fun _ _ => none) (fun _ _ => none) none
def onNat (v : V) (k : Nat → Option β) : Option β := onInt v fun _ n => Int.casesOn n k (fun _ => none)
def onCells (h : H) (b : Nat) (k : Nat → T V → Nat → Nat → Bool → Option β) : Option β :=
  ob (h.t.get b) fun o => Obj.casesOn o k (fun _ _ => none) (fun _ _ _ => none) (fun _ _ _ _ => none) none
def onMapO (h : H) (b : Nat) (k : List (V × V × Nat) → Nat → Option β) : Option β :=
  ob (h.t.get b) fun o => Obj.casesOn o (fun _ _ _ _ _ => none) k (fun _ _ _ => none) (fun _ _ _ _ => none) none
def putO (h : H) (b : Nat) (o : Eng.Obj) (k : H → Option β) : Option β := T.fc (h.t.set b o) fun t => k ⟨h.next, t⟩
def newO (h : H) (o : Eng.Obj) (k : Nat → H → Option β) : Option β :=
  fN h.next fun n => fN (Nat.succ n) fun m => T.fc (h.t.set n o) fun t => k n ⟨m, t⟩
end

/-! ## Numbers and strings -/
def lim (k : IntKind) : Nat := IntKind.casesOn k 128 32768 2147483648 9223372036854775808 256 65536 4294967296 18446744073709551616
def kN (k : IntKind) : Nat := IntKind.casesOn k 0 1 2 3 4 5 6 7
def kEq (j k : IntKind) : Bool := Nat.beq (kN j) (kN k)

/-- An integer, wrapped to its kind. -/
def wI (kd : IntKind) (n : Int) : Option V :=
  Int.casesOn n (fun m => Bool.casesOn (Nat.blt m (lim kd)) (fI (kd.wrap (.ofNat m)) fun n => some (.int kd n)) (fN m fun m => some (.int kd (.ofNat m))))
    (fun m => Bool.casesOn kd.signed (fI (kd.wrap (.negSucc m)) fun n => some (.int kd n)) (Bool.casesOn (Nat.blt m (lim kd)) (fI (kd.wrap (.negSucc m)) fun n => some (.int kd n)) (fN m fun m => some (.int kd (.negSucc m)))))
def mkI (kd : IntKind) (n : Int) : Option V := fI n fun n => some (.int kd n)
def mkN (n : Nat) : Option V := fN n fun n => some (.int .i64 (.ofNat n))
def kB (b : Bool) : Option V := Bool.casesOn b (some (.bool false)) (some (.bool true))

def sByte (len val i : Nat) : Nat := Nat.mod (Nat.shiftRight val (Nat.mul 8 (Nat.sub (Nat.sub len 1) i))) 256
def sSub (len val l h : Nat) : Nat := Nat.mod (Nat.shiftRight val (Nat.mul 8 (Nat.sub len h))) (Nat.pow 2 (Nat.mul 8 (Nat.sub h l)))
def sCat (a lb b : Nat) : Nat := Nat.add (Nat.shiftLeft a (Nat.mul 8 lb)) b
def mkS (len val : Nat) : Option V := fN len fun len => fN val fun val => some (.str len val)
def sEq (la a lb b : Nat) : Bool := Bool.casesOn (Nat.beq la lb) false (Nat.beq a b)
def sLt (la a lb b : Nat) : Bool :=
  Bool.casesOn (Nat.ble la lb)
    (Nat.blt a (Nat.shiftLeft b (Nat.mul 8 (Nat.sub la lb))))
    (fN (Nat.shiftLeft a (Nat.mul 8 (Nat.sub lb la))) fun x => Bool.casesOn (Nat.blt x b) (Bool.casesOn (Nat.beq x b) false (Nat.blt la lb)) true)
def packL (l : List UInt8) : Nat → Nat := match l with
  | [] => fun acc => acc
  | b :: l => fun acc => fN (Nat.add (Nat.mul acc 256) b.toNat) fun acc => packL l acc
def packB (s : ByteArray) : Nat := packL s.data.toList 0
def iLt (x y : Int) : Bool :=
  Int.casesOn x (fun a => Int.casesOn y (fun b => Nat.blt a b) (fun _ => false)) (fun a => Int.casesOn y (fun _ => true) (fun b => Nat.blt b a))
def iEq (x y : Int) : Bool :=
  Int.casesOn x (fun a => Int.casesOn y (fun b => Nat.beq a b) (fun _ => false)) (fun a => Int.casesOn y (fun _ => false) (fun b => Nat.beq a b))

abbrev IOp := IntKind → Int → Int → Option V
def iAdd : IOp := fun kd x y => wI kd (Int.add x y)
def iSub : IOp := fun kd x y => wI kd (Int.sub x y)
def iMul : IOp := fun kd x y => wI kd (Int.mul x y)
def iQuo : IOp := fun kd x y => gd (notB (iEq y 0)) (wI kd (Int.tdiv x y))
def iRem : IOp := fun kd x y => gd (notB (iEq y 0)) (mkI kd (Int.tmod x y))
def iAnd : IOp := fun kd x y => Int.casesOn x (fun a => Int.casesOn y (fun b => wI kd (.ofNat (Nat.land a b))) (fun _ => mkI kd (kd.wrap (BitVec.ofInt kd.bits x &&& BitVec.ofInt kd.bits y).toNat))) (fun _ => mkI kd (kd.wrap (BitVec.ofInt kd.bits x &&& BitVec.ofInt kd.bits y).toNat))
def iOr : IOp := fun kd x y => Int.casesOn x (fun a => Int.casesOn y (fun b => wI kd (.ofNat (Nat.lor a b))) (fun _ => mkI kd (kd.wrap (BitVec.ofInt kd.bits x ||| BitVec.ofInt kd.bits y).toNat))) (fun _ => mkI kd (kd.wrap (BitVec.ofInt kd.bits x ||| BitVec.ofInt kd.bits y).toNat))
def iXor : IOp := fun kd x y => Int.casesOn x (fun a => Int.casesOn y (fun b => wI kd (.ofNat (Nat.xor a b))) (fun _ => mkI kd (kd.wrap (BitVec.ofInt kd.bits x ^^^ BitVec.ofInt kd.bits y).toNat))) (fun _ => mkI kd (kd.wrap (BitVec.ofInt kd.bits x ^^^ BitVec.ofInt kd.bits y).toNat))
def iAndN : IOp := fun kd x y => mkI kd (kd.wrap (BitVec.ofInt kd.bits x &&& ~~~ (BitVec.ofInt kd.bits y)).toNat)
def iEql : IOp := fun _ x y => kB (iEq x y)
def iNeq : IOp := fun _ x y => kB (notB (iEq x y))
def iLss : IOp := fun _ x y => kB (iLt x y)
def iLeq : IOp := fun _ x y => kB (notB (iLt y x))
def iGtr : IOp := fun _ x y => kB (iLt y x)
def iGeq : IOp := fun _ x y => kB (notB (iLt x y))
def iBad : IOp := fun _ _ _ => none
def iOp (op : BinOp) : IOp := BinOp.casesOn op iAdd iSub iMul iQuo iRem iAnd iOr iXor iBad iBad iAndN iEql iNeq iLss iLeq iGtr iGeq
def iShl : IOp := fun kd x y =>
  Int.casesOn y (fun n => fN (bIf (Nat.ble n kd.bits) n kd.bits) fun n => Int.casesOn x (fun a => wI kd (.ofNat (Nat.shiftLeft a n))) (fun _ => mkI kd (kd.wrap (x * 2 ^ n)))) (fun _ => none)
def iShr : IOp := fun kd x y =>
  Int.casesOn y (fun n => fN (bIf (Nat.ble n kd.bits) n kd.bits) fun n => Int.casesOn x (fun a => mkI kd (.ofNat (Nat.shiftRight a n))) (fun a => mkI kd (.negSucc (Nat.shiftRight a n)))) (fun _ => none)

abbrev SOp := Nat → Nat → Nat → Nat → Option V
def maxLenN : Nat := 281474976710656
def sAdd : SOp := fun la a lb b => gd (Nat.ble (Nat.add la lb) maxLenN) (mkS (Nat.add la lb) (sCat a lb b))
def sEql : SOp := fun la a lb b => kB (sEq la a lb b)
def sNeq : SOp := fun la a lb b => kB (notB (sEq la a lb b))
def sLss : SOp := fun la a lb b => kB (sLt la a lb b)
def sLeq : SOp := fun la a lb b => kB (notB (sLt lb b la a))
def sGtr : SOp := fun la a lb b => kB (sLt lb b la a)
def sGeq : SOp := fun la a lb b => kB (notB (sLt la a lb b))
def sBad : SOp := fun _ _ _ _ => none
def sOp (op : BinOp) : SOp := BinOp.casesOn op sAdd sBad sBad sBad sBad sBad sBad sBad sBad sBad sBad sEql sNeq sLss sLeq sGtr sGeq

/-! ## Cells of values -/
def V.cells (v : V) : List V := V.casesOn v (fun _ => [v]) (fun _ _ => [v]) (fun _ _ => [v]) (fun _ _ => [v]) (fun _ _ _ _ _ => [v]) (fun cs => cs) [v] [v] [v] (fun _ => [v]) [v] (fun _ _ _ => [v]) [v] (fun _ _ => [v]) (fun _ => [v]) (fun _ _ _ _ => [v]) (fun _ _ => [v]) (fun _ _ => [v]) [v]
/-- Is it surely the value of one cell? -/
def V.one (v : V) : Bool := V.casesOn v (fun _ => true) (fun _ _ => true) (fun _ _ => true) (fun _ _ => true) (fun _ _ _ _ _ => true) (fun _ => false) true true true (fun _ => true) true (fun _ _ _ => true) true (fun _ _ => true) (fun _ => false) (fun _ _ _ _ => true) (fun _ _ => true) (fun _ _ => true) false
def V.isAny (v : V) : Bool := V.casesOn v (fun _ => false) (fun _ _ => false) (fun _ _ => false) (fun _ _ => false) (fun _ _ _ _ _ => false) (fun _ => false) false false false (fun _ => false) false (fun _ _ _ => false) false (fun _ _ => false) (fun _ => false) (fun _ _ _ _ => false) (fun _ _ => false) (fun _ _ => false) true
def all1 (l : List V) : Bool := match l with
  | [] => true
  | v :: l => Bool.casesOn v.one false (all1 l)
def fL {β : Type} (l : List V) (k : List V → β) : β := match l with
  | [] => k []
  | x :: l => fL l fun l => k (x :: l)
def repL {α : Type} (l : List α) : Nat → List α
  | 0 => []
  | n + 1 => l ++ repL l n
def setAt (l : List V) : Nat → List V → List V :=
  match l with
  | [] => fun _ _ => []
  | x :: l => fun off cs => Nat.casesOn off (List.casesOn cs (x :: l) (fun c cs => c :: setAt l 0 cs)) (fun off => x :: setAt l off cs)
def takeL (l : List V) : Nat → Nat → Option (List V) := match l with
  | [] => fun _ n => Nat.casesOn n (some []) (fun _ => none)
  | x :: l => fun o n => Nat.casesOn o (Nat.casesOn n (some []) fun n => ob (takeL l 0 n) fun l => some (x :: l)) (fun o => takeL l o n)
def rowObj (elem : Nat) (cs : List V) : Option Eng.Obj := fN (lenL cs 0) fun n => T.fc (T.ofL cs) fun t => some (.cells n t elem 0 false)

/-! ## Operations that leave the world alone -/
abbrev Rd := FT → List V → H → Option V
abbrev Evs := FT → List V → Option (List V)
def eNil : Evs := fun _ _ => some []
def eCons (x : Ev) (xs : Evs) : Evs := fun f l => ob (x f l) fun v => ob (xs f l) fun vs => some (v :: vs)
def eFa (e : Ev) (off : Nat) : Ev := fun f l => ob (e f l) fun v => onPtr v fun b o => fN (Nat.add o off) fun o => some (.ptr b o)

def rMov (x : Ev) : Rd := fun f l _ => x f l
def rPick (c a b : Ev) : Rd := fun f l _ => ob (c f l) fun v => onBool v fun t => Bool.casesOn t (b f l) (a f l)
abbrev Fill := FT → List V → List V → Option (List V)
def fNil : Fill := fun _ _ cs => some cs
def fPart (off size : Nat) (x : Ev) (rest : Fill) : Fill := fun f l cs => ob (x f l) fun v =>
  gd (notB v.isAny) (gd (Nat.beq (lenL v.cells 0) size) (gd (Nat.ble (Nat.add off size) (lenL cs 0)) (fL (setAt cs off v.cells) fun cs => rest f l cs)))
def rBuild (zero : List V) (p : Fill) : Rd := fun f l _ => ob (p f l zero) fun cs => some (.agg cs)
def nchk (v : V) : Option V := match v with
  | .nilp => none
  | .nili => none
  | .nilf => none
  | .any => none
  | .fn f a b => onFn (.fn f a b) fun _ _ _ => some (.fn f a b)
  | v => some v
def rNchk (x : Ev) : Rd := fun f l _ => ob (x f l) nchk
def capLo (n off es : Nat) : Nat := Nat.div (Nat.sub n off) es
/-- A capacity that is at least lo, plus d, held against c. -/
def capCmp (op : BinOp) (lo : Nat) (d c : Int) : Option Bool := match op with
  | .lss => gd (notB (iLt (Int.add (.ofNat lo) d) c)) (some false)
  | .geq => gd (notB (iLt (Int.add (.ofNat lo) d) c)) (some true)
  | .leq => gd (iLt c (Int.add (.ofNat lo) d)) (some false)
  | .gtr => gd (iLt c (Int.add (.ofNat lo) d)) (some true)
  | _ => none
def flipOp : BinOp → BinOp
  | .lss => .gtr
  | .gtr => .lss
  | .leq => .geq
  | .geq => .leq
  | o => o

/-- What is known of the symbols: bounds; a sum's own symbol. -/
structure Sy where
  lo : Nat → Option Int
  hi : Nat → Option Int
  sum : Nat → Nat → Option Nat
  /-- A difference of two, between these. -/
  dif : Nat → Nat → Option (Int × Int)
  /-- The length of a number's text is a symbol. -/
  len : Nat → Int → Option Nat
  /-- Blocks that are read alone: their cells. -/
  ro : Nat → Option (T V)
  /-- How many package variables there are. -/
  ng : Nat
  /-- Of these struct types the equality is told cell by cell, each of this kind: 0 a truth value, 1 a number, 2 a string. -/
  eqs : Nat → Option (List Nat)

def sy0 (ng : Nat) : Sy := ⟨fun _ => none, fun _ => none, fun _ _ => none, fun _ _ => none, fun _ _ => none, fun _ => none, ng, fun _ => none⟩

/-- The cells that a reading sees. -/
def onRead {β : Type} (s : Sy) (h : H) (b : Nat) (k : T V → Option β) : Option β :=
  Option.casesOn (h.t.get b) (ob (s.ro b) k) (fun o => Obj.casesOn o (fun _ t _ _ _ => k t) (fun _ _ => none) (fun _ _ _ => none) (fun _ _ _ _ => none) none)
def rLoad1 (s : Sy) (a : Ev) : Rd := fun f l h => ob (a f l) fun v => onPtr v fun b o => onRead s h b fun t => t.get o
def rLoadN (s : Sy) (n : Nat) (a : Ev) : Rd := fun f l h => ob (a f l) fun v => onPtr v fun b o => onRead s h b fun t => ob (t.row n o) fun l => some (.agg l)

/-- 'a < b', where a lies from la to ha, b from lb to hb: if that decides it. -/
def ivLt (ha la hb lb : Int) : Option Bool := Bool.casesOn (iLt ha lb) (Bool.casesOn (iLt la hb) (some false) none) (some true)
def ivOp (op : BinOp) (la ha lb hb : Int) : Option Bool := match op with
  | .lss => ivLt ha la hb lb
  | .gtr => ivLt hb lb ha la
  | .leq => ob (ivLt hb lb ha la) fun r => some (notB r)
  | .geq => ob (ivLt ha la hb lb) fun r => some (notB r)
  | .eql => Bool.casesOn (iLt ha lb) (Bool.casesOn (iLt hb la) none (some false)) (some false)
  | .neq => Bool.casesOn (iLt ha lb) (Bool.casesOn (iLt hb la) none (some true)) (some true)
  | _ => none
def symBin (s : Sy) (op : BinOp) (v w : V) : Option V := match v, w with
  | .sym i d, .int .i64 c => match op with
    | .add => ob (s.lo i) fun lo => ob (s.hi i) fun hi => fI (Int.add d c) fun e => gd (notB (iLt (Int.add lo e) (-9223372036854775808))) (gd (iLt (Int.add hi e) 9223372036854775808) (some (.sym i e)))
    | .sub => ob (s.lo i) fun lo => ob (s.hi i) fun hi => fI (Int.sub d c) fun e => gd (notB (iLt (Int.add lo e) (-9223372036854775808))) (gd (iLt (Int.add hi e) 9223372036854775808) (some (.sym i e)))
    | op => ob (s.lo i) fun lo => ob (s.hi i) fun hi => ob (ivOp op (Int.add lo d) (Int.add hi d) c c) kB
  | .int .i64 c, .sym i d => match op with
    | .add => ob (s.lo i) fun lo => ob (s.hi i) fun hi => fI (Int.add d c) fun e => gd (notB (iLt (Int.add lo e) (-9223372036854775808))) (gd (iLt (Int.add hi e) 9223372036854775808) (some (.sym i e)))
    | op => ob (s.lo i) fun lo => ob (s.hi i) fun hi => ob (ivOp op c c (Int.add lo d) (Int.add hi d)) kB
  | .sym i d, .sym j e => Bool.casesOn (Nat.beq i j)
      (match op with
      | .add => ob (s.sum i j) fun k => ob (s.lo k) fun lo => ob (s.hi k) fun hi => fI (Int.add d e) fun x => gd (notB (iLt (Int.add lo x) (-9223372036854775808))) (gd (iLt (Int.add hi x) 9223372036854775808) (some (.sym k x)))
      | op => Option.casesOn (s.dif i j)
        (ob (s.lo i) fun li => ob (s.hi i) fun hi => ob (s.lo j) fun lj => ob (s.hi j) fun hj => ob (ivOp op (Int.add li d) (Int.add hi d) (Int.add lj e) (Int.add hj e)) kB)
        (fun p => Prod.casesOn p fun lo hi => ob (ivOp op (Int.sub (Int.add lo d) e) (Int.sub (Int.add hi d) e) 0 0) kB))
      (match op with
      | .eql => kB (iEq d e)
      | .neq => kB (notB (iEq d e))
      | .lss => kB (iLt d e)
      | .leq => kB (notB (iLt e d))
      | .gtr => kB (iLt e d)
      | .geq => kB (notB (iLt d e))
      | .sub => gd (notB (iLt (Int.sub d e) (-9223372036854775808))) (gd (iLt (Int.sub d e) 9223372036854775808) (mkI .i64 (Int.sub d e)))
      | _ => none)
  | _, _ => none
def altBin (s : Sy) (h : H) (op : BinOp) (v w : V) : Option V := match v, w with
  | .capv b off es d, .int .i64 c => match op with
    | .sub => fI (Int.sub d c) fun d => gd (notB (iLt 0 d)) (gd (notB (iLt d (-4611686018427387904))) (some (.capv b off es d)))
    | op => onCells h b fun n _ _ _ _ => ob (capCmp op (capLo n off es) d c) kB
  | .int .i64 c, .capv b off es d => onCells h b fun n _ _ _ _ => ob (capCmp (flipOp op) (capLo n off es) d c) kB
  | v, w => symBin s op v w
def rBinI (g : IOp) (x y : Ev) : Rd := fun f l _ => ob (x f l) fun v => onInt v fun kd a => ob (y f l) fun w => onInt w fun j b => gd (kEq kd j) (g kd a b)
def rBinJ (s : Sy) (op : BinOp) (g : IOp) (x y : Ev) : Rd := fun f l h => ob (x f l) fun v => ob (y f l) fun w => onIntE v (fun kd a => onIntE w (fun j b => gd (kEq kd j) (g kd a b)) (altBin s h op v w)) (altBin s h op v w)
def rShift (g : IOp) (x y : Ev) : Rd := fun f l _ => ob (x f l) fun v => onInt v fun kd a => ob (y f l) fun w => onInt w fun _ b => g kd a b
def decBin (op : BinOp) (v w : V) : Option V := match v, w with
  | .dec _ _, .str 0 _ => match op with
    | .eql => some (.bool false)
    | .neq => some (.bool true)
    | _ => none
  | .dec i d, .dec j e => gd (Nat.beq i j) (gd (iEq d e) (match op with
    | .eql => some (.bool true)
    | .neq => some (.bool false)
    | _ => none))
  | _, _ => none
def isStr (v : V) : Bool := V.casesOn v (fun _ => false) (fun _ _ => false) (fun _ _ => true) (fun _ _ => false) (fun _ _ _ _ _ => false) (fun _ => false) false false false (fun _ => false) false (fun _ _ _ => false) false (fun _ _ => false) (fun _ => false) (fun _ _ _ _ => false) (fun _ _ => false) (fun _ _ => false) false
def rBinS (op : BinOp) (g : SOp) (x y : Ev) : Rd := fun f l _ => ob (x f l) fun v => ob (y f l) fun w => Bool.casesOn (isStr v) (decBin op v w) (onStr v fun la a => onStr w fun lb b => g la a lb b)

def vEq0 (x y : V) : Bool := match x, y with
  | .bool a, .bool b => Bool.casesOn a (notB b) b
  | .int j a, .int k b => Bool.casesOn (kEq j k) false (iEq a b)
  | .str la a, .str lb b => sEq la a lb b
  | _, _ => false
def flat0 (x : V) : Bool := match x with
  | .bool _ => true
  | .int _ _ => true
  | .str _ _ => true
  | _ => false
/-- The equality of two cells of a kind, if it can be told. -/
def eqC (s : Sy) (k : Nat) (x y : V) : Option Bool := match k, x, y with
  | 0, .bool a, .bool b => some (Bool.casesOn a (notB b) b)
  | 1, .int j a, .int k b => gd (kEq j k) (some (iEq a b))
  | 1, x, y => ob (symBin s .eql x y) fun v => onBool v some
  | 2, .str la a, .str lb b => some (sEq la a lb b)
  | 2, .dec i d, .dec j e => gd (Nat.beq i j) (gd (iEq d e) (some true))
  | _, _, _ => none
def eqCells (s : Sy) : List Nat → List V → List V → Option Bool
  | [], [], [] => some true
  | k :: ks, x :: l, y :: m => ob (eqC s k x y) fun a => ob (eqCells s ks l m) fun r => Bool.casesOn a (some false) (some r)
  | _, _, _ => none
def plainRow (h : H) (b : Nat) : Option Bool := onCells h b fun _ _ _ fz sf => gd (Nat.beq fz 0) (gd (notB sf) (some true))
/-- What is compared: truth values; pointers; slices; maps; functions; interface values; pointers where only nil counts. -/
inductive EK where
  | bool | ptr | slc | map | fn | ifc | ifcK | nil
def eqP (k : EK) (h : H) (x y : V) : Option Bool := match k, x, y with
  | .bool, .bool a, .bool b => some (Bool.casesOn a (notB b) b)
  | .ptr, .nilp, .nilp => some true
  | .ptr, .nilp, .ptr _ _ => some false
  | .ptr, .ptr _ _, .nilp => some false
  | .ptr, .ptr a o, .ptr b p => Bool.casesOn (Nat.beq a b) (ob (plainRow h a) fun _ => ob (plainRow h b) fun _ => some false) (some (Nat.beq o p))
  | .nil, .nilp, .nilp => some true
  | .nil, .nilp, .ptr _ _ => some false
  | .nil, .ptr _ _, .nilp => some false
  | .slc, .nils, .nils => some true
  | .slc, .nils, .slc _ _ _ _ _ => some false
  | .slc, .slc _ _ _ _ _, .nils => some false
  | .map, .nilm, .nilm => some true
  | .map, .nilm, .map _ => some false
  | .map, .map _, .nilm => some false
  | .fn, .nilf, .nilf => some true
  | .fn, .nilf, .fn _ _ _ => some false
  | .fn, .fn _ _ _, .nilf => some false
  | .ifcK, .nili, .nili => some true
  | .ifcK, .nili, .ifc _ _ => some false
  | .ifcK, .ifc _ _, .nili => some false
  | .ifc, .nili, .ifc _ _ => some false
  | .ifc, .ifc _ _, .nili => some false
  | _, _, _ => none
def rEqP (k : EK) (neg : Bool) (x y : Ev) : Rd := fun f l h => ob (x f l) fun v => ob (y f l) fun w => ob (eqP k h v w) fun r => kB (bIf neg (notB r) r)
def rEqS (s : Sy) (ks : List Nat) (neg : Bool) (x y : Ev) : Rd := fun f l _ => ob (x f l) fun v => onAgg v fun a => ob (y f l) fun w => onAgg w fun b => ob (eqCells s ks a b) fun r => kB (bIf neg (notB r) r)
def rNeg (x : Ev) : Rd := fun f l _ => ob (x f l) fun v => onInt v fun kd n => wI kd (Int.sub 0 n)
def rNot (x : Ev) : Rd := fun f l _ => ob (x f l) fun v => onBool v fun b => kB (notB b)
def rBNot (x : Ev) : Rd := fun f l _ => ob (x f l) fun v => onInt v fun kd n => wI kd (bIf kd.signed (Int.sub (-1) n) (Int.sub (.ofNat (Nat.sub (lim kd) 1)) n))
def rCii (kd : IntKind) (x : Ev) : Rd := fun f l _ => ob (x f l) fun v => onInt v fun _ n => wI kd n
def rCss (x : Ev) : Rd := fun f l _ => ob (x f l) fun v => onStr v fun a b => some (.str a b)
def strCells (len val : Nat) : Nat → Nat → Option (List V)
  | 0 => fun _ => some []
  | n + 1 => fun i => ob (strCells len val n (Nat.succ i)) fun l => fN (sByte len val i) fun c => some (.int .u8 (.ofNat c) :: l)
def packV (l : List V) : Nat → Option Nat := match l with
  | [] => fun acc => some acc
  | v :: l => fun acc => onInt v fun kd n => gd (kEq kd .u8) (Int.casesOn n (fun n => gd (Nat.blt n 256) (fN (Nat.add (Nat.mul acc 256) n) fun acc => packV l acc)) (fun _ => none))
def rCbs (x : Ev) : Rd := fun f l h => ob (x f l) fun v => onSlc v (some (.str 0 0)) fun b off len _ _ => onCells h b fun _ t _ _ _ => ob (t.row len off) fun l => ob (packV l 0) fun n => mkS len n
def rCis (x : Ev) : Rd := fun f l _ => ob (x f l) fun v => onNat v fun n => gd (Nat.blt n 128) (some (.str 1 n))
def rCpu (x : Ev) : Rd := fun f l h => ob (x f l) fun v => onPtr v fun b o => onCells h b fun n _ _ _ _ => gd (Nat.blt o n) (some (.ptr b o))
def rCup (u us : Nat) (x : Ev) : Rd := fun f l h => ob (x f l) fun v => onPtr v fun b o => onCells h b fun n _ e _ _ => gd (Nat.beq o 0) (gd (Nat.beq e u) (gd (Nat.ble us n) (some (.ptr b 0))))
def rMkIfc (t : Nat) (x : Ev) : Rd := fun f l _ => ob (x f l) fun v => some (.ifc t v)
def rMkFn (fn : Fn) (a b : Evs) : Rd := fun f l _ => ob (a f l) fun a => ob (b f l) fun b => some (.fn fn a b)

abbrev Bd := FT → List V → Nat → Nat → Option Nat
/-- 'bd f l d m': the bound, d if it is left out, at most m. -/
def bdN : Bd := fun _ _ d _ => some d
def bdS (x : Ev) : Bd := fun f l _ m => ob (x f l) fun v => onNat v fun n => gd (Nat.ble n m) (some n)
def mkSlc (b off len cap : Nat) (ex : Bool) : Option V := fN off fun off => fN len fun len => fN cap fun cap => some (.slc b off len cap ex)
def rSliceS (lo hi : Bd) (x : Ev) : Rd := fun f l _ => ob (x f l) fun v => onStr v fun len val => ob (hi f l len len) fun hh => ob (lo f l 0 hh) fun a => mkS (Nat.sub hh a) (sSub len val a hh)
def rSliceL (elem es : Nat) (lo hi : Bd) (x : Ev) : Rd := fun f l h => ob (x f l) fun v => onSlc v (ob (hi f l 0 0) fun _ => ob (lo f l 0 0) fun _ => some .nils) fun b off len cap ex =>
  Bool.casesOn ex
    (onCells h b fun n _ e _ _ => gd (Nat.beq e elem) (gd (Nat.blt 0 es) (fN (bIf (Nat.ble len (capLo n off es)) (capLo n off es) len) fun m => ob (hi f l len m) fun hh => ob (lo f l 0 hh) fun a => mkSlc b (Nat.add off (Nat.mul a es)) (Nat.sub hh a) 0 false)))
    (ob (hi f l len cap) fun hh => ob (lo f l 0 hh) fun a => mkSlc b (Nat.add off (Nat.mul a es)) (Nat.sub hh a) (Nat.sub cap a) true)
def rSliceL3 (elem es : Nat) (lo hi : Bd) (mx x : Ev) : Rd := fun f l h => ob (x f l) fun v => onSlc v none fun b off len cap ex =>
  onCells h b fun n _ e _ _ => gd (Nat.beq e elem) (gd (Nat.blt 0 es) (fN (Bool.casesOn ex (bIf (Nat.ble len (capLo n off es)) (capLo n off es) len) cap) fun c => ob (bdS mx f l 0 c) fun m => ob (hi f l len m) fun hh => ob (lo f l 0 hh) fun a =>
    mkSlc b (Nat.add off (Nat.mul a es)) (Nat.sub hh a) (Nat.sub m a) true))
def rSliceA (n es : Nat) (lo hi : Bd) (x : Ev) : Rd := fun f l _ => ob (x f l) fun v => onPtr v fun b off => ob (hi f l n n) fun hh => ob (lo f l 0 hh) fun a =>
  mkSlc b (Nat.add off (Nat.mul a es)) (Nat.sub hh a) (Nat.sub n a) true
def mkPtr (b off : Nat) : Option V := fN off fun off => some (.ptr b off)
def rField1 (off : Nat) (x : Ev) : Rd := fun f l _ => ob (x f l) fun v => onAgg v fun cs => nthO cs off
def rFieldN (off n : Nat) (x : Ev) : Rd := fun f l _ => ob (x f l) fun v => onAgg v fun cs => ob (takeL cs off n) fun l => some (.agg l)
def rIaddrL (es : Nat) (x i : Ev) : Rd := fun f l _ => ob (x f l) fun v => onSlc v none fun b off len _ _ => ob (i f l) fun i => onNat i fun i => gd (Nat.blt i len) (mkPtr b (Nat.add off (Nat.mul i es)))
def rIaddrA (len es : Nat) (x i : Ev) : Rd := fun f l _ => ob (x f l) fun v => onPtr v fun b off => ob (i f l) fun i => onNat i fun i => gd (Nat.blt i len) (mkPtr b (Nat.add off (Nat.mul i es)))
def rIdxS (x i : Ev) : Rd := fun f l _ => ob (x f l) fun v => onStr v fun len val => ob (i f l) fun i => onNat i fun i => gd (Nat.blt i len) (fN (sByte len val i) fun c => some (.int .u8 (.ofNat c)))
def rIdxA1 (len es : Nat) (x i : Ev) : Rd := fun f l _ => ob (x f l) fun v => onAgg v fun cs => ob (i f l) fun i => onNat i fun i => gd (Nat.blt i len) (nthO cs (Nat.mul i es))
def rIdxAN (len es n : Nat) (x i : Ev) : Rd := fun f l _ => ob (x f l) fun v => onAgg v fun cs => ob (i f l) fun i => onNat i fun i => gd (Nat.blt i len) (ob (takeL cs (Nat.mul i es) n) fun l => some (.agg l))

inductive KK where
  | int (k : IntKind) | str | bool
def keyOk (kk : KK) (k : V) : Bool := match kk, k with
  | .int j, .int k _ => kEq j k
  | .str, .str _ _ => true
  | .bool, .bool _ => true
  | _, _ => false
def findK (kk : KK) (k : V) (l : List (V × V × Nat)) : Option (Option V) := match l with
  | [] => some none
  | (x, v, _) :: l => gd (keyOk kk x) (Bool.casesOn (vEq0 k x) (findK kk k l) (some (some v)))
def modK (k v : V) (l : List (V × V × Nat)) : List (V × V × Nat) := match l with
  | [] => []
  | (x, w, n) :: l => Bool.casesOn (vEq0 k x) ((x, w, n) :: modK k v l) ((k, v, n) :: l)
def delK (k : V) (l : List (V × V × Nat)) : List (V × V × Nat) := match l with
  | [] => []
  | (x, w, n) :: l => Bool.casesOn (vEq0 k x) ((x, w, n) :: delK k l) l
def forceEs {β : Type} (l : List (V × V × Nat)) (k : List (V × V × Nat) → β) : β := match l with
  | [] => k []
  | x :: l => forceEs l fun l => k (x :: l)
def lkV (ok : Bool) (z : V) (r : Option V) : Option V := Option.casesOn r (Bool.casesOn ok (some z) (some (.tup [z, .bool false]))) (fun v => Bool.casesOn ok (some v) (some (.tup [v, .bool true])))
def rLookup (kk : KK) (z : V) (ok : Bool) (m key : Ev) : Rd := fun f l h => ob (key f l) fun kv => gd (keyOk kk kv) (ob (m f l) fun m => onMap m (lkV ok z none) fun b => onMapO h b fun es _ => ob (findK kk kv es) (lkV ok z))
def rLenM (m : Ev) : Rd := fun f l h => ob (m f l) fun m => onMap m (some (.int .i64 (.ofNat 0))) fun b => onMapO h b fun es _ => mkN (lenL es 0)
def lenV (v : V) : Option Nat := match v with
  | .nils => some 0
  | .slc _ _ n _ _ => some n
  | .str n _ => some n
  | _ => none
def decLen (s : Sy) (v : V) : Option V := match v with
  | .dec i d => ob (s.len i d) fun k => some (.sym k 0)
  | _ => none
def rLenS (s : Sy) (x : Ev) : Rd := fun f l _ => ob (x f l) fun v => Bool.casesOn (isStr v) (decLen s v) (onStr v fun n _ => some (.int .i64 (.ofNat n)))
def rLenL (x : Ev) : Rd := fun f l _ => ob (x f l) fun v => onSlc v (some (.int .i64 (.ofNat 0))) fun _ _ n _ _ => some (.int .i64 (.ofNat n))
def rCap (elem es : Nat) (x : Ev) : Rd := fun f l h => ob (x f l) fun v => onSlc v (some (.int .i64 (.ofNat 0))) fun b off _ cap ex => Bool.casesOn ex (onCells h b fun _ _ e _ _ => gd (Nat.beq e elem) (gd (Nat.blt 0 es) (some (.capv b off es 0)))) (some (.int .i64 (.ofNat cap)))
def rExtract (i : Nat) (x : Ev) : Rd := fun f l _ => ob (x f l) fun v => onTup v fun vs => nthO vs i
def rTassert (t : Nat) (z : V) (ok : Bool) (x : Ev) : Rd := fun f l _ => ob (x f l) fun v => onIfc v (gd ok (some (.tup [z, .bool false]))) fun u v => Bool.casesOn (Nat.beq t u) (gd ok (some (.tup [z, .bool false]))) (Bool.casesOn ok (some v) (some (.tup [v, .bool true])))
def mmV (mx : Bool) (kd : IntKind) (l : List V) : Int → Option V := match l with
  | [] => fun a => some (.int kd a)
  | v :: l => fun a => onInt v fun _ b => Bool.casesOn (Bool.casesOn mx (iLt b a) (iLt a b)) (mmV mx kd l a) (mmV mx kd l b)
def symMax (s : Sy) (mx : Bool) (v w : V) : Option V := match v, w with
  | .sym i d, .int .i64 c => ob (s.lo i) fun lo => ob (s.hi i) fun hi => ob (ivLt (Int.add hi d) (Int.add lo d) c c) fun r => Bool.casesOn (Bool.casesOn mx r (notB r)) (some w) (some v)
  | .int .i64 c, .sym i d => ob (s.lo i) fun lo => ob (s.hi i) fun hi => ob (ivLt c c (Int.add hi d) (Int.add lo d)) fun r => Bool.casesOn (Bool.casesOn mx r (notB r)) (some w) (some v)
  | _, _ => none
def isInt (v : V) : Bool := onIntE v (fun _ _ => some true) none |>.isSome
def mmS (s : Sy) (mx : Bool) (l : List V) : V → Option V := match l with
  | [] => fun a => some a
  | v :: l => fun a => ob (onIntE a (fun kd x => onIntE v (fun j y => gd (kEq kd j) (Bool.casesOn (Bool.casesOn mx (iLt y x) (iLt x y)) (some a) (some (.int kd y)))) (symMax s mx a v)) (symMax s mx a v)) fun a => mmS s mx l a
def rMinMax (s : Sy) (mx : Bool) (x : Ev) (xs : Evs) : Rd := fun f l _ => ob (x f l) fun v => ob (xs f l) fun vs => mmS s mx vs v
def rUsData (x : Ev) : Rd := fun f l _ => ob (x f l) fun v => onSlc v (some .nilp) fun b off len _ _ => gd (Nat.blt 0 len) (some (.ptr b off))
def findN (n : Nat) (l : List (V × V × Nat)) : Option V := match l with
  | [] => none
  | (x, v, m) :: l => Bool.casesOn (Nat.beq m n) (findN n l) (some (.tup [x, v]))
def entryOf (h : H) (o : Eng.Obj) : Option V := match o with
  | .miter (some m) _ (n :: _) stepped => onMapO h m fun es clock => gd (Nat.beq clock stepped) (findN n es)
  | _ => none
def rEntry (x : Ev) : Rd := fun f l h => ob (x f l) fun v => onPtr v fun b o => gd (Nat.beq o 0) (ob (h.t.get b) fun o => entryOf h o)
def rBad : Rd := fun _ _ _ => none

/-! ## Operations that make one new block -/
abbrev Al := FT → List V → Option (Eng.Obj × (Nat → V))
def mkP (b : Nat) : V := .ptr b 0
def aAlloc (elem : Nat) (zero : List V) : Al := fun _ _ => ob (rowObj elem zero) fun o => some (o, mkP)
def aBox (elem : Nat) (x : Ev) : Al := fun f l => ob (x f l) fun v => Bool.casesOn v.isAny (ob (rowObj elem v.cells) fun o => some (o, mkP)) (some (.cells 0 .nil elem 0 false, mkP))
def aBSlice (elem len : Nat) (zero : List V) (p : Fill) : Al := fun f l => ob (p f l zero) fun cs => ob (rowObj elem cs) fun o => some (o, fun b => .slc b 0 len len true)
def aMkMap : Al := fun _ _ => some (.map [] 0, fun b => .map b)
def aMkSlice (e bytes : Nat) (zero : List V) (n c : Ev) : Al := fun f l => ob (n f l) fun n => onNat n fun n => ob (c f l) fun c => onNat c fun c =>
  gd (Nat.ble n c) (gd (Nat.ble (Nat.mul (Nat.succ bytes) c) maxLenN) (ob (rowObj e (repL zero c)) fun o => some (o, fun b => .slc b 0 n c true)))
def aCsb (e : Nat) (x : Ev) : Al := fun f l => ob (x f l) fun v => onStr v fun len val => gd (Nat.ble len maxLenN) (ob (strCells len val len 0) fun cs => T.fc (T.ofL cs) fun t => some (.cells len t e 0 true, fun b => .slc b 0 len 0 false))
def aRangeS (x : Ev) : Al := fun f l => ob (x f l) fun v => onStr v fun len val => some (.siter len val 0, mkP)

/-! ## Operations that turn the heap -/
abbrev Ef := FT → List V → H → Option (V × H)
def putCells {β : Type} (h : H) (b off : Nat) (l : List V) (k : H → Option β) : Option β :=
  onCells h b fun n t e fz sf => gd (Nat.ble (Nat.add off (lenL l 0)) n) (gd (Nat.ble fz off) (gd (all1 l) (T.fc (T.setL l t off) fun t => putO h b (.cells n t e fz sf) k)))
def retH (v : V) (h : H) : Option (V × H) := some (v, h)
def fStore1 (a v : Ev) : Ef := fun f l h => ob (a f l) fun p => onPtr p fun b off => ob (v f l) fun v => onCells h b fun n t e fz sf =>
  gd (Nat.blt off n) (gd (Nat.ble fz off) (gd v.one (T.fc (t.set off v) fun t => putO h b (.cells n t e fz sf) (retH undefV))))
def fStoreN (n : Nat) (a v : Ev) : Ef := fun f l h => ob (a f l) fun p => onPtr p fun b off => ob (v f l) fun v => gd (notB v.isAny) (gd (Nat.beq (lenL v.cells 0) n) (putCells h b off v.cells (retH undefV)))
def fMupd (kk : KK) (m key v : Ev) : Ef := fun f l h => ob (key f l) fun kv => gd (keyOk kk kv) (ob (m f l) fun m => onMap m none fun b => ob (v f l) fun v => gd (notB v.isAny) (onMapO h b fun es clock =>
  ob (findK kk kv es) fun r => Option.casesOn r (fN (Nat.succ clock) fun c => forceEs (es ++ [(kv, v, clock)]) fun es => putO h b (.map es c) (retH undefV)) (fun _ => forceEs (modK kv v es) fun es => putO h b (.map es clock) (retH undefV))))
def fDelete (kk : KK) (m key : Ev) : Ef := fun f l h => ob (key f l) fun kv => gd (keyOk kk kv) (ob (m f l) fun m => onMap m (retH undefV h) fun b => onMapO h b fun es clock =>
  ob (findK kk kv es) fun r => Option.casesOn r (retH undefV h) (fun _ => forceEs (delK kv es) fun es => putO h b (.map es clock) (retH undefV)))
def fClearM (m : Ev) : Ef := fun f l h => ob (m f l) fun m => onMap m (retH undefV h) fun b => onMapO h b fun _ clock => putO h b (.map [] clock) (retH undefV)
def fClearL (es : Nat) (z : List V) (x : Ev) : Ef := fun f l h => ob (x f l) fun v => onSlc v (retH undefV h) fun b off len _ _ => Nat.casesOn len (retH undefV h) fun _ => gd (Nat.beq (lenL z 0) es) (putCells h b off (repL z len) (retH undefV))
def fRangeM (x : Ev) : Ef := fun f l h => ob (x f l) fun v => onMap v (newO h (.miter none 0 [] 0) fun b h => some (.ptr b 0, h)) fun m => onMapO h m fun _ clock => newO h (.miter (some m) clock [] clock) fun b h => some (.ptr b 0, h)
def srcCells {β : Type} (h : H) (es n : Nat) (v : V) (k : List V → Option β) : Option β := match v with
  | .nils => k []
  | .slc b off _ _ _ => onCells h b fun _ t _ _ _ => ob (t.row (Nat.mul n es) off) k
  | .str len val => gd (Nat.beq es 1) (ob (strCells len val n 0) k)
  | _ => none
def newRow (h : H) (elem : Nat) (cs : List V) (k : Nat → H → Option (V × H)) : Option (V × H) := ob (rowObj elem cs) fun o => newO h o k
def doAppend (h : H) (elem es bytes : Nat) (s : V) (n : Nat) (new : List V) : Option (V × H) :=
  onSlc s (Nat.casesOn n (some (.nils, h)) fun _ => gd (Nat.ble (Nat.mul (Nat.mul 4 n) (Nat.succ bytes)) maxLenN) (newRow h elem new fun b h => some (.slc b 0 n 0 false, h))) fun b off len cap ex =>
  gd (Nat.blt 0 es) (fN (Nat.add len n) fun need => onCells h b fun bn t be fz sf => gd (Nat.beq be elem) (
    Bool.casesOn (Nat.ble need (bIf ex cap (capLo bn off es)))
      (gd (Nat.ble (Nat.mul (Nat.mul 4 need) (Nat.succ bytes)) maxLenN)
        (Bool.casesOn ex
          (gd (all1 new) (Bool.casesOn (Nat.beq off 0)
            none
            (fN (Nat.mul len es) fun at_ => gd (Nat.ble fz at_) (gd (Nat.ble at_ bn) (T.fc (T.setL new t at_) fun t => fN (Nat.mul need es) fun m => putO h b .dead fun h => newO h (.cells m t elem fz sf) fun c h => some (.slc c 0 need 0 false, h))))))
          (ob (t.row (Nat.mul len es) off) fun old => newRow h elem (old ++ new) fun b h => some (.slc b 0 need 0 false, h))))
      (putCells h b (Nat.add off (Nat.mul len es)) new fun h => some (.slc b off need cap ex, h))))
def fAppend (elem es bytes : Nat) (s x : Ev) : Ef := fun f l h => ob (s f l) fun s => ob (x f l) fun x => ob (lenV x) fun n => srcCells h es n x fun new => doAppend h elem es bytes s n new
def fAppendZ (elem es bytes : Nat) (z : List V) (s n : Ev) : Ef := fun f l h => ob (s f l) fun s => ob (n f l) fun n => onNat n fun n => gd (Nat.ble (Nat.mul n (Nat.succ bytes)) maxLenN) (doAppend h elem es bytes s n (repL z n))
def fCopy (es : Nat) (d s : Ev) : Ef := fun f l h => ob (d f l) fun d => ob (s f l) fun s => ob (lenV s) fun n => onSlc d (some (.int .i64 (.ofNat 0), h)) fun b off len _ _ =>
  fN (bIf (Nat.ble n len) n len) fun n => srcCells h es n s fun l => putCells h b off l (retH (.int .i64 (.ofNat n)))
def isP (v : V) : Option Bool := match v with
  | .nilp => some true
  | .ptr _ _ => some true
  | _ => none
def fUString (elem : Nat) (p n : Ev) : Ef := fun f l h => ob (n f l) fun n => onNat n fun n => ob (p f l) fun p => ob (isP p) fun _ => Nat.casesOn n (some (.str 0 0, h)) fun _ => onPtr p fun b off => onCells h b fun m t e fz sf => gd (Nat.beq e elem) (gd (Nat.ble (Nat.add off n) m) (gd (Nat.ble n maxLenN)
  (ob (t.row n off) fun l => ob (packV l 0) fun v => gd (notB sf) (fN (bIf (Nat.ble (Nat.add off n) fz) fz (Nat.add off n)) fun z => putO h b (.cells m t e z sf) fun h => ob (mkS n v) fun v => some (v, h)))))
def nextS (h : H) (b : Nat) (o : Eng.Obj) : Option (V × H) := match o with
  | .siter len val pos => Bool.casesOn (Nat.blt pos len) (some (.tup [.bool false], h)) (fN (sByte len val pos) fun c => gd (Nat.blt c 128) (fN (Nat.succ pos) fun p => putO h b (.siter len val p) (retH (.tup [.bool true, .int .i64 (.ofNat pos), .int .i32 (.ofNat c)]))))
  | _ => none
def fNextS (x : Ev) : Ef := fun f l h => ob (x f l) fun v => onPtr v fun b o => gd (Nat.beq o 0) (ob (h.t.get b) fun o => nextS h b o)

/-! ## What comes of several kinds: calls, a map's next entry -/
abbrev Mu := K → FT → List V → H → Res
def mCall (g : Nat) (xs : Evs) : Mu := fun K f l h => ob (xs f l) fun a => K g a h
def mCallV (g : Ev) (xs : Evs) : Mu := fun K f l h => ob (g f l) fun v => onFn v fun g a b => ob (xs f l) fun l => K g (a ++ (l ++ b)) h
def findM (l : List (Nat × Nat)) (t : Nat) : Option Nat := match l with
  | [] => none
  | (u, f) :: l => Bool.casesOn (Nat.beq t u) (findM l t) (some f)
/-- 'ms': of each type that has the method its function. -/
def mInvoke (ms : List (Nat × Nat)) (r : Ev) (xs : Evs) : Mu := fun K f l h => ob (r f l) fun v => onIfc v none fun t v => ob (findM ms t) fun g => ob (xs f l) fun l => K g (v :: l) h
def memN (n : Nat) (l : List Nat) : Bool := match l with
  | [] => false
  | m :: l => Bool.casesOn (Nat.beq n m) (memN n l) true
def fresh (since : Nat) (seen : List Nat) (l : List (V × V × Nat)) : Option (List (V × V × Nat)) := match l with
  | [] => some []
  | (k, v, n) :: l => gd (Nat.blt n since) (ob (fresh since seen l) fun l => Bool.casesOn (memN n seen) (some ((k, v, n) :: l)) (some l))
def nextL (m since : Nat) (seen : List Nat) (clock b : Nat) (h : H) (l : List (V × V × Nat)) : Res := match l with
  | [] => some []
  | (x, v, n) :: l => putO h b (.miter (some m) since (n :: seen) clock) fun h' => ob (nextL m since seen clock b h l) fun r => some ((.tup [.bool true, x, v], h') :: r)
def nextM (h : H) (b : Nat) (o : Eng.Obj) : Res := match o with
  | .miter none _ _ _ => some [(.tup [.bool false], h)]
  | .miter (some m) since seen last => onMapO h m fun es clock => gd (Nat.beq clock last) (gd (Nat.ble since last) (ob (fresh since seen es) fun l => List.casesOn l (some [(.tup [.bool false], h)]) (fun x l => nextL m since seen clock b h (x :: l))))
  | _ => none
def mNextM (x : Ev) : Mu := fun _ f l h => ob (x f l) fun v => onPtr v fun b o => gd (Nat.beq o 0) (ob (h.t.get b) fun o => nextM h b o)

/-! ## Code -/
abbrev Ls := List (FT → H → Res)
abbrev Code := K → Ls → FT → H → Res
/-- Code inside a region: with the region's own list. -/
abbrev RCode := K → Ls → FT → List V → H → Res
def catR (a b : Res) : Res := ob a fun a => ob b fun b => some (a ++ b)
def eachR (k : V → H → Res) (l : List (V × H)) : Res := match l with
  | [] => some []
  | p :: l => Prod.casesOn p fun v h => List.casesOn l (k v h) (fun _ _ => catR (k v h) (eachR k l))

/-- What becomes of a result: it is dropped; laid onto the list; and into a kept slot as well. -/
abbrev Dst := V → FT → List V → (FT → List V → Res) → Res
def d0 : Dst := fun _ f l k => k f l
def dL : Dst := fun v f l k => k f (v :: l)
def dG (u : Up) : Dst := fun v f l k => u f v fun f => k f (v :: l)

def sR (r : Rd) (d : Dst) (rest : RCode) : RCode := fun K L f l h => ob (r f l h) fun v => d v f l fun f l => rest K L f l h
def sA (a : Al) (d : Dst) (rest : RCode) : RCode := fun K L f l h => ob (a f l) fun p => Prod.casesOn p fun o mk => newO h o fun b h => d (mk b) f l fun f l => rest K L f l h
def sE (e : Ef) (d : Dst) (rest : RCode) : RCode := fun K L f l h => ob (e f l h) fun p => Prod.casesOn p fun v h => d v f l fun f l => rest K L f l h
def sM (m : Mu) (d : Dst) (rest : RCode) : RCode := fun K L f l h => ob (m K f l h) (eachR fun v h => d v f l fun f l => rest K L f l h)
/-- An assignment to a kept slot alone. -/
def sG (x : Ev) (u : Up) (rest : RCode) : RCode := fun K L f l h => ob (x f l) fun v => u f v fun f => rest K L f l h
/-- A pointer that must not be nil. -/
def sP (x : Ev) (rest : RCode) : RCode := fun K L f l h => ob (x f l) fun v => onPtr v fun _ _ => rest K L f l h
/-- A guarded step: if it is not wanted the result is undefined. -/
def wantedV (w : Bool) (v : V) : Option Bool := match v with
  | .bool b => some (Bool.casesOn w (notB b) b)
  | .any => none
  | _ => some false
def sW (g : Ev) (w : Bool) (d : Dst) (yes rest : RCode) : RCode := fun K L f l h => ob (g f l) fun v => ob (wantedV w v) fun b => Bool.casesOn b (d undefV f l fun f l => rest K L f l h) (yes K L f l h)
/-- In a region whose order is drawn: a block's number is kept for it; it is laid later; a reading is made again. -/
def sRes (a : Al) (d : Dst) (rest : RCode) : RCode := fun K L f l h => ob (a f l) fun p => Prod.casesOn p fun _ mk => fN h.next fun n => fN (Nat.succ n) fun m => d (mk n) f l fun f l => rest K L f l ⟨m, h.t⟩
def blockOf (v : V) : Option Nat := match v with
  | .ptr b _ => some b
  | .slc b _ _ _ _ => some b
  | .map b => some b
  | _ => none
def sLay (a : Al) (e : Ev) (rest : RCode) : RCode := fun K L f l h => ob (a f l) fun p => Prod.casesOn p fun o _ => ob (e f l) fun v => ob (blockOf v) fun b => putO h b o fun h => rest K L f l h
mutual
def vEq : V → V → Bool
  | .bool a, .bool b => Bool.casesOn a (notB b) b
  | .int j a, .int k b => Bool.casesOn (kEq j k) false (iEq a b)
  | .str la a, .str lb b => sEq la a lb b
  | .ptr a o, .ptr b p => Bool.casesOn (Nat.beq a b) false (Nat.beq o p)
  | .slc a o n c e, .slc b p m d g => Bool.casesOn (Nat.beq a b) false (Bool.casesOn (Nat.beq o p) false (Bool.casesOn (Nat.beq n m) false (Bool.casesOn (Nat.beq c d) false (Bool.casesOn e (notB g) g))))
  | .agg a, .agg b => vEqL a b
  | .nilp, .nilp => true
  | .nils, .nils => true
  | .nilm, .nilm => true
  | .map a, .map b => Nat.beq a b
  | .nilf, .nilf => true
  | .nili, .nili => true
  | .ifc t a, .ifc u b => Bool.casesOn (Nat.beq t u) false (vEq a b)
  | .tup a, .tup b => vEqL a b
  | .sym i d, .sym j e => Bool.casesOn (Nat.beq i j) false (iEq d e)
  | .dec i d, .dec j e => Bool.casesOn (Nat.beq i j) false (iEq d e)
  | .fn (.func f) a b, .fn (.func g) c d => Bool.casesOn (Nat.beq f g) false (Bool.casesOn (vEqL a c) false (vEqL b d))
  | _, _ => false
def vEqL : List V → List V → Bool
  | [], [] => true
  | x :: l, y :: m => Bool.casesOn (vEq x y) false (vEqL l m)
  | _, _ => false
end
def sAgain (r : Rd) (e : Ev) (rest : RCode) : RCode := fun K L f l h => ob (r f l h) fun v => ob (e f l) fun w => gd (vEq v w) (rest K L f l h)
def sAgainW (g : Ev) (w : Bool) (yes rest : RCode) : RCode := fun K L f l h => ob (g f l) fun v => ob (wantedV w v) fun b => Bool.casesOn b (rest K L f l h) (yes K L f l h)
def endR (c : Code) : RCode := fun K L f _ h => c K L f h
def begR (c : RCode) : Code := fun K L f h => c K L f [] h
def cnd (p : Ac) (a b : Code) : Code := fun K L f h => ob (p f) fun v => onBool v fun t => Bool.casesOn t (b K L f h) (a K L f h)
def cndK (t : Bool) (a b : Code) : Code := Bool.casesOn t b a
def iterL (n : Nat) : Code → K → Ls → FT → H → Res :=
  Nat.rec (motive := fun _ => Code → K → Ls → FT → H → Res) (fun _ _ _ _ _ => none) (fun _ ih c K L f h => c K ((fun f h => ih c K L f h) :: L) f h) n
def lp (c : Code) : Code := fun K L f h => iterL 1000000 c K L f h
def agn : Code := fun _ L f h => List.casesOn L none fun g _ => g f h
def pop1 (c : Code) : Code := fun K L f h => List.casesOn L none fun _ L => c K L f h
def badC : Code := fun _ _ _ _ => none
abbrev Rs := FT → H → Option (List V)
def rNil : Rs := fun _ _ => some []
def rTmp (x : Ac) (r : Rs) : Rs := fun f h => ob (x f) fun v => ob (r f h) fun l => some (v :: l)
def rCell1 (x : Ac) (r : Rs) : Rs := fun f h => ob (x f) fun p => onPtr p fun b o => onCells h b fun _ t _ _ _ => ob (t.get o) fun v => ob (r f h) fun l => some (v :: l)
def rCellN (n : Nat) (x : Ac) (r : Rs) : Rs := fun f h => ob (x f) fun p => onPtr p fun b o => onCells h b fun _ t _ _ _ => ob (t.row n o) fun v => ob (r f h) fun l => some (.agg v :: l)
def retV (l : List V) : V := List.casesOn l (.tup []) (fun v m => List.casesOn m v (fun _ _ => .tup l))
def retC (r : Rs) : Code := fun _ _ f h => ob (r f h) fun l => some [(retV l, h)]

/-! ## Types -/
inductive D where
  | bool | int (k : IntKind) | str
  | ptr (e : Nat) | slc (e : Nat) | arr (n e : Nat) | map (k e : Nat)
  | st (fs : List (Nat × Nat))
  | ifc | fn | uptr | other
structure TI where
  d : D
  size : Nat
  bytes : Nat
  zero : V
def TI.agg (t : TI) : Bool := match t.d with
  | .st _ => true
  | .arr _ _ => true
  | _ => false
mutual
def conv : Value → Option V
  | .bool b => some (.bool b)
  | .int k n => fI n fun n => some (.int k n)
  | .string s => fN s.size fun a => fN (packB s) fun b => some (.str a b)
  | .pointer none => some .nilp
  | .slice none 0 0 => some .nils
  | .map none => some .nilm
  | .nilFunc => some .nilf
  | .nilIface => some .nili
  | .agg ⟨l⟩ => ob (convL l) fun l => some (.agg l)
  | _ => none
def convL : List Value → Option (List V)
  | [] => some []
  | v :: l => ob (conv v) fun v => ob (convL l) fun l => some (v :: l)
end

/-! ## The compiler -/
/-- Of a function: its types, methods, symbols; the depth of its frame's tree, its slots; which slots are kept (bits). -/
structure Cx where
  ty : Nat → Option TI
  ms : String → List (Nat × Nat)
  sy : Sy
  d : Nat
  n : Nat
  g : Nat
def bitN (g t : Nat) : Bool := Nat.beq (Nat.mod (Nat.shiftRight g t) 2) 1
def Cx.kept (c : Cx) (t : Nat) : Bool := bitN c.g t

/-- Where a slot's value is: on the list (counted from its bottom); in a kept slot; it is a constant; an address inside what another one points to. -/
inductive Src where
  | loc (a : Nat)
  | ft (t : Nat)
  | con (v : V)
  | fa (s : Src) (off : Nat)
  | bad
structure Ent where
  t : Nat
  s : Src
  p : Bool
  ty : Nat
abbrev Env := List Ent
def lookE (env : Env) (t : Nat) : Option Ent := match env with
  | [] => none
  | e :: l => Bool.casesOn (Nat.beq e.t t) (lookE l t) (some e)
def Src.on (d : Nat) : Src → Bool
  | .loc _ => false
  | .ft t => Nat.beq t d
  | .con _ => false
  | .fa s _ => s.on d
  | .bad => false
/-- The entries that look into kept slot d are known no more. -/
def killE (d : Nat) (env : Env) : Env := match env with
  | [] => []
  | e :: l => Bool.casesOn (e.s.on d) e ⟨e.t, .bad, false, 0⟩ :: killE d l
def eAt : Nat → Option Ev
  | 0 => some e0
  | k + 1 => ob (eAt k) fun e => some (eS e)
def evSrc (c : Cx) (n : Nat) : Src → Option Ev
  | .loc a => gd (Nat.blt a n) (eAt (Nat.sub (Nat.sub n 1) a))
  | .ft t => gd (c.kept t) (gd (Nat.blt t c.n) (ob (accOf c.d t) fun p => some (eF p)))
  | .con v => some (eK v)
  | .fa s off => ob (evSrc c n s) fun e => some (eFa e off)
  | .bad => none
/-- What an operand is: its source, whether it is surely an address, its type. -/
def srcOf (c : Cx) (env : Env) : Operand → Option Ent
  | .tmp t => Option.casesOn (lookE env t) (gd (c.kept t) (some ⟨t, .ft t, false, 0⟩)) some
  | .const v => ob (conv v) fun v => some ⟨0, .con v, false, 0⟩
  | .global g => gd (Nat.blt g c.sy.ng) (some ⟨0, .con (.ptr g 0), true, 0⟩)
  | .func f => some ⟨0, .con (.fn (.func f) [] []), false, 0⟩
def opE (c : Cx) (env : Env) (n : Nat) (x : Operand) : Option Ev := ob (srcOf c env x) fun e => evSrc c n e.s
def opEs (c : Cx) (env : Env) (n : Nat) : List Operand → Option Evs
  | [] => some eNil
  | x :: l => ob (opE c env n x) fun x => ob (opEs c env n l) fun l => some (eCons x l)
def bdOf (c : Cx) (env : Env) (n : Nat) : Option Operand → Option Bd
  | none => some bdN
  | some x => ob (opE c env n x) fun x => some (bdS x)
def fieldParts (c : Cx) (env : Env) (n : Nat) (fs : List (Nat × Nat)) : List (Nat × Operand) → Option Fill
  | [] => some fNil
  | (i, x) :: l => ob (nthO fs i) fun p => Prod.casesOn p fun off t => ob (c.ty t) fun ti => ob (opE c env n x) fun x => ob (fieldParts c env n fs l) fun l => some (fPart off ti.size x l)
def rowParts (c : Cx) (env : Env) (n es : Nat) : List (Nat × Operand) → Option Fill
  | [] => some fNil
  | (i, x) :: l => fN (Nat.mul i es) fun off => ob (opE c env n x) fun x => ob (rowParts c env n es l) fun l => some (fPart off es x l)
def kkOf (d : D) : Option KK := match d with
  | .int k => some (.int k)
  | .str => some .str
  | .bool => some .bool
  | _ => none
/-- An operation, by what it does. 'rd true' looks into the heap. -/
inductive CO where
  | rd (heap : Bool) (r : Rd)
  | al (a : Al)
  | ef (e : Ef)
  | mu (m : Mu)

def cBuiltin (c : Cx) (env : Env) (n : Nat) (b : Builtin) (at_ : List Nat) (args : List Operand) : Option CO :=
  match b, at_, args with
  | .len, t :: _, [x] => ob (c.ty t) fun ti => ob (opE c env n x) fun x =>
    match ti.d with
    | .str => some (.rd false (rLenS c.sy x))
    | .slc _ => some (.rd false (rLenL x))
    | .map _ _ => some (.rd true (rLenM x))
    | .arr m _ => some (.rd false (rMov (eK (.int .i64 (.ofNat m)))))
    | _ => none
  | .cap, t :: _, [x] => ob (c.ty t) fun ti => ob (opE c env n x) fun x =>
    match ti.d with
    | .slc e => ob (c.ty e) fun ei => some (.rd true (rCap e ei.size x))
    | _ => none
  | .append, t :: u :: _, [s, x] => ob (c.ty t) fun ti => ob (c.ty u) fun ui => ob (opE c env n s) fun s => ob (opE c env n x) fun x =>
    match ti.d, ui.d with
    | .slc e, .slc _ => ob (c.ty e) fun ei => some (.ef (fAppend e ei.size ei.bytes s x))
    | .slc e, .str => ob (c.ty e) fun ei => some (.ef (fAppend e ei.size ei.bytes s x))
    | .slc e, .int _ => ob (c.ty e) fun ei => fL ei.zero.cells fun z => some (.ef (fAppendZ e ei.size ei.bytes z s x))
    | _, _ => none
  | .clear, t :: _, [x] => ob (c.ty t) fun ti => ob (opE c env n x) fun x =>
    match ti.d with
    | .map _ _ => some (.ef (fClearM x))
    | .slc e => ob (c.ty e) fun ei => fL ei.zero.cells fun z => some (.ef (fClearL ei.size z x))
    | _ => none
  | .copy, t :: _, [d, s] => ob (c.ty t) fun ti => ob (opE c env n d) fun d => ob (opE c env n s) fun s =>
    match ti.d with
    | .slc e => ob (c.ty e) fun ei => some (.ef (fCopy ei.size d s))
    | _ => none
  | .delete, t :: _, [m, k] => ob (c.ty t) fun ti => ob (opE c env n m) fun m => ob (opE c env n k) fun k =>
    match ti.d with
    | .map kt _ => ob (c.ty kt) fun ki => ob (kkOf ki.d) fun kk => some (.ef (fDelete kk m k))
    | _ => none
  | .max, _, x :: xs => ob (opE c env n x) fun x => ob (opEs c env n xs) fun xs => some (.rd false (rMinMax c.sy true x xs))
  | .min, _, x :: xs => ob (opE c env n x) fun x => ob (opEs c env n xs) fun xs => some (.rd false (rMinMax c.sy false x xs))
  | .unsafeString, t :: _, [p, k] => ob (c.ty t) fun ti => ob (opE c env n p) fun p => ob (opE c env n k) fun k =>
    match ti.d with
    | .ptr e => ob (c.ty e) fun ei => gd (Nat.beq ei.size 1) (some (.ef (fUString e p k)))
    | _ => none
  | .unsafeSliceData, _, [x] => ob (opE c env n x) fun x => some (.rd false (rUsData x))
  | _, _, _ => none

def cMove (x : Operand) (c : Cx) (env : Env) (n : Nat) : Option CO := ob (opE c env n x) fun x => some (.rd false (rMov x))
def cPick (p a b : Operand) (c : Cx) (env : Env) (n : Nat) : Option CO := ob (opE c env n p) fun p => ob (opE c env n a) fun a => ob (opE c env n b) fun b => some (.rd false (rPick p a b))
def cAlloc (e : Nat) (c : Cx) (_ : Env) (_ : Nat) : Option CO := ob (c.ty e) fun ti => fL ti.zero.cells fun z => some (.al (aAlloc e z))
def cBox (e : Nat) (x : Operand) (c : Cx) (env : Env) (n : Nat) : Option CO := ob (opE c env n x) fun x => some (.al (aBox e x))
def cBuild (t : Nat) (ps : Array (Nat × Operand)) (c : Cx) (env : Env) (n : Nat) : Option CO := ob (c.ty t) fun ti => fL ti.zero.cells fun z =>
    match ti.d with
    | .st fs => ob (fieldParts c env n fs ps.toList) fun ps => some (.rd false (rBuild z ps))
    | .arr _ e => ob (c.ty e) fun ei => ob (rowParts c env n ei.size ps.toList) fun ps => some (.rd false (rBuild z ps))
    | _ => none
def cBuildSlice (t len : Nat) (ps : Array (Nat × Operand)) (c : Cx) (env : Env) (n : Nat) : Option CO := ob (c.ty t) fun ti =>
    match ti.d with
    | .slc e => ob (c.ty e) fun ei => gd (Nat.ble (Nat.mul (Nat.succ ei.size) len) 16777216) (ob (rowParts c env n ei.size ps.toList) fun ps => fL (repL ei.zero.cells len) fun z => some (.al (aBSlice e len z ps)))
    | _ => none
def cLoad (t : Nat) (a : Operand) (c : Cx) (env : Env) (n : Nat) : Option CO := ob (c.ty t) fun ti => ob (opE c env n a) fun a => Bool.casesOn ti.agg (some (.rd true (rLoad1 c.sy a))) (some (.rd true (rLoadN c.sy ti.size a)))
def cStore (t : Nat) (a x : Operand) (c : Cx) (env : Env) (n : Nat) : Option CO := ob (c.ty t) fun ti => ob (opE c env n a) fun a => ob (opE c env n x) fun x => Bool.casesOn ti.agg (gd (Nat.beq ti.size 1) (some (.ef (fStore1 a x)))) (some (.ef (fStoreN ti.size a x)))
def cNilCheck (x : Operand) (c : Cx) (env : Env) (n : Nat) : Option CO := ob (opE c env n x) fun x => some (.rd false (rNchk x))
def ekOf (ty : Nat → Option TI) (d : D) : Option EK := match d with
  | .bool => some .bool
  | .ptr e => ob (ty e) fun ei => Bool.casesOn (Nat.blt 0 ei.size) (some .nil) (some .ptr)
  | .slc _ => some .slc
  | .map _ _ => some .map
  | .fn => some .fn
  | .ifc => some .ifc
  | .uptr => some .ptr
  | _ => none
def isK (x : Operand) : Bool := match x with
  | .const _ => true
  | _ => false
/-- Interface values, one of them a constant. -/
def ekC (x y : Operand) (k : EK) : EK := match k with
  | .ifc => Bool.casesOn (isK x) (Bool.casesOn (isK y) .ifc .ifcK) .ifcK
  | k => k
def cBinOp (op : BinOp) (t : Nat) (x0 y0 : Operand) (c : Cx) (env : Env) (n : Nat) : Option CO := ob (c.ty t) fun ti => ob (opE c env n x0) fun x => ob (opE c env n y0) fun y =>
    match ti.d with
    | .int k => match op with
      | .shl => some (.rd false (rShift iShl x y))
      | .shr => some (.rd false (rShift iShr x y))
      | op => Bool.casesOn (kEq k .i64) (some (.rd false (rBinI (iOp op) x y))) (some (.rd false (rBinJ c.sy op (iOp op) x y)))
    | .str => some (.rd false (rBinS op (sOp op) x y))
    | .st _ => ob (c.sy.eqs t) fun ks => (match op with
      | .eql => some (.rd false (rEqS c.sy ks false x y))
      | .neq => some (.rd false (rEqS c.sy ks true x y))
      | _ => none)
    | .arr _ _ => none
    | d => ob (ekOf c.ty d) fun k => match op with
      | .eql => some (.rd true (rEqP (ekC x0 y0 k) false x y))
      | .neq => some (.rd true (rEqP (ekC x0 y0 k) true x y))
      | _ => none
def cUnOp (op : UnOp) (x : Operand) (c : Cx) (env : Env) (n : Nat) : Option CO := ob (opE c env n x) fun x => match op with
    | .not => some (.rd false (rNot x))
    | .neg => some (.rd false (rNeg x))
    | .xor => some (.rd false (rBNot x))
    | _ => none
def isU8 (t : TI) : Bool := match t.d with
  | .int .u8 => Nat.beq t.size 1
  | _ => false
def cConvert (s d : Nat) (x : Operand) (c : Cx) (env : Env) (n : Nat) : Option CO := ob (c.ty s) fun si => ob (c.ty d) fun di => ob (opE c env n x) fun x =>
    match si.d, di.d with
    | .int _, .int k => some (.rd false (rCii k x))
    | .str, .str => some (.rd false (rCss x))
    | .str, .slc e => ob (c.ty e) fun ei => gd (isU8 ei) (some (.al (aCsb e x)))
    | .slc e, .str => ob (c.ty e) fun ei => gd (isU8 ei) (some (.rd true (rCbs x)))
    | .int _, .str => some (.rd false (rCis x))
    | .ptr e, .uptr => ob (c.ty e) fun ei => gd (Nat.blt 0 ei.size) (some (.rd true (rCpu x)))
    | .uptr, .ptr u => ob (c.ty u) fun ui => gd (Nat.blt 0 ui.size) (some (.rd true (rCup u ui.size x)))
    | _, _ => none
def cMakeInterface (t : Nat) (x : Operand) (c : Cx) (env : Env) (n : Nat) : Option CO := ob (c.ty t) fun ti => match ti.d with
    | .ifc => none
    | _ => ob (opE c env n x) fun x => some (.rd false (rMkIfc t x))
def cMakeFunc (fn : Fn) (a b : Array Operand) (c : Cx) (env : Env) (n : Nat) : Option CO := ob (opEs c env n a.toList) fun a => ob (opEs c env n b.toList) fun b => some (.rd false (rMkFn fn a b))
def cMakeMap (r : Option Operand) (_ : Cx) (_ : Env) (_ : Nat) : Option CO := match r with
    | none => some (.al aMkMap)
    | some _ => none
def cMakeSlice (t : Nat) (k m : Operand) (c : Cx) (env : Env) (n : Nat) : Option CO := ob (c.ty t) fun ti => ob (opE c env n k) fun k => ob (opE c env n m) fun m =>
    match ti.d with
    | .slc e => ob (c.ty e) fun ei => fL ei.zero.cells fun z => some (.al (aMkSlice e ei.bytes z k m))
    | _ => none
def cSlice (t : Nat) (x : Operand) (lo hi0 mx : Option Operand) (c : Cx) (env : Env) (n : Nat) : Option CO := ob (c.ty t) fun ti => ob (opE c env n x) fun x => ob (bdOf c env n lo) fun lo => ob (bdOf c env n hi0) fun hi =>
    match ti.d with
    | .str => match mx with
      | none => some (.rd false (rSliceS lo hi x))
      | some _ => none
    | .slc e => ob (c.ty e) fun ei => match mx with
      | none => some (.rd true (rSliceL e ei.size lo hi x))
      | some m => ob hi0 fun _ => ob (opE c env n m) fun m => some (.rd true (rSliceL3 e ei.size lo hi m x))
    | .arr k e => ob (c.ty e) fun ei => match mx with
      | none => some (.rd false (rSliceA k ei.size lo hi x))
      | some _ => none
    | _ => none
def cFieldAddr (t : Nat) (x : Operand) (f : Nat) (c : Cx) (env : Env) (n : Nat) : Option CO := ob (c.ty t) fun ti => ob (opE c env n x) fun x =>
    match ti.d with
    | .st fs => ob (nthO fs f) fun p => Prod.casesOn p fun off ft => ob (c.ty ft) fun fi => gd (Nat.blt 0 fi.size) (some (.rd false (rMov (eFa x off))))
    | _ => none
def cField (t : Nat) (x : Operand) (f : Nat) (c : Cx) (env : Env) (n : Nat) : Option CO := ob (c.ty t) fun ti => ob (opE c env n x) fun x =>
    match ti.d with
    | .st fs => ob (nthO fs f) fun p => Prod.casesOn p fun off ft => ob (c.ty ft) fun fi => Bool.casesOn fi.agg (some (.rd false (rField1 off x))) (some (.rd false (rFieldN off fi.size x)))
    | _ => none
def cIndexAddr (t : Nat) (x i : Operand) (c : Cx) (env : Env) (n : Nat) : Option CO := ob (c.ty t) fun ti => ob (opE c env n x) fun x => ob (opE c env n i) fun i =>
    match ti.d with
    | .slc e => ob (c.ty e) fun ei => some (.rd false (rIaddrL ei.size x i))
    | .arr m e => ob (c.ty e) fun ei => some (.rd false (rIaddrA m ei.size x i))
    | _ => none
def cIndex (t : Nat) (x i : Operand) (c : Cx) (env : Env) (n : Nat) : Option CO := ob (c.ty t) fun ti => ob (opE c env n x) fun x => ob (opE c env n i) fun i =>
    match ti.d with
    | .str => some (.rd false (rIdxS x i))
    | .arr m e => ob (c.ty e) fun ei => Bool.casesOn ei.agg (some (.rd false (rIdxA1 m ei.size x i))) (some (.rd false (rIdxAN m ei.size ei.size x i)))
    | _ => none
def cLookup (t : Nat) (m k : Operand) (ok : Bool) (c : Cx) (env : Env) (n : Nat) : Option CO := ob (c.ty t) fun ti => ob (opE c env n m) fun m => ob (opE c env n k) fun k =>
    match ti.d with
    | .map kt e => ob (c.ty kt) fun ki => ob (kkOf ki.d) fun kk => ob (c.ty e) fun ei => some (.rd true (rLookup kk ei.zero ok m k))
    | _ => none
def cMapUpdate (t : Nat) (m k v : Operand) (c : Cx) (env : Env) (n : Nat) : Option CO := ob (c.ty t) fun ti => ob (opE c env n m) fun m => ob (opE c env n k) fun k => ob (opE c env n v) fun v =>
    match ti.d with
    | .map kt _ => ob (c.ty kt) fun ki => ob (kkOf ki.d) fun kk => some (.ef (fMupd kk m k v))
    | _ => none
def cRange (t : Nat) (x : Operand) (c : Cx) (env : Env) (n : Nat) : Option CO := ob (c.ty t) fun ti => ob (opE c env n x) fun x =>
    match ti.d with
    | .str => some (.al (aRangeS x))
    | .map _ _ => some (.ef (fRangeM x))
    | _ => none
def cNext (x : Operand) (s : Bool) (c : Cx) (env : Env) (n : Nat) : Option CO := ob (opE c env n x) fun x => Bool.casesOn s (some (.mu (mNextM x))) (some (.ef (fNextS x)))
def cEntry (x : Operand) (c : Cx) (env : Env) (n : Nat) : Option CO := ob (opE c env n x) fun x => some (.rd true (rEntry x))
def cTypeAssert (x : Operand) (t : Nat) (ok : Bool) (c : Cx) (env : Env) (n : Nat) : Option CO := ob (c.ty t) fun ti => ob (opE c env n x) fun x =>
    match ti.d with
    | .ifc => none
    | _ => some (.rd false (rTassert t ti.zero ok x))
def cExtract (x : Operand) (i : Nat) (c : Cx) (env : Env) (n : Nat) : Option CO := ob (opE c env n x) fun x => some (.rd false (rExtract i x))
def cCall (p : Call) (c : Cx) (env : Env) (n : Nat) : Option CO :=
    match p.callee with
    | .builtin b => cBuiltin c env n b p.argTypes.toList p.args.toList
    | .invoke r name => ob (opE c env n r) fun r => ob (opEs c env n p.args.toList) fun l => some (.mu (mInvoke (c.ms name) r l))
    | .value (.func f) => ob (opEs c env n p.args.toList) fun l => some (.mu (mCall f l))
    | .value f => ob (opE c env n f) fun f => ob (opEs c env n p.args.toList) fun l => some (.mu (mCallV f l))
def cOpF (op : Op) : Cx → Env → Nat → Option CO := match op with
  | .move x => cMove x
  | .assign x => cMove x
  | .pick p a b => cPick p a b
  | .alloc e => cAlloc e
  | .box e x => cBox e x
  | .build t ps => cBuild t ps
  | .buildSlice t len ps => cBuildSlice t len ps
  | .load t a => cLoad t a
  | .store t a x => cStore t a x
  | .nilCheck x => cNilCheck x
  | .binOp op t x y _ => cBinOp op t x y
  | .unOp op _ x => cUnOp op x
  | .convert s d x => cConvert s d x
  | .makeInterface t x => cMakeInterface t x
  | .makeFunc fn a b => cMakeFunc fn a b
  | .makeMap _ r => cMakeMap r
  | .makeSlice t k m => cMakeSlice t k m
  | .slice t x lo hi mx => cSlice t x lo hi mx
  | .fieldAddr t x f => cFieldAddr t x f
  | .field t x f => cField t x f
  | .indexAddr t x i => cIndexAddr t x i
  | .index t x i => cIndex t x i
  | .lookup t m k ok => cLookup t m k ok
  | .mapUpdate t m k v => cMapUpdate t m k v
  | .insert t m k v => cMapUpdate t m k v
  | .range t x => cRange t x
  | .next x s => cNext x s
  | .entry x => cEntry x
  | .typeAssert x _ t ok => cTypeAssert x t ok
  | .extract x i => cExtract x i
  | .call p => cCall p
  | _ => fun _ _ _ => none
def cOp (c : Cx) (env : Env) (n : Nat) (o : Oper) : Option CO := cOpF o.op c env n

def dstOf (c : Cx) (d : Option Nat) : Option Dst := match d with
  | none => some d0
  | some d => gd (Nat.blt d c.n) (Bool.casesOn (c.kept d) (some dL) (ob (updOf c.d d) fun u => some (dG u)))
/-- The list's length, and the entries, behind an operation whose result is laid down. -/
def envAfter (c : Cx) (env : Env) (n : Nat) (d : Option Nat) (p : Bool) (ty : Nat) : Env := match d with
  | none => env
  | some d => ⟨d, .loc n, p, ty⟩ :: Bool.casesOn (c.kept d) env (killE d env)
def lenAfter (n : Nat) (d : Option Nat) : Nat := match d with
  | none => n
  | some _ => Nat.succ n
def isPtrTy (c : Cx) (t : Nat) : Bool := match c.ty t with
  | some ti => match ti.d with
    | .ptr _ => true
    | _ => false
  | none => false
/-- An alias at compile time: what the slot is. -/
def aliasOf (c : Cx) (env : Env) (o : Oper) : Option (Ent × Bool) :=
  match o.guard with
  | some _ => none
  | none => match o.dst with
    | none => none
    | some d => gd (Nat.blt d c.n) (Bool.casesOn (c.kept d)
      (match o.op with
      | .move x => ob (srcOf c env x) fun e => some (⟨d, e.s, e.p, o.type⟩, false)
      | .assign x => ob (srcOf c env x) fun e => some (⟨d, e.s, e.p, o.type⟩, false)
      | .nilCheck x => ob (srcOf c env x) fun e => Bool.casesOn e.p (gd (isPtrTy c e.ty) (some (⟨d, e.s, true, e.ty⟩, true))) (some (⟨d, e.s, true, e.ty⟩, false))
      | .fieldAddr t x f => ob (srcOf c env x) fun e => gd e.p (ob (c.ty t) fun ti => match ti.d with
        | .st fs => ob (nthO fs f) fun p => Prod.casesOn p fun off ft => ob (c.ty ft) fun fi => gd (Nat.blt 0 fi.size) (some (⟨d, .fa e.s off, true, 0⟩, false))
        | _ => none)
      | _ => none)
      none)
/-- An assignment, or a move, to a kept slot. -/
def keptMove (c : Cx) (o : Oper) : Option (Nat × Operand) :=
  match o.guard with
  | some _ => none
  | none => match o.dst with
    | none => none
    | some d => gd (c.kept d) (match o.op with
      | .move x => some (d, x)
      | .assign x => some (d, x)
      | _ => none)
def isNew (o : Oper) : Bool := match o.guard with
  | some _ => false
  | none => match o.op with
    | .alloc _ => true
    | .box _ _ => true
    | _ => false
def coBad : CO := .rd false rBad
def stepOf (co : CO) (d : Dst) (rest : RCode) : RCode := match co with
  | .rd _ r => sR r d rest
  | .al a => sA a d rest
  | .ef e => sE e d rest
  | .mu m => sM m d rest
/-- The slot that a guard looks at. -/
def guardOf (c : Cx) (env : Env) (n : Nat) (all : List Oper) (g : Option (Nat × Bool)) : Option (Option (Ev × Bool)) := match g with
  | none => some none
  | some (j, w) => ob (nthO all j) fun p => ob p.dst fun d => ob (opE c env n (.tmp d)) fun e => some (some (e, w))
def guarded (g : Option (Ev × Bool)) (d : Dst) (yes rest : RCode) : RCode := match g with
  | none => yes
  | some (e, w) => sW e w d yes rest

def cOps (c : Cx) (all : List Oper) (fin : RCode) : List Oper → Env → Nat → Option RCode
  | [] => fun _ _ => some fin
  | o :: l => fun env n =>
    match aliasOf c env o with
    | some (e, chk) => ob (cOps c all fin l (e :: env) n) fun rest => Bool.casesOn chk (some rest) (ob (evSrc c n e.s) fun x => some (sP x rest))
    | none => match keptMove c o with
      | some (d, x) => ob (opE c env n x) fun x => ob (updOf c.d d) fun u => gd (Nat.blt d c.n) (ob (cOps c all fin l (⟨d, .ft d, false, 0⟩ :: killE d env) n) fun rest => some (sG x u rest))
      | none => ob (Option.casesOn (cOp c env n o) (some coBad) some) fun co => ob (dstOf c o.dst) fun d => ob (guardOf c env n all o.guard) fun g =>
        fN (lenAfter n o.dst) fun m => ob (cOps c all fin l (envAfter c env n o.dst (isNew o) o.type) m) fun rest => some (guarded g d (stepOf co d rest) rest)

/-! ### Regions whose order is drawn -/
def bindsB (e : Edge) : Bool := match e.ground with
  | .textOnly _ => false
  | .gcOnly _ => false
  | _ => true
/-- The bits of all that is ahead of an operation: its edges' ends, and what is ahead of them ('look i': of operation i). -/
def orE (look : Nat → Nat) (l : List Edge) : Nat → Nat := match l with
  | [] => fun s => s
  | e :: l => fun s => Bool.casesOn (bindsB e) (orE look l s) (fN (Nat.lor s (Nat.lor (Nat.pow 2 e.on) (look e.on))) fun s => orE look l s)
def atR (acc : List Nat) (j i : Nat) : Nat := Option.casesOn (nthO acc (Nat.sub (Nat.sub j 1) i)) 0 (fun x => x)
def befores (l : List Oper) : Nat → List Nat → List Nat := match l with
  | [] => fun _ acc => acc
  | o :: l => fun j acc => fN (orE (fun i => Bool.casesOn (Nat.blt i j) 0 (atR acc j i)) o.after.toList 0) fun b => befores l (Nat.succ j) (b :: acc)
inductive Cl where
  | rd (heap : Bool) | al | ef
def classOf (c : Cx) (o : Oper) : Cl := match o.op with
  | .load _ _ => .rd true
  | .lookup _ _ _ _ => .rd true
  | .entry _ => .rd true
  | .slice _ _ _ _ _ => .rd true
  | .binOp _ _ _ _ _ => .rd true
  | .alloc _ => .al
  | .box _ _ => .al
  | .buildSlice _ _ _ => .al
  | .makeMap _ _ => .al
  | .makeSlice _ _ _ => .al
  | .convert s d _ => match c.ty s, c.ty d with
    | some si, some di => match si.d, di.d with
      | .str, .slc _ => .al
      | .slc _, .str => .rd true
      | .int _, .int _ => .rd false
      | _, _ => .rd true
    | _, _ => .rd true
  | .range t _ => match c.ty t with
    | some ti => match ti.d with
      | .str => .al
      | _ => .ef
    | none => .ef
  | .store _ _ _ => .ef
  | .mapUpdate _ _ _ _ => .ef
  | .insert _ _ _ _ => .ef
  | .mapEntry _ _ _ => .ef
  | .entryStore _ _ _ _ => .ef
  | .next _ _ => .ef
  | .call p => match p.callee with
    | .builtin .len => .rd true
    | .builtin .cap => .rd true
    | .builtin .max => .rd false
    | .builtin .min => .rd false
    | .builtin .unsafeSliceData => .rd false
    | _ => .ef
  | _ => .rd false

structure DOp where
  i : Nat
  o : Oper
  b : Nat
  cl : Cl
def isEf (d : DOp) : Bool := match d.cl with
  | .ef => true
  | _ => false
/-- A guarded making of a block is an effect. -/
def clOf (c : Cx) (o : Oper) : Cl := match o.guard with
  | none => classOf c o
  | some _ => match classOf c o with
    | .al => .ef
    | cl => cl
def dopsOf (c : Cx) : List Oper → List Nat → Nat → List DOp
  | o :: l, b :: bs, i => ⟨i, o, b, clOf c o⟩ :: dopsOf c l bs (Nat.succ i)
  | _, _, _ => []
def bitsOf (l : List DOp) : Nat := match l with
  | [] => 0
  | d :: l => Nat.lor (Nat.pow 2 d.i) (bitsOf l)
def selD (p : DOp → Bool) (l : List DOp) : List DOp := match l with
  | [] => []
  | d :: l => Bool.casesOn (p d) (selD p l) (d :: selD p l)
/-- As soon as may be: ahead of each effect what waits for no effect that is still to come. -/
def slots (es : List DOp) : List DOp → List DOp := match es with
  | [] => fun non => non
  | e :: es => fun non => selD (fun d => Nat.beq (Nat.land d.b (bitsOf (e :: es))) 0) non ++ e :: slots es (selD (fun d => notB (Nat.beq (Nat.land d.b (bitsOf (e :: es))) 0)) non)
/-- Whatever is ahead of an operation stands ahead of it ('m': the bits of what has passed). -/
def topoOk (l : List DOp) : Nat → Bool := match l with
  | [] => fun _ => true
  | d :: l => fun m => Bool.casesOn (Nat.beq (Nat.land d.b m) d.b) false (Bool.casesOn (bitN m d.i) (topoOk l (Nat.lor m (Nat.pow 2 d.i))) false)
/-- Behind an effect stands only what waits for an effect that stands there. -/
def asapOk (l : List DOp) : Bool := match l with
  | [] => true
  | e :: l => Bool.casesOn (isEf e) (asapOk l) (Bool.casesOn (waits (bitsOf (selD isEf (e :: l))) l) false (asapOk l))
where
  waits (m : Nat) (l : List DOp) : Bool := match l with
    | [] => true
    | d :: l => Bool.casesOn (isEf d) (Bool.casesOn (Nat.beq (Nat.land d.b m) 0) (waits m l) false) (waits m l)
/-- The edges lead backwards. -/
def edgesOk (l : List Oper) : Nat → Bool := match l with
  | [] => fun _ => true
  | o :: l => fun j => Bool.casesOn (backE j o.after.toList) false (edgesOk l (Nat.succ j))
where
  backE (j : Nat) (l : List Edge) : Bool := match l with
    | [] => true
    | e :: l => Bool.casesOn (bindsB e) (backE j l) (Bool.casesOn (Nat.blt e.on j) false (backE j l))
def chainOk (l : List DOp) : Bool := match l with
  | [] => true
  | d :: l => Bool.casesOn (allB (fun e => bitN e.b d.i) l) false (chainOk l)
where
  allB (p : DOp → Bool) (l : List DOp) : Bool := match l with
    | [] => true
    | d :: l => Bool.casesOn (p d) false (allB p l)
def tmpsOf (l : List Operand) : List Nat := match l with
  | [] => []
  | .tmp t :: l => t :: tmpsOf l
  | _ :: l => tmpsOf l
def looksOf (all : List Oper) (o : Oper) : List Nat := (match o.guard with
    | none => []
    | some (j, _) => match nthO all j with
      | none => []
      | some p => match p.dst with
        | none => []
        | some d => [d]) ++ tmpsOf o.op.operands.toList
def namesOf (all : List Oper) (o : Oper) : List Nat := (match o.dst with
    | none => []
    | some d => [d]) ++ looksOf all o
def memT (t : Nat) (l : List Nat) : Bool := match l with
  | [] => false
  | u :: l => Bool.casesOn (Nat.beq t u) (memT t l) true
/-- Whoever writes a slot stands in order with whoever names it. -/
def namedOk (all : List Oper) (l : List DOp) : Bool :=
  chainOk.allB (fun w => match w.o.dst with
    | none => true
    | some t => chainOk.allB (fun d => Bool.casesOn (memT t (namesOf all d.o)) true (Bool.casesOn (Nat.beq d.i w.i) (Bool.casesOn (bitN d.b w.i) (bitN w.b d.i) true) true)) l) l

/-- None looks at what it writes itself. -/
def selfOk (all : List Oper) (l : List DOp) : Bool :=
  chainOk.allB (fun d => match d.o.dst with
    | none => true
    | some t => Bool.casesOn (memT t (looksOf all d.o)) true false) l

def layAll (c : Cx) (env : Env) (n : Nat) (l : List DOp) (rest : RCode) : Option RCode := match l with
  | [] => some rest
  | d :: l => ob (layAll c env n l rest) fun rest => ob (cOp c env n d.o) fun co => match co with
    | .al a => ob d.o.dst fun t => ob (opE c env n (.tmp t)) fun e => some (sLay a e rest)
    | _ => none
def againAll (c : Cx) (all : List Oper) (env : Env) (n : Nat) (l : List DOp) (rest : RCode) : Option RCode := match l with
  | [] => some rest
  | d :: l => ob (againAll c all env n l rest) fun rest => ob (cOp c env n d.o) fun co => match co with
    | .rd _ r => ob d.o.dst fun t => ob (opE c env n (.tmp t)) fun e => ob (guardOf c env n all d.o.guard) fun g => some (match g with
      | none => sAgain r e rest
      | some (x, w) => sAgainW x w (sAgain r e rest) rest)
    | _ => none
/-- None of these names what is written. -/
def freeOf (all : List Oper) (t : Option Nat) (l : List DOp) : Bool := match t with
  | none => true
  | some t => chainOk.allB (fun d => Bool.casesOn (memT t (namesOf all d.o)) true false) l
def anyEf (l : List DOp) : Bool := match l with
  | [] => false
  | d :: l => Bool.casesOn (isEf d) (anyEf l) true
def isHeap (co : CO) : Bool := match co with
  | .rd b _ => b
  | _ => false

def dOps (c : Cx) (all : List Oper) (fin : RCode) : List DOp → Env → Nat → List DOp → List DOp → Option RCode
  | [] => fun env n pend _ => layAll c env n pend fin
  | d :: l => fun env n pend reads => gd (freeOf all d.o.dst pend) (gd (freeOf all d.o.dst reads) (
    match aliasOf c env d.o with
    | some (e, chk) => ob (dOps c all fin l (e :: env) n pend reads) fun rest => Bool.casesOn chk (some rest) (ob (evSrc c n e.s) fun x => some (sP x rest))
    | none => match keptMove c d.o with
      | some (t, x) => ob (opE c env n x) fun x => ob (updOf c.d t) fun u => gd (Nat.blt t c.n) (ob (dOps c all fin l (⟨t, .ft t, false, 0⟩ :: killE t env) n pend reads) fun rest => some (sG x u rest))
      | none =>
        match d.cl with
        | .rd _ => ob (cOp c env n d.o) fun co => match co with
          | .rd heap r => ob (dstOf c d.o.dst) fun dst => ob (guardOf c env n all d.o.guard) fun g => fN (lenAfter n d.o.dst) fun m =>
            ob (dOps c all fin l (envAfter c env n d.o.dst false d.o.type) m pend (Bool.casesOn heap reads (d :: reads))) fun rest => some (guarded g dst (sR r dst rest) rest)
          | _ => none
        | .al => ob (cOp c env n d.o) fun co => match co with
          | .al a => match d.o.guard with
            | some _ => none
            | none => ob (dstOf c d.o.dst) fun dst => fN (lenAfter n d.o.dst) fun m =>
              ob (dOps c all fin l (envAfter c env n d.o.dst (isNew d.o) d.o.type) m (d :: pend) reads) fun rest => some (sRes a dst rest)
          | _ => none
        | .ef => ob (cOp c env n d.o) fun co => ob (dstOf c d.o.dst) fun dst => ob (guardOf c env n all d.o.guard) fun g => fN (lenAfter n d.o.dst) fun m => match envAfter c env n d.o.dst false d.o.type with
          | env' => ob (dOps c all fin l env' m (selD (fun x => notB (bitN d.b x.i)) pend) (selD (fun x => notB (bitN d.b x.i)) reads)) fun rest =>
            ob (againAll c all env' m (selD (fun x => notB (bitN d.b x.i)) reads) rest) fun rest =>
            ob (match co with
              | .ef e => some (sE e dst rest)
              | .mu k => some (sM k dst rest)
              | .al a => some (sA a dst rest)
              | _ => none) fun yes => layAll c env n (selD (fun x => bitN d.b x.i) pend) (guarded g dst yes rest)))

def cDraw (c : Cx) (ops : List Oper) (fin : RCode) : Option RCode :=
  match dopsOf c ops (List.reverse (befores ops 0 [])) 0 with
  | ds => match slots (selD isEf ds) (selD (fun d => notB (isEf d)) ds) with
    | ss => gd (edgesOk ops 0) (gd (chainOk (selD isEf ds)) (gd (namedOk ops ds) (gd (selfOk ops ds) (gd (topoOk ss 0) (gd (Nat.beq (lenL ss 0) (lenL ops 0)) (gd (asapOk ss) (dOps c ops fin ss [] 0 [] [])))))))

def jump (env : List (Nat × Code)) (id : Nat) : Option Code := match env with
  | [] => none
  | (j, c) :: l => Bool.casesOn (Nat.beq j id) (jump l id) (some c)
def popE (env : List (Nat × Code)) : List (Nat × Code) := match env with
  | [] => []
  | (j, c) :: l => (j, pop1 c) :: popE l
def fE {β : Type} (env : List (Nat × Code)) (k : List (Nat × Code) → β) : β := match env with
  | [] => k []
  | x :: l => fE l fun l => k (x :: l)
def cCode (c : Cx) (ret : Code) : Go.Code → List (Nat × Code) → Code → Option Code
  | .skip => fun _ rest => some rest
  | .region _ ops draw => fun _ rest => ob (Bool.casesOn draw (cOps c ops.toList (endR rest) ops.toList [] 0) (cDraw c ops.toList (endR rest))) fun r => some (begR r)
  | .seq a b => fun env rest => ob (cCode c ret b env rest) fun r => cCode c ret a env r
  | .cond x a b => fun env rest => ob (cCode c ret a env rest) fun a => ob (cCode c ret b env rest) fun b => match x with
    | .tmp t => gd (c.kept t) (gd (Nat.blt t c.n) (ob (accOf c.d t) fun p => some (cnd p a b)))
    | .const (.bool t) => some (cndK t a b)
    | _ => none
  | .block id a => fun env rest => cCode c ret a ((id, rest) :: env) rest
  | .loop a => fun env _ => fE (popE env) fun env => ob (cCode c ret a env agn) fun a => some (lp a)
  | .exit id => fun env _ => jump env id
  | .ret => fun _ _ => some ret
  | _ => fun _ _ => some badC
def cRes (c : Cx) : List ResultVar → Option Rs
  | [] => some rNil
  | .tmp t :: l => gd (c.kept t) (gd (Nat.blt t c.n) (ob (accOf c.d t) fun x => ob (cRes c l) fun l => some (rTmp x l)))
  | .cell a t :: l => gd (c.kept a) (gd (Nat.blt a c.n) (ob (accOf c.d a) fun x => ob (c.ty t) fun ti => ob (cRes c l) fun l => Bool.casesOn ti.agg (some (rCell1 x l)) (some (rCellN ti.size x l))))

/-! Which slots are kept: those that are used in a region ahead of any writing there; conditions; results; parameters. -/
def orL (l : List Nat) : Nat → Nat → Nat := match l with
  | [] => fun _ acc => acc
  | t :: l => fun defs acc => Bool.casesOn (bitN defs t) (fN (Nat.lor acc (Nat.pow 2 t)) fun acc => orL l defs acc) (orL l defs acc)
def regG (all : List Oper) (l : List Oper) : Nat → Nat → Nat := match l with
  | [] => fun _ acc => acc
  | o :: l => fun defs acc => fN (orL (tmpsOf o.op.operands.toList) defs (orL (match o.guard with
      | none => []
      | some (j, _) => match nthO all j with
        | none => []
        | some p => match p.dst with
          | none => []
          | some d => [d]) defs acc)) fun acc => match o.dst with
      | none => regG all l defs acc
      | some d => fN (Nat.lor defs (Nat.pow 2 d)) fun defs => regG all l defs acc
def codeG : Go.Code → Nat → Nat
  | .region _ ops _ => fun acc => regG ops.toList ops.toList 0 acc
  | .seq a b => fun acc => fN (codeG a acc) fun acc => codeG b acc
  | .cond x a b => fun acc => fN (orL (tmpsOf [x]) 0 acc) fun acc => fN (codeG a acc) fun acc => codeG b acc
  | .block _ a => codeG a
  | .loop a => codeG a
  | _ => fun acc => acc
def resG (l : List ResultVar) : Nat → Nat := match l with
  | [] => fun acc => acc
  | .tmp t :: l => fun acc => resG l (Nat.lor acc (Nat.pow 2 t))
  | .cell t _ :: l => fun acc => resG l (Nat.lor acc (Nat.pow 2 t))
def depthOf (n : Nat) : Nat := bIf (Nat.ble n 4) 1 (bIf (Nat.ble n 16) 2 (bIf (Nat.ble n 64) 3 (bIf (Nat.ble n 256) 4 5)))
def upsOf (d : Nat) : Nat → Nat → Option (List Up)
  | 0 => fun _ => some []
  | n + 1 => fun i => ob (updOf d i) fun u => ob (upsOf d n (Nat.succ i)) fun l => some (u :: l)

structure CF where
  ups : List Up
  body : Code
def cFunc (ty : Nat → Option TI) (ms : String → List (Nat × Nat)) (sy : Sy) (f : Func) : Option CF :=
  match f.body with
  | none => none
  | some code => fN f.ntmps fun n => fN (depthOf n) fun d => fN (Nat.add f.params.size f.nfree) fun np => gd (Nat.ble np n) (gd (Nat.ble n (Nat.pow 4 d)) (
    fN (resG f.results.toList (Nat.lor (Nat.sub (Nat.pow 2 np) 1) (codeG code 0))) fun g => match (⟨ty, ms, sy, d, n, g⟩ : Cx) with
    | c => ob (cRes c f.results.toList) fun r => ob (upsOf d np 0) fun ups => ob (cCode c (retC r) code [] (retC r)) fun b => some ⟨ups, b⟩))

/-! ## Running -/
def idxByte (len val c : Nat) : Nat → Nat → Option Nat
  | 0 => fun _ => none
  | n + 1 => fun i => Bool.casesOn (Nat.beq (sByte len val i) c) (idxByte len val c n (Nat.succ i)) (some i)
def cntByte (len val c : Nat) : Nat → Nat → Nat → Nat
  | 0 => fun _ acc => acc
  | n + 1 => fun i acc => Bool.casesOn (Nat.beq (sByte len val i) c) (cntByte len val c n (Nat.succ i) acc) (fN (Nat.succ acc) fun acc => cntByte len val c n (Nat.succ i) acc)
abbrev Ext := List V → H → Res
def one (v : V) (h : H) : Res := some [(v, h)]
def oneP (p : V × H) : Res := some [p]
def xNoEscape : Ext := fun l h => match l with
  | [x] => one x h
  | _ => none
def xMakeNoZero (e : Nat) : Ext := fun l h => match l with
  | [.int .i64 (.ofNat n)] => gd (Nat.ble n maxLenN) (newO h (.cells n .nil e 0 false) fun b h => one (.slc b 0 n 0 false) h)
  | _ => none
def xIndexByteS : Ext := fun l h => match l with
  | [.str len val, .int .u8 (.ofNat c)] => gd (Nat.blt c 256) (Option.casesOn (idxByte len val c len 0) (one (.int .i64 (.negSucc 0)) h) (fun i => one (.int .i64 (.ofNat i)) h))
  | _ => none
def xCountS : Ext := fun l h => match l with
  | [.str len val, .int .u8 (.ofNat c)] => gd (Nat.blt c 256) (ob (mkN (cntByte len val c len 0 0)) fun v => one v h)
  | _ => none
/-- slices.Insert, not at the end: the row that was there is forgotten. -/
def xInsert (e es : Nat) : Ext := fun l h => match l with
  | [s, .int .i64 (.ofNat i), v] => ob (lenV v) fun m => srcCells h es m v fun new => onSlc s none fun b off n _ _ => gd (Nat.blt i n) (gd (Nat.blt 0 m) (gd (Nat.beq es 1) (gd (Nat.beq off 0) (onSlc v none fun vb _ _ _ _ => gd (notB (Nat.beq b vb)) (onCells h b fun _ t be fz sf =>
      gd (Nat.beq be e) (gd (Nat.beq fz 0) (gd (notB sf) (gd (all1 new) (ob (t.row i 0) fun front => ob (t.row (Nat.sub n i) i) fun back =>
        putO h b .dead fun h => ob (newRow h e (front ++ (new ++ back)) fun c h => fN (Nat.add n m) fun len => some (.slc c 0 len 0 false, h)) oneP)))))))))
  | _ => none

structure Ctx where
  ty : Nat → Option TI
  ms : String → List (Nat × Nat)
  sy : Sy
  fns : T Func
  exts : T Ext
def fillU (ups : List Up) : List V → FT → (FT → Res) → Res := match ups with
  | [] => fun l f k => List.casesOn l (k f) (fun _ _ => none)
  | u :: ups => fun l f k => List.casesOn l none fun v l => u f v fun f => fillU ups l f k
def enter (x : Ctx) (ih : K) (fn : Func) (args : List V) (h : H) : Res :=
  ob (cFunc x.ty x.ms x.sy fn) fun cf => CF.casesOn cf fun ups body => fillU ups args .em fun f => body ih [] f h
def callN (x : Ctx) (n : Nat) : K :=
  Nat.rec (motive := fun _ => K) (fun _ _ _ => none) (fun _ ih g args h => Option.casesOn (x.exts.get g) (ob (x.fns.get g) fun fn => enter x ih fn args h) (fun e => Option.casesOn (e args h) (ob (x.fns.get g) fun fn => enter x ih fn args h) some)) n
def run (x : Ctx) (g : Nat) (args : List V) (h : H) : Res := callN x 200 g args h
def isT (r : Res) : Bool := match r with
  | some [(.bool b, _)] => b
  | _ => false
end Eng
