/-
  Gx1: an abstract machine over frames: values, operations, code. Definitions alone.
  Conditions: none; nothing is claimed here.
-/
import Derived.Calls
import GoSem.Claims
import Derived.Laws.AppendOwn
import Derived.Below
import Derived.Laws.Entries
import Derived.Laws.Cells
import Derived.ChangeKeysEq
import Derived.Laws.OwnMore
import Derived.Great.BuildSlice
import Derived.Laws.Slices
namespace Go.Gx
open Go

/-- What a row of cells holds, by its kind. -/
inductive Sq where
  | ints (k : IntKind) (l : List Int)
  | bools (l : List Bool)
  | rows (l : List (List Int))
  | rows2 (l : List (List (List Int)))
  deriving Inhabited

/-- An abstract value in a slot. -/
inductive AV where
  | pv (v : Value)
  | jk
  | nl (e : TypeId) (c : Sq)
  | sl (c : Sq)
  | ls (c : Sq)
  | ag (l : List AV)
  | aa (c : Sq)
  | tp (l : List AV)
  | ow (e : TypeId) (c : Sq)
  | bx (l : List AV)
  | ba (c : Sq)
  | al (s : Nat)
  | af (s f : Nat)
  | pt (s off : Nat)
  | ep (s i : Nat)
  | ef (s f i : Nat)
  | rp (v : AV)
  | lb (l : List AV) (off : Nat)
  | la (c : Sq) (off : Nat)
  | fn (f : FuncId) (caps : List AV)
  | ss (n : Nat) (l : List AV)
  | ao (l : List AV)
  deriving Inhabited

/-- A value of one cell that leads nowhere. -/
def scal : Value → Bool
  | .bool _ | .int .. | .string _ | .pointer none | .nilFunc | .nilIface | .float .. => true
  | .slice none 0 0 => true
  | _ => false

abbrev Fr := List (Nat × AV)

/-- What is known of a type. -/
inductive TI where
  | int (k : IntKind)
  | bool
  | slice (e : TypeId) (c : Sq)
  | arr (n : Nat) (e : TypeId) (es : Nat) (z : Sq)
  | strct (fs : List (Nat × TypeId × Nat)) (n : Nat) (z : List AV)
  | flat (fs : List (Nat × TypeId × Nat)) (n : Nat) (z : Sq)
  | ptr
  | func
  | sls (e : TypeId) (m : Nat)
  deriving Inhabited

abbrev TE := List (TypeId × TI)

def look {α : Type} (s : Nat) : List (Nat × α) → Option α
  | [] => none
  | (t, x) :: r => if t == s then some x else look s r

namespace Sq
def len : Sq → Nat
  | ints _ l => l.length
  | bools l => l.length
  | rows l => l.length
  | rows2 l => l.length
def get (c : Sq) (i : Nat) (K : AV → Prop) : Prop :=
  match c with
  | ints k l => ∃ v, l[i]? = some v ∧ K (.pv (.int k v))
  | bools l => ∃ v, l[i]? = some v ∧ K (.pv (.bool v))
  | rows l => ∃ v, l[i]? = some v ∧ K (.sl (.ints .i64 v))
  | rows2 l => ∃ v, l[i]? = some v ∧ K (.sl (.rows v))
def set (c : Sq) (i : Nat) (v : AV) (K : Sq → Prop) : Prop :=
  match c, v with
  | ints k l, .pv (.int k' n) => if k = k' then i < l.length ∧ K (ints k (l.set i n)) else False
  | bools l, .pv (.bool n) => i < l.length ∧ K (bools (l.set i n))
  | rows l, .sl (.ints .i64 r) => i < l.length ∧ K (rows (l.set i r))
  | rows2 l, .sl (.rows r) => i < l.length ∧ K (rows2 (l.set i r))
  | _, _ => False
def cat : Sq → Sq → Option Sq
  | ints k l, ints k' l' => if k == k' then some (ints k (l ++ l')) else none
  | bools l, bools l' => some (bools (l ++ l'))
  | rows l, rows l' => some (rows (l ++ l'))
  | rows2 l, rows2 l' => some (rows2 (l ++ l'))
  | _, _ => none
def cut (lo hi : Nat) : Sq → Sq
  | ints k l => ints k ((l.take hi).drop lo)
  | bools l => bools ((l.take hi).drop lo)
  | rows l => rows ((l.take hi).drop lo)
  | rows2 l => rows2 ((l.take hi).drop lo)
def top (hi : Nat) : Sq → Sq
  | ints k l => ints k (l.take hi)
  | bools l => bools (l.take hi)
  | rows l => rows (l.take hi)
  | rows2 l => rows2 (l.take hi)
/-- A list of values of the kind of an empty content. -/
def mk : Sq → List AV → Option Sq
  | c, [] => some c
  | ints k l, .pv (.int k' n) :: r => if k == k' then mk (ints k (l ++ [n])) r else none
  | bools l, .pv (.bool n) :: r => mk (bools (l ++ [n])) r
  | rows l, .sl (.ints .i64 x) :: r => mk (rows (l ++ [x])) r
  | rows l, .nl _ (.ints .i64 x) :: r => mk (rows (l ++ [x])) r
  | rows2 l, .sl (.rows x) :: r => mk (rows2 (l ++ [x])) r
  | _, _ => none
/-- n zeros of a kind. -/
def zeros (n : Nat) : Sq → Option Sq
  | ints k _ => some (ints k (List.replicate n 0))
  | bools _ => some (bools (List.replicate n false))
  | _ => none
end Sq

namespace AV
def owner : AV → Bool
  | ow .. | bx _ | ba _ => true
  | _ => false
def refsA : List AV → List Nat
  | [] => []
  | .al s :: r => s :: refsA r
  | _ :: r => refsA r
/-- The slot that a value's meaning hangs on. -/
def ref : AV → List Nat
  | al s => [s]
  | af s _ => [s]
  | pt s _ => [s]
  | ep s _ => [s]
  | ef s _ _ => [s]
  | fn _ caps => refs caps
  | ao l => refsA l
  | _ => []
where refs : List AV → List Nat
  | [] => []
  | .pt s _ :: r => s :: refs r
  | .pv _ :: r => refs r
  | .sl _ :: r => refs r
  | _ :: r => refs r
/-- The slot of a box whose own slice a value hangs on. -/
def fref : AV → List Nat
  | af s _ => [s]
  | ef s _ _ => [s]
  | _ => []
/-- Values that can lie in a part of another, and do not hang on any slot. -/
def static : AV → Bool
  | pv _ | sl _ | ls _ | nl _ _ => true
  | _ => false
end AV

/-- Drop whatever hangs on slot d, and d itself. -/
def dropR (d : Nat) (A : Fr) : Fr := A.filter fun e => !(e.1 == d) && !(e.2.ref.contains d)
/-- Drop whatever points into a box's own slices. -/
def dropF (s : Nat) (A : Fr) : Fr := A.filter fun e => match e.2 with | .af t _ | .ef t _ _ => !(t == s) | _ => true
def setd (d : Nat) (v : AV) (A : Fr) : Fr := (d, v) :: dropR d A
/-- Another content for an owner that stays where it is. -/
def upd (s : Nat) (v : AV) : Fr → Fr
  | [] => []
  | (t, x) :: r => if t == s then (t, v) :: r else (t, x) :: upd s v r

/-- A slice's content, wherever it lies: its owner (slot, field) if it is one. -/
inductive Src where
  | slot (s : Nat)
  | field (s f : Nat)
  | ro (perm : Bool)

def srcOf (A : Fr) (t : Option Nat) : AV → Option (Src × Sq)
  | .ow _ c => t.map fun t => (.slot t, c)
  | .nl _ c => some (.ro true, c)
  | .sl c => some (.ro true, c)
  | .ls c => some (.ro false, c)
  | .al s => match look s A with | some (.ow _ c) => some (.slot s, c) | _ => none
  | .af s f => match look s A with
    | some (.bx l) => match l[f]? with | some (.ow _ c) => some (.field s f, c) | _ => none
    | _ => none
  | _ => none

def opd (A : Fr) : Operand → Option AV
  | .tmp t => look t A
  | .const v => if scal v then some (.pv v) else none
  | .func f => some (.fn f [])
  | .global _ => none
def otmp : Operand → Option Nat
  | .tmp t => some t
  | _ => none
/-- A read box or pointer: the slot and the place in it. -/
def ptOf (t : Option Nat) : AV → Option (Nat × Nat)
  | .bx _ | .ba _ => t.map fun t => (t, 0)
  | .pt s off => some (s, off)
  | _ => none

def isBx (A : Fr) (t : Nat) : Bool := match look t A with | some (.bx _) => true | _ => false
/-- The slots of a function: those below 'lo' are never written. -/
structure Rg where
  lo : Nat
  hi : Nat
def Rg.has (r : Rg) (d : Nat) : Bool := Nat.ble r.lo d && Nat.blt d r.hi
def fin (n : Rg) (dst : Option Nat) (A : Fr) (v : AV) (K : Fr → Prop) : Prop :=
  match dst with
  | some d => if n.has d then (if v.ref.contains d then False else if v.fref.all (isBx A) then K (setd d v A) else False) else False
  | none => K A
/-- The same, where the value owns something new: there must be a slot for it. -/
def fin1 (n : Rg) (dst : Option Nat) (A : Fr) (v : AV) (K : Fr → Prop) : Prop :=
  match dst with
  | some d => if n.has d then K (setd d v A) else False
  | none => False

/-- Make a value static: an owned slice is frozen where it lies. -/
def frz (A : Fr) (t : Option Nat) (v : AV) : Option (Fr × AV) :=
  match v with
  | .pv x => some (A, .pv x)
  | .sl c => some (A, .sl c)
  | .nl e c => some (A, .nl e c)
  | .ls c => some (A, .ls c)
  | .ow _ c => t.map fun t => (setd t (.sl c) A, .sl c)
  | .al s => match look s A with | some (.ow _ c) => t.map fun t => (setd t (.sl c) (setd s (.sl c) A), .sl c) | _ => none
  | .af s f => match look s A with
    | some (.bx l) => match l[f]? with
      | some (.ow _ c) => t.map fun t => (setd t (.sl c) (dropF s (upd s (.bx (l.set f (.sl c))) A)), .sl c)
      | _ => none
    | _ => none
  | _ => none
def frzO (A : Fr) (x : Operand) : Option (Fr × AV) := (opd A x).bind (frz A (otmp x))
def frzAll (A : Fr) : List Operand → Option (Fr × List AV)
  | [] => some (A, [])
  | x :: r => match frzO A x with
    | some (A, v) => match frzAll A r with | some (A, vs) => some (A, v :: vs) | none => none
    | none => none

def abin (op : BinOp) : Value → Value → (Value → Prop) → Prop
  | .int k a, .int k' b, K =>
    match op with
    | .shl => if b < 0 then False else K (.int k (k.wrap (a * 2 ^ (min b.toNat k.bits))))
    | .shr => if b < 0 then False else K (.int k (a.fdiv (2 ^ (min b.toNat k.bits))))
    | .add => if k = k' then K (.int k (k.wrap (a + b))) else False
    | .sub => if k = k' then K (.int k (k.wrap (a - b))) else False
    | .mul => if k = k' then K (.int k (k.wrap (a * b))) else False
    | .quo => if k = k' then (if b = 0 then False else K (.int k (k.wrap (a.tdiv b)))) else False
    | .rem => if k = k' then (if b = 0 then False else K (.int k (a.tmod b))) else False
    | .and => if k = k' then K (.int k (k.wrap (BitVec.ofInt k.bits a &&& BitVec.ofInt k.bits b).toNat)) else False
    | .or => if k = k' then K (.int k (k.wrap (BitVec.ofInt k.bits a ||| BitVec.ofInt k.bits b).toNat)) else False
    | .xor => if k = k' then K (.int k (k.wrap (BitVec.ofInt k.bits a ^^^ BitVec.ofInt k.bits b).toNat)) else False
    | .andNot => if k = k' then K (.int k (k.wrap (BitVec.ofInt k.bits a &&& ~~~ BitVec.ofInt k.bits b).toNat)) else False
    | .eql => if k = k' then K (.bool (a == b)) else False
    | .neq => if k = k' then K (.bool (a != b)) else False
    | .lss => if k = k' then K (.bool (a < b)) else False
    | .leq => if k = k' then K (.bool (a ≤ b)) else False
    | .gtr => if k = k' then K (.bool (a > b)) else False
    | .geq => if k = k' then K (.bool (a ≥ b)) else False
  | _, _, _ => False
def aun (op : UnOp) : Value → (Value → Prop) → Prop
  | .int k n, K => match op with
    | .neg => K (.int k (k.wrap (0 - n)))
    | _ => False
  | .bool b, K => match op with
    | .not => K (.bool !b)
    | _ => False
  | _, _ => False

/-- A contract: for each parameter, how it is handed; what comes back, and what the parameters handed 'io' hold then. -/
inductive Mode where
  | lend | frz | io
structure Spec where
  modes : List Mode
  sem : List AV → (AV → List AV → Prop) → Prop
abbrev Orc := List (FuncId × Spec)

/-- A value as a callee sees it that may only look. -/
def lendF : AV → AV
  | .ow _ c => .ls c
  | .nl _ c => .ls c
  | .sl c => .ls c
  | v => v
def lend (A : Fr) (t : Option Nat) : AV → Option AV
  | .pv v => some (.pv v)
  | .sl c => some (.ls c)
  | .ls c => some (.ls c)
  | .nl _ c => some (.ls c)
  | .ow _ c => some (.ls c)
  | .al s => match look s A with | some (.ow _ c) => some (.ls c) | _ => none
  | .af s f => match look s A with
    | some (.bx l) => match l[f]? with | some (.ow _ c) => some (.ls c) | _ => none
    | _ => none
  | .ag l => some (.ag (l.map lendF))
  | .aa c => some (.aa c)
  | .bx l => some (.lb (l.map lendF) 0)
  | .ba c => some (.la c 0)
  | .pt s off => match look s A with
    | some (.bx l) => some (.lb (l.map lendF) off)
    | some (.ba c) => some (.la c off)
    | _ => none
  | .lb l off => some (.lb l off)
  | .la c off => some (.la c off)
  | .fn f caps => match lendAll A caps with | some caps => some (.fn f caps) | none => none
  | _ => match t with | _ => none
where lendAll (A : Fr) : List AV → Option (List AV)
  | [] => some []
  | .pv v :: r => match lendAll A r with | some r => some (.pv v :: r) | none => none
  | .sl c :: r => match lendAll A r with | some r => some (.ls c :: r) | none => none
  | .ls c :: r => match lendAll A r with | some r => some (.ls c :: r) | none => none
  | .lb l off :: r => match lendAll A r with | some r => some (.lb l off :: r) | none => none
  | .la c off :: r => match lendAll A r with | some r => some (.la c off :: r) | none => none
  | .pt s off :: r => match look s A, lendAll A r with
    | some (.bx l), some r => some (.lb (l.map lendF) off :: r)
    | some (.ba c), some r => some (.la c off :: r)
    | _, _ => none
  | _ :: _ => none
/-- nil becomes an owned slice of no element. -/
def norm1 : AV → AV
  | .nl e c => .ow e c
  | v => v
def norm : AV → AV
  | .nl e c => .ow e c
  | .bx l => .bx (l.map norm1)
  | v => v
end Go.Gx

/-
  Gx2: the abstract machine's operations and code, in continuation passing style.
  Conditions: none; definitions alone.
-/
namespace Go.Gx
open Go

/-! ### Which operations may be swapped -/
def reads : Op → Option (List Operand)
  | .alloc _ => some []
  | .move x | .assign x | .box _ x | .load _ x | .nilCheck x | .unOp _ _ x | .convert _ _ x | .fieldAddr _ x _ | .field _ x _ | .extract x _ => some [x]
  | .pick c a b => some [c, a, b]
  | .build _ ps | .buildSlice _ _ ps => some (ps.toList.map (·.2))
  | .store _ a v | .binOp _ _ a v _ | .makeSlice _ a v | .indexAddr _ a v | .index _ a v => some [a, v]
  | .slice _ x l h m => some (x :: (l.toList ++ (h.toList ++ m.toList)))
  | .call c => match c.callee with
    | .value f => some (f :: c.args.toList)
    | .builtin _ => some c.args.toList
    | .invoke r _ => some (r :: c.args.toList)
  | _ => none
/-- How an operation stands to the world: its value hangs on none; it hangs on it and leaves it; anything. -/
inductive Cls where
  | pure | read | other
def opClass : Op → Cls
  | .move _ | .assign _ | .nilCheck _ | .binOp .. | .unOp .. | .convert .. | .fieldAddr .. | .field .. | .indexAddr .. | .index .. | .extract .. | .slice .. | .pick .. => .pure
  | .load .. => .read
  | .call c => match c.callee with
    | .builtin .len | .builtin .min => .pure
    | _ => .other
  | _ => .other
/-- An operation names slot d. -/
def namesT (d : Nat) : Operand → Bool
  | .tmp t => t == d
  | _ => false
def guardDst (ops : Array Oper) (o : Oper) : Option Nat := o.guard.bind fun g => (ops[g.1]?).bind (·.dst)
def freeOf (ops : Array Oper) (o : Oper) : Option Nat → Bool
  | none => true
  | some d => (match reads o.op with | some l => l.all fun x => !namesT d x | none => false) && !(guardDst ops o == some d) && !(o.dst == some d)
def clsOK : Cls → Cls → Bool
  | .pure, _ => true
  | _, .pure => true
  | .read, .read => true
  | _, _ => false
def commF (ops : Array Oper) (o₁ o₂ : Oper) : Bool := freeOf ops o₂ o₁.dst && freeOf ops o₁ o₂.dst && (reads o₁.op).isSome && (reads o₂.op).isSome
def commB (ops : Array Oper) (o₁ o₂ : Oper) : Bool := commF ops o₁ o₂ && clsOK (opClass o₁.op) (opClass o₂.op)
/-! Loads ahead of whatever turns the world, against what makes something new or writes to what is new. -/
def isOther (o : Oper) : Bool := match opClass o.op with | .other => true | _ => false
def isRead (o : Oper) : Bool := match opClass o.op with | .read => true | _ => false
def isAlloc (o : Oper) : Bool := match o.op with | .alloc _ => true | _ => false
def allTo (ops : Array Oper) (i : Nat) (p : Oper → Bool) : Bool := (ops.toList.take i).all p
/-- Slot d holds something made in this region, before operation i. -/
def newTo (ops : Array Oper) (i d : Nat) : Bool := (ops.toList.take i).any (fun o => isAlloc o && o.dst == some d) && allTo ops i (fun o => !(o.dst == some d) || isAlloc o)
def freshS (ops : Array Oper) (i : Nat) (o : Oper) : Bool := match o.op with
  | .alloc _ => true
  | .store _ (.tmp d) _ => newTo ops i d
  | _ => false
/-- All that turns the world before operation i is of this kind. -/
def calmTo (ops : Array Oper) : Nat → Bool
  | 0 => true
  | i + 1 => calmTo ops i && match ops[i]? with | some o => !isOther o || freshS ops i o | none => true
def freshI (ops : Array Oper) (i : Nat) (o : Oper) : Bool := isOther o && (freshS ops i o && calmTo ops i)
def oldI (ops : Array Oper) (i : Nat) (o : Oper) : Bool := isRead o && allTo ops i (fun o => !isOther o)
/-- The operations of numbers j and i may be swapped (j < i). -/
def commX (ops : Array Oper) (j i : Nat) : Bool :=
  match ops[j]?, ops[i]? with
  | some o₁, some o₂ => commF ops o₁ o₂ && (clsOK (opClass o₁.op) (opClass o₂.op) || (oldI ops j o₁ && freshI ops i o₂))
  | _, _ => true
def dirs (o : Oper) : List Nat := (o.after.toList.filter fun e => Region.binds .any e).map (·.on)
def dd (l : List Nat) : List Nat := l.foldr (fun x r => if r.contains x then r else x :: r) []
/-- For each operation, whatever comes before it by the edges. -/
def closR : List Oper → List (List Nat) → List (List Nat)
  | [], acc => acc
  | o :: r, acc => closR r (acc ++ [dd (dirs o ++ (dirs o).flatMap fun k => acc.getD k [])])
/-- An operation may come next, behind those seen. -/
def readyB (m : Region.Mode) (ops : Array Oper) (seen : List Nat) (i : Nat) : Bool :=
  match ops[i]? with
  | some o => o.after.toList.all fun e => !Region.binds m e || seen.contains e.on
  | none => true
def greedy (m : Region.Mode) (ops : Array Oper) : Nat → List Nat → List Nat → List Nat
  | 0, seen, _ => seen.reverse
  | f + 1, seen, rest => match rest.find? (readyB m ops seen) with
    | some i => greedy m ops f (i :: seen) (rest.erase i)
    | none => seen.reverse
def topoB (m : Region.Mode) (ops : Array Oper) : List Nat → List Nat → Bool
  | _, [] => true
  | seen, i :: r => readyB m ops seen i && topoB m ops (i :: seen) r
def flowsL (m : Region.Mode) (ops : Array Oper) (L : List Nat) : Bool := topoB m ops [] L && ((List.range ops.size).all L.contains && L.all fun k => Nat.blt k ops.size)
/-- Some order meets all edges that bind. -/
def flowsB (m : Region.Mode) (ops : Array Oper) : Bool := flowsL m ops (greedy m ops ops.size [] (List.range ops.size))
def pairsT (ops : Array Oper) (T : List (List Nat)) : Bool :=
  (List.range ops.size).all fun i => match ops[i]? with
    | some o => ((dirs o).all fun k => Nat.blt k i) && (List.range i).all fun j => (T.getD i []).contains j || commX ops j i
    | none => true
/-- Every two operations are ordered by the edges, or may be swapped. -/
def pairsOK (ops : Array Oper) : Bool := pairsT ops (closR ops.toList []) && (flowsB .text ops && (flowsB .gc ops && flowsB .any ops))

structure Env where
  te : TE
  gl : List (Nat × Sq)
  orc : Orc
  n : Rg
  cut : List Nat
  keep : List (Nat × List Nat)

def br (t : Bool) (p q : Prop) : Prop := match t with | true => p | false => q
theorem br_true {p q : Prop} : br true p q = p := rfl
theorem br_false {p q : Prop} : br false p q = q := rfl
theorem br_intro {t : Bool} {p q : Prop} (hp : t = true → p) (hq : t = false → q) : br t p q := by
  cases t <;> simp_all [br]

variable (E : Env)

def amove (asg : Bool) (A : Fr) (dst : Option Nat) (ty : TypeId) (x : Operand) (K : Fr → Prop) : Prop :=
  match x with
  | .const v => match v, look ty E.te with
    | .slice none 0 0, some (.slice e c) => fin E.n dst A (.nl e c) K
    | v, _ => if scal v then fin E.n dst A (.pv v) K else False
  | .func f => fin E.n dst A (.fn f []) K
  | .global _ => False
  | .tmp t => match look t A with
    | none => False
    | some v => match v with
      | .ow e c => if asg then fin E.n dst (dropR t A) (.ow e c) K else fin E.n dst A (.al t) K
      | .bx l => if asg then fin E.n dst (dropR t A) (.bx l) K else fin E.n dst A (.pt t 0) K
      | .ba c => if asg then fin E.n dst (dropR t A) (.ba c) K else fin E.n dst A (.pt t 0) K
      | .ao _ => False
      | v => fin E.n dst A v K

def abox (A : Fr) (dst : Option Nat) (x : Operand) (K : Fr → Prop) : Prop :=
  match opd A x with
  | some (.pv v) => fin1 E.n dst A (.bx [.pv v]) K
  | some (.sl c) => fin1 E.n dst A (.bx [.sl c]) K
  | some (.ls c) => fin1 E.n dst A (.bx [.ls c]) K
  | some (.nl e c) => fin1 E.n dst A (.bx [.nl e c]) K
  | some (.ag l) => fin1 E.n dst A (.bx l) K
  | some (.aa c) => fin1 E.n dst A (.ba c) K
  | some (.ow e c) => match otmp x with | some t => fin1 E.n dst (dropR t A) (.bx [.ow e c]) K | none => False
  | some (.al s) => match look s A with | some (.ow e c) => fin1 E.n dst (dropR s A) (.bx [.ow e c]) K | _ => False
  | _ => False

/-- A value's cells, as the parts of a box or a struct. -/
def partsOf : AV → Option (List AV)
  | .al s => some [.al s]
  | .pv v => some [.pv v]
  | .sl c => some [.sl c]
  | .ls c => some [.ls c]
  | .nl e c => some [.nl e c]
  | .ag l => some l
  | _ => none
def place (fs : List (Nat × TypeId × Nat)) : List AV → List (Nat × AV) → Option (List AV)
  | z, [] => some z
  | z, (i, v) :: r => match fs[i]?, partsOf v with
    | some (off, _, sz), some l => if l.length == sz && off + sz ≤ z.length then place fs (z.take off ++ l ++ z.drop (off + sz)) r else none
    | _, _ => none
def placeF (off : Nat → Option Nat) : Sq → List (Nat × AV) → Option Sq
  | z, [] => some z
  | .ints k l, (i, .pv (.int k' v)) :: r => match off i with
    | some o => if k == k' && o < l.length then placeF off (.ints k (l.set o v)) r else none
    | none => none
  | .bools l, (i, .pv (.bool v)) :: r => match off i with
    | some o => if o < l.length then placeF off (.bools (l.set o v)) r else none
    | none => none
  | _, _ => none
def fieldAt1 (fs : List (Nat × TypeId × Nat)) (i : Nat) : Option Nat :=
  match fs[i]? with
  | some (o, _, s) => if s == 1 then some o else none
  | none => none

def frzV (A : Fr) : List Operand → Option (Fr × List AV)
  | [] => some (A, [])
  | x :: r => match opd A x with
    | some (.ag l) => match frzV A r with | some (A, vs) => some (A, .ag l :: vs) | none => none
    | some v => match frz A (otmp x) v with
      | some (A, v) => match frzV A r with | some (A, vs) => some (A, v :: vs) | none => none
      | none => none
    | none => none

def abuild (A : Fr) (dst : Option Nat) (T : TypeId) (parts : List (Nat × Operand)) (K : Fr → Prop) : Prop :=
  match frzV A (parts.map (·.2)) with
  | none => False
  | some (A, vs) =>
    match look T E.te with
    | some (.strct fs _ z) => match place fs z ((parts.map (·.1)).zip vs) with | some l => fin E.n dst A (.ag l) K | none => False
    | some (.flat fs _ z) => match placeF (fieldAt1 fs) z ((parts.map (·.1)).zip vs) with | some c => fin E.n dst A (.aa c) K | none => False
    | some (.arr _ _ es z) => match placeF (fun i => if es == 1 then some i else none) z ((parts.map (·.1)).zip vs) with | some c => fin E.n dst A (.aa c) K | none => False
    | _ => False

def isOw (A : Fr) (t : Nat) : Bool := match look t A with | some (.ow _ _) => true | _ => false
/-- Parts of a struct that are owned elsewhere, for as long as it is not laid. -/
def partsA (A : Fr) : List Operand → Option (List AV)
  | [] => some []
  | x :: r => match opd A x, partsA A r with
    | some (.pv v), some r => some (.pv v :: r)
    | some (.sl c), some r => some (.sl c :: r)
    | some (.nl e c), some r => some (.nl e c :: r)
    | some (.ow _ _), some r => (otmp x).map fun t => .al t :: r
    | some (.al s), some r => if isOw A s then some (.al s :: r) else none
    | _, _ => none
def abuildA (A : Fr) (dst : Option Nat) (T : TypeId) (parts : List (Nat × Operand)) (K : Fr → Prop) : Prop :=
  match partsA A (parts.map (·.2)), look T E.te with
  | some vs, some (.strct fs _ z) => match place fs z ((parts.map (·.1)).zip vs) with | some l => fin E.n dst A (.ao l) K | none => False
  | _, _ => False
def alsOf : Nat → List AV → List (Nat × Nat)
  | _, [] => []
  | k, .al s :: r => (k, s) :: alsOf (k + 1) r
  | k, _ :: r => alsOf (k + 1) r
def unal : AV → AV
  | .al _ => .jk
  | v => v
/-- A part that is laid: known, or owned by a slot. -/
def laysOK (A : Fr) : AV → Bool
  | .al s => isOw A s
  | .pv _ | .sl _ | .nl _ _ => true
  | _ => false
def backF (A : Fr) (t s f : Nat) : Option Fr :=
  match look t A, look s A with
  | some (.ow e c), some (.bx l) => match l[f]? with
    | some .jk => if s == t then none else some (dropR t (upd s (.bx (l.set f (.ow e c))) A))
    | _ => none
  | _, _ => none
def backL (s : Nat) : List (Nat × Nat) → Fr → Option Fr
  | [], A => some A
  | (f, t) :: r, A => match backF A t s f with
    | some A => backL s r A
    | none => none
def abox' (A : Fr) (dst : Option Nat) (x : Operand) (K : Fr → Prop) : Prop :=
  match opd A x with
  | some (.ao l) => match dst with
    | some d => if (E.n.has d && l.all (laysOK A)) = true then match backL d (alsOf 0 l) (setd d (.bx (l.map unal)) A) with | some A => K A | none => False else False
    | none => False
  | _ => abox E A dst x K

def abuildS (A : Fr) (dst : Option Nat) (T : TypeId) (len : Nat) (parts : List (Nat × Operand)) (K : Fr → Prop) : Prop :=
  match look T E.te with
  | some (.slice e c) =>
    if parts.map (·.1) == List.range len && decide (len < 1000000) then
      match frzAll A (parts.map (·.2)) with
      | some (A, vs) => match Sq.mk c vs with | some c => fin1 E.n dst A (.ow e c) K | none => False
      | none => False
    else False
  | _ => False

/-- The cells of structs. -/
def agParts (A : Fr) (m : Nat) : List Operand → Option (List AV)
  | [] => some []
  | x :: r => match opd A x, agParts A m r with
    | some (.ag l), some l' => if l.length == m then some (l ++ l') else none
    | _, _ => none
/-- A slice of structs: known memory from the first. -/
def abuildSS (A : Fr) (dst : Option Nat) (e : TypeId) (m len : Nat) (parts : List (Nat × Operand)) (K : Fr → Prop) : Prop :=
  if parts.map (·.1) == List.range len && decide (len * m < 1000000) && decide (0 < len) then
    match agParts A m (parts.map (·.2)) with
    | some l => fin1 E.n dst A (.ss len l) K
    | none => False
  else False
def abuildS' (A : Fr) (dst : Option Nat) (T : TypeId) (len : Nat) (parts : List (Nat × Operand)) (K : Fr → Prop) : Prop :=
  match look T E.te with
  | some (.sls e m) => abuildSS E A dst e m len parts K
  | _ => abuildS E A dst T len parts K

/-- A type of one cell, an aggregate's of so many, or not known. -/
inductive AK where
  | sc
  | agg (m : Nat)
  | unk
def aggOf (T : TypeId) : AK :=
  match look T E.te with
  | some (.strct _ n _) => .agg n
  | some (.flat _ n _) => .agg n
  | some (.arr m _ es _) => .agg (m * es)
  | some _ => .sc
  | none => .unk
def frzF1 : AV → AV
  | .ow _ c => .sl c
  | .nl _ c => .sl c
  | v => v
def frzF : List AV → List AV := List.map frzF1
def anyOw (l : List AV) : Bool := l.any fun | .ow .. => true | _ => false

def aloadBox (A : Fr) (dst : Option Nat) (T : TypeId) (s off : Nat) (K : Fr → Prop) : Prop :=
  match look s A with
  | some (.bx l) => match aggOf E T with
    | .sc => match l[off]? with
      | some (.ow _ _) => fin E.n dst A (.af s off) K
      | some (.pv v) => fin E.n dst A (.pv v) K
      | some (.sl c) => fin E.n dst A (.sl c) K
      | some (.ls c) => fin E.n dst A (.ls c) K
      | some (.nl e c) => fin E.n dst A (.nl e c) K
      | _ => False
    | .agg m =>
      if off + m ≤ l.length then
        if anyOw ((l.drop off).take m) then
          fin E.n dst (dropF s (upd s (.bx (l.take off ++ frzF ((l.drop off).take m) ++ l.drop (off + m))) A)) (.ag (frzF ((l.drop off).take m))) K
        else fin E.n dst A (.ag (frzF ((l.drop off).take m))) K
      else False
    | .unk => False
  | some (.ba c) => match aggOf E T with
    | .sc => c.get off fun v => fin E.n dst A v K
    | .agg m => off = 0 ∧ c.len = m ∧ fin E.n dst A (.aa c) K
    | .unk => False
  | _ => False
def aload (A : Fr) (dst : Option Nat) (T : TypeId) (x : Operand) (K : Fr → Prop) : Prop :=
  match x with
  | .global g => match look g E.gl, aggOf E T with
    | some c, .agg m => c.len = m ∧ fin E.n dst A (.aa c) K
    | _, _ => False
  | .tmp t => match look t A with
    | some (.bx _) => aloadBox E A dst T t 0 K
    | some (.ba _) => aloadBox E A dst T t 0 K
    | some (.pt s off) => aloadBox E A dst T s off K
    | some (.ep s i) => match look s A, aggOf E T with | some (.ow _ c), .sc => c.get i fun v => fin E.n dst A v K | _, _ => False
    | some (.ef s f i) => match look s A, aggOf E T with
      | some (.bx l), .sc => match l[f]? with | some (.ow _ c) => c.get i fun v => fin E.n dst A v K | _ => False
      | _, _ => False
    | some (.rp v) => match aggOf E T with | .sc => fin E.n dst A v K | _ => False
    | some (.lb l off) => match aggOf E T with
      | .sc => match l[off]? with
        | some (.pv v) => fin E.n dst A (.pv v) K
        | some (.sl c) => fin E.n dst A (.sl c) K
        | some (.ls c) => fin E.n dst A (.ls c) K
        | _ => False
      | .agg m => if off + m ≤ l.length then fin E.n dst A (.ag ((l.drop off).take m)) K else False
      | .unk => False
    | some (.la c off) => match aggOf E T with
      | .sc => c.get off fun v => fin E.n dst A v K
      | .agg m => off = 0 ∧ c.len = m ∧ fin E.n dst A (.aa c) K
      | .unk => False
    | _ => False
  | _ => False

/-- The value of a part that is to be stored in a box's cell: an owned slice moves there. -/
def giveTo (A : Fr) (x : Operand) : Option (Fr × AV) :=
  match opd A x with
  | some (.pv v) => some (A, .pv v)
  | some (.sl c) => some (A, .sl c)
  | some (.ls c) => some (A, .ls c)
  | some (.nl e c) => some (A, .nl e c)
  | some (.ow e c) => (otmp x).map fun t => (dropR t A, .ow e c)
  | some (.al s) => match look s A with | some (.ow e c) => some (dropR s A, .ow e c) | _ => none
  | _ => none

/-- A struct whose parts are owned elsewhere is laid into a box. -/
def astoreA (A : Fr) (T : TypeId) (s : Nat) (v : List AV) (K : Fr → Prop) : Prop :=
  match aggOf E T, look s A with
  | .agg m, some (.bx l) => if (l.length == m && (v.length == m && v.all (laysOK A))) = true then match backL s (alsOf 0 v) (dropF s (upd s (.bx (v.map unal)) A)) with | some A => K A | none => False else False
  | _, _ => False
/-- Something is known of it. -/
def AV.known : AV → Bool
  | .jk => false
  | _ => true
def astoreBox (A : Fr) (T : TypeId) (s off : Nat) (y : Operand) (K : Fr → Prop) : Prop :=
  match aggOf E T with
  | .unk => False
  | .sc => match giveTo A y with
    | some (A, v) => match look s A with
      | some (.bx l) => if off < l.length then K (dropF s (upd s (.bx (l.set off v)) A)) else False
      | some (.ba c) => c.set off v fun c => K (upd s (.ba c) A)
      | _ => False
    | none => False
  | .agg m => match opd A y with
    | some (.ag v) => match look s A with
      | some (.bx l) => if off + m ≤ l.length && (v.length == m && v.all AV.known) then K (dropF s (upd s (.bx (l.take off ++ v ++ l.drop (off + m))) A)) else False
      | _ => False
    | some (.aa c) => match look s A with
      | some (.ba d) => off = 0 ∧ c.len = m ∧ d.len = m ∧ K (upd s (.ba c) A)
      | _ => False
    | _ => False
def astore (A : Fr) (T : TypeId) (x y : Operand) (K : Fr → Prop) : Prop :=
  match x with
  | .tmp t => match look t A with
    | some (.bx _) => astoreBox E A T t 0 y K
    | some (.ba _) => astoreBox E A T t 0 y K
    | some (.pt s off) => astoreBox E A T s off y K
    | some (.ep s i) => match frzO A y, aggOf E T with
      | some (A, v), .sc => match look s A with | some (.ow e c) => c.set i v fun c => K (upd s (.ow e c) A) | _ => False
      | _, _ => False
    | some (.ef s f i) => match frzO A y, aggOf E T with
      | some (A, v), .sc => match look s A with
        | some (.bx l) => match l[f]? with | some (.ow e c) => c.set i v fun c => K (upd s (.bx (l.set f (.ow e c))) A) | _ => False
        | _ => False
      | _, _ => False
    | _ => False
  | _ => False

def astore' (A : Fr) (T : TypeId) (x y : Operand) (K : Fr → Prop) : Prop :=
  match opd A y with
  | some (.ao v) => match x with
    | .tmp t => match look t A with
      | some (.bx _) => astoreA E A T t v K
      | some (.pt s 0) => astoreA E A T s v K
      | _ => False
    | _ => False
  | _ => astore E A T x y K

def anil (A : Fr) (dst : Option Nat) (x : Operand) (K : Fr → Prop) : Prop :=
  match x with
  | .tmp t => match look t A with
    | some (.bx _) => fin E.n dst A (.pt t 0) K
    | some (.ba _) => fin E.n dst A (.pt t 0) K
    | some (.pt s off) => fin E.n dst A (.pt s off) K
    | some (.lb l off) => fin E.n dst A (.lb l off) K
    | some (.la c off) => fin E.n dst A (.la c off) K
    | _ => False
  | _ => False

def abinop (A : Fr) (dst : Option Nat) (op : BinOp) (T : TypeId) (x y : Operand) (K : Fr → Prop) : Prop :=
  match opd A x, opd A y with
  | some (.pv (.bool a)), some (.pv (.bool b)) => match op, look T E.te with
    | .eql, some .bool => fin E.n dst A (.pv (.bool (a == b))) K
    | .neq, some .bool => fin E.n dst A (.pv (.bool (!(a == b)))) K
    | _, _ => False
  | some (.pv a), some (.pv b) => abin op a b fun v => fin E.n dst A (.pv v) K
  | some (.aa (.ints k l)), some (.aa (.ints k' l')) => match look T E.te with
    | some (.arr m e 1 _) => match look e E.te with
      | some (.int _) => if k = k' then l.length = m ∧ l'.length = m ∧ (match op with
        | .eql => fin E.n dst A (.pv (.bool (l == l'))) K
        | .neq => fin E.n dst A (.pv (.bool (!(l == l')))) K
        | _ => False) else False
      | _ => False
    | _ => False
  | _, _ => False

def acaps (A : Fr) : List Operand → Option (List AV)
  | [] => some []
  | x :: r => match opd A x, acaps A r with
    | some (.pv v), some r => some (.pv v :: r)
    | some (.sl c), some r => some (.sl c :: r)
    | some (.bx _), some r => (otmp x).map fun t => .pt t 0 :: r
    | some (.ba _), some r => (otmp x).map fun t => .pt t 0 :: r
    | some (.pt s off), some r => some (.pt s off :: r)
    | _, _ => none

def anum (A : Fr) (o : Option Operand) (d : Int) (K : Int → Prop) : Prop :=
  match o with
  | none => K d
  | some o => match opd A o with | some (.pv (.int _ i)) => K i | _ => False
def cutOf : Option Operand → Sq → Nat → Nat → Sq
  | none, c, _, h => c.top h
  | some _, c, l, h => c.cut l h
/-- A part of known memory. -/
def aview (A₀ A : Fr) (dst : Option Nat) (lo hi : Option Operand) (c : Sq) (mk : Sq → AV) (K : Fr → Prop) : Prop :=
  anum A₀ lo 0 fun l => anum A₀ hi c.len fun h => 0 ≤ l ∧ l ≤ h ∧ h ≤ c.len ∧ fin E.n dst A (mk (cutOf lo c l.toNat h.toNat)) K
def aslice (A : Fr) (dst : Option Nat) (T : TypeId) (x : Operand) (lo hi : Option Operand) (K : Fr → Prop) : Prop :=
  match opd A x with
  | none => False
  | some v => match look T E.te with
    | some (.slice _ _) =>
      if (dst.map E.cut.contains).getD false then
        match lo with
        | some _ => False
        | none => match v, otmp x with
          | .ow e c, some t => anum A hi c.len fun h => 0 ≤ h ∧ h ≤ c.len ∧ fin1 E.n dst (dropR t A) (.ow e (c.top h.toNat)) K
          | .al s, _ => match look s A with
            | some (.ow e c) => anum A hi c.len fun h => 0 ≤ h ∧ h ≤ c.len ∧ fin1 E.n dst (dropR s A) (.ow e (c.top h.toNat)) K
            | _ => False
          | .af s f, _ => match look s A with
            | some (.bx l) => match l[f]? with
              | some (.ow e c) => anum A hi c.len fun h => 0 ≤ h ∧ h ≤ c.len ∧ fin1 E.n dst (dropF s (upd s (.bx (l.set f .jk)) A)) (.ow e (c.top h.toNat)) K
              | _ => False
            | _ => False
          | _, _ => False
      else
        match v with
        | .ls c => aview E A A dst lo hi c .ls K
        | v => match frz A (otmp x) v with
          | some (A', .sl c) => aview E A A' dst lo hi c .sl K
          | some (A', .nl _ c) => aview E A A' dst lo hi c .sl K
          | _ => False
    | some (.arr m _ 1 _) => match ptOf (otmp x) v with
      | some (s, off) => match look s A with
        | some (.ba c) => off = 0 ∧ c.len = m ∧ aview E A (setd s (.la c 0) A) dst lo hi c .sl K
        | _ => False
      | none => False
    | _ => False

def afieldAddr (A : Fr) (dst : Option Nat) (T : TypeId) (x : Operand) (f : Nat) (K : Fr → Prop) : Prop :=
  let off? := match look T E.te with
    | some (.strct fs _ _) => (fs[f]?).map (·.1)
    | some (.flat fs _ _) => (fs[f]?).map (·.1)
    | _ => none
  match x, off? with
  | .tmp t, some o => match look t A with
    | some (.bx _) => fin E.n dst A (.pt t o) K
    | some (.ba _) => fin E.n dst A (.pt t o) K
    | some (.pt s off) => fin E.n dst A (.pt s (off + o)) K
    | some (.lb l off) => fin E.n dst A (.lb l (off + o)) K
    | some (.la c off) => fin E.n dst A (.la c (off + o)) K
    | _ => False
  | _, _ => False

def afield (A : Fr) (dst : Option Nat) (T : TypeId) (x : Operand) (f : Nat) (K : Fr → Prop) : Prop :=
  match opd A x, look T E.te with
  | some (.ag l), some (.strct fs _ _) => match fs[f]? with
    | some (o, ft, sz) => match aggOf E ft with
      | .unk => False
      | .sc => match l[o]? with
        | some (.pv v) => fin E.n dst A (.pv v) K
        | some (.sl c) => fin E.n dst A (.sl c) K
        | some (.ls c) => fin E.n dst A (.ls c) K
        | some (.nl e c) => fin E.n dst A (.nl e c) K
        | _ => False
      | .agg m => if o + m ≤ l.length && m == sz then fin E.n dst A (.ag ((l.drop o).take m)) K else False
    | none => False
  | _, _ => False

def aindexAddr (A : Fr) (dst : Option Nat) (T : TypeId) (x i : Operand) (K : Fr → Prop) : Prop :=
  match opd A i, look T E.te with
  | some (.pv (.int _ i)), some (.slice _ _) => match opd A x with
    | some v => match srcOf A (otmp x) v with
      | some (.slot s, c) => 0 ≤ i ∧ i < c.len ∧ fin E.n dst A (.ep s i.toNat) K
      | some (.field s f, c) => 0 ≤ i ∧ i < c.len ∧ fin E.n dst A (.ef s f i.toNat) K
      | some (.ro _, c) => 0 ≤ i ∧ i < c.len ∧ c.get i.toNat fun v => fin E.n dst A (.rp v) K
      | none => False
    | none => False
  | some (.pv (.int _ i)), some (.arr m _ es _) => match opd A x with
    | some (.la c off) => 0 ≤ i ∧ i < m ∧ fin E.n dst A (.la c (off + i.toNat * es)) K
    | some (.lb c off) => 0 ≤ i ∧ i < m ∧ fin E.n dst A (.lb c (off + i.toNat * es)) K
    | some v => match ptOf (otmp x) v with
      | some (s, off) => 0 ≤ i ∧ i < m ∧ fin E.n dst A (.pt s (off + i.toNat * es)) K
      | none => False
    | none => False
  | _, _ => False

def aindexAddr' (A : Fr) (dst : Option Nat) (T : TypeId) (x i : Operand) (K : Fr → Prop) : Prop :=
  match look T E.te with
  | some (.sls _ m) => match opd A i, opd A x with
    | some (.pv (.int _ i)), some (.ss n l) => 0 ≤ i ∧ i < n ∧ fin E.n dst A (.lb l (i.toNat * m)) K
    | _, _ => False
  | _ => aindexAddr E A dst T x i K

def aindex (A : Fr) (dst : Option Nat) (T : TypeId) (x i : Operand) (K : Fr → Prop) : Prop :=
  match opd A i, look T E.te, opd A x with
  | some (.pv (.int _ i)), some (.arr m e es _), some (.aa c) => c.len = m * es ∧ 0 ≤ i ∧ i < m ∧
    match aggOf E e with
    | .unk => False
    | .sc => es = 1 ∧ c.get i.toNat fun v => fin E.n dst A v K
    | .agg k => k = es ∧ fin E.n dst A (.aa (c.cut (i.toNat * es) (i.toNat * es + es))) K
  | _, _, _ => False

def aappend (A : Fr) (dst : Option Nat) (T : TypeId) (x y : Operand) (K : Fr → Prop) : Prop :=
  match look T E.te, opd A x, opd A y with
  | some (.slice e _), some vx, some vy => match srcOf A (otmp y) vy with
    | some (_, cy) => match vx, otmp x with
      | .nl _ c, _ => match c.cat cy with | some c => c.len < 2 ^ 40 ∧ fin1 E.n dst A (.ow e c) K | none => False
      | .ow e' c, some t => match c.cat cy with | some c => e' = e ∧ c.len < 2 ^ 40 ∧ fin1 E.n dst (dropR t A) (.ow e c) K | none => False
      | .al s, _ => match look s A with
        | some (.ow e' c) => match c.cat cy with | some c => e' = e ∧ c.len < 2 ^ 40 ∧ fin1 E.n dst (dropR s A) (.ow e c) K | none => False
        | _ => False
      | .af s f, _ => match look s A with
        | some (.bx l) => match l[f]? with
          | some (.ow e' c) => match c.cat cy with
            | some c => e' = e ∧ c.len < 2 ^ 40 ∧ fin1 E.n dst (dropF s (upd s (.bx (l.set f .jk)) A)) (.ow e c) K
            | none => False
          | _ => False
        | _ => False
      | _, _ => False
    | none => False
  | _, _, _ => False

def alen (A : Fr) (dst : Option Nat) (T : TypeId) (x : Operand) (K : Fr → Prop) : Prop :=
  match look T E.te, opd A x with
  | some (.slice _ _), some v => match srcOf A (otmp x) v with
    | some (_, c) => fin E.n dst A (.pv (.int .i64 c.len)) K
    | none => False
  | _, _ => False

def alen' (A : Fr) (dst : Option Nat) (T : TypeId) (x : Operand) (K : Fr → Prop) : Prop :=
  match look T E.te with
  | some (.sls _ _) => match opd A x with
    | some (.ss n _) => fin E.n dst A (.pv (.int .i64 n)) K
    | _ => False
  | some (.slice _ _) => match opd A x with
    | some (.pv (.slice none 0 0)) => fin E.n dst A (.pv (.int .i64 0)) K
    | _ => alen E A dst T x K
  | _ => alen E A dst T x K

/-- An argument that the callee may turn: as it sees it, and its slot. -/
def ioArg (A : Fr) (t : Option Nat) : AV → Option (AV × Nat)
  | .ow e c => t.map fun t => (.ow e c, t)
  | .bx l => t.map fun t => (.bx (l.map norm1), t)
  | .ba c => t.map fun t => (.ba c, t)
  | .al s => match look s A with | some (.ow e c) => some (.ow e c, s) | _ => none
  | .pt s 0 => match look s A with
    | some (.bx l) => some (.bx (l.map norm1), s)
    | some (.ba c) => some (.ba c, s)
    | _ => none
  | _ => none
/-- Frozen arguments first: the frame turns. -/
def frzArgs (A : Fr) : List (Mode × Operand) → Option Fr
  | [] => some A
  | (.frz, x) :: r => match opd A x with
    | some (.ag _) => frzArgs A r
    | some (.aa _) => frzArgs A r
    | _ => match frzO A x with | some (A, _) => frzArgs A r | none => none
  | (_, _) :: r => frzArgs A r
def unnl1 : AV → AV
  | .nl _ c => .sl c
  | v => v
def unnl : AV → Option AV
  | .pv v => some (.pv v)
  | .sl c => some (.sl c)
  | .nl _ c => some (.sl c)
  | .ag l => some (.ag (l.map unnl1))
  | .aa c => some (.aa c)
  | _ => none
/-- The slots that a lent value hangs on. -/
def lentOf (t : Option Nat) (v : AV) : List Nat := if v.owner then t.toList else v.ref
/-- The arguments, the slots handed 'io', the slots lent. -/
def argsOf (A : Fr) : List (Mode × Operand) → Option (List AV × List Nat × List Nat)
  | [] => some ([], [], [])
  | (.io, x) :: r => match (opd A x).bind (ioArg A (otmp x)), argsOf A r with
    | some (v, p), some (vs, ps, ls) => some (v :: vs, p :: ps, ls)
    | _, _ => none
  | (.frz, x) :: r => match (opd A x).bind unnl, argsOf A r with
    | some v, some (vs, ps, ls) => some (v :: vs, ps, ls)
    | _, _ => none
  | (.lend, x) :: r => match opd A x with
    | some u => match lend A (otmp x) u, argsOf A r with
      | some v, some (vs, ps, ls) => some (v :: vs, ps, lentOf (otmp x) u ++ ls)
      | _, _ => none
    | none => none
/-- What a called closure captured, as it sees it. -/
def capsOf (A : Fr) (f : FuncId) : Option Nat → Option (List AV × List Nat)
  | none => some ([], [])
  | some t => match look t A with
    | some (.fn g caps) => if g == f then (lend.lendAll A caps).map fun l => (l, AV.ref.refs caps) else none
    | _ => none
def nodupB : List Nat → Bool
  | [] => true
  | s :: r => !r.contains s && nodupB r
/-- What came back is laid into its owners. -/
def ioBack (A : Fr) : List Nat → List AV → Option Fr
  | [], [] => some A
  | s :: ps, v :: vs => match look s A, v with
    | some (.ow e _), .ow e' c => if e == e' then ioBack (upd s (.ow e c) A) ps vs else none
    | some (.bx _), .bx l => ioBack (dropF s (upd s (.bx l) A)) ps vs
    | some (.ba _), .ba c => ioBack (upd s (.ba c) A) ps vs
    | some (.ow _ _), .jk => ioBack (dropR s A) ps vs
    | _, _ => none
  | _, _ => none
/-- What a call may hand back. -/
def AV.clean : AV → Bool
  | pv _ | sl _ | nl _ _ | ow _ _ | aa _ => true
  | ag l => l.all fun | pv _ | sl _ | nl _ _ => true | _ => false
  | tp l => l.all fun | pv _ | sl _ | nl _ _ | aa _ => true | ag l => l.all (fun | pv _ | sl _ | nl _ _ => true | _ => false) | _ => false
  | fn _ caps => (AV.ref.refs caps).isEmpty
  | _ => false

def acall (A : Fr) (dst : Option Nat) (f : FuncId) (args : List Operand) (capt : Option Nat) (K : Fr → Prop) : Prop :=
  match look f E.orc with
  | none => False
  | some sp =>
    if sp.modes.length == args.length then
      match frzArgs A (sp.modes.zip args) with
      | none => False
      | some A => match argsOf A (sp.modes.zip args), capsOf A f capt with
        | some (vs, ps, ls), some (extra, ls') =>
          if nodupB ps && (ls ++ ls').all (fun s => !ps.contains s) then
            sp.sem (vs ++ extra) fun res outs =>
              match ioBack A ps outs with
              | some A => fin E.n dst A res K
              | none => False
          else False
        | _, _ => False
    else False

/-- A first argument handed 'io' that is an owner in a box. -/
def afArg (A : Fr) : List Mode → List Operand → Option (Nat × Nat × Nat)
  | .io :: _, .tmp t :: _ => match look t A with | some (.af s f) => some (t, s, f) | _ => none
  | _, _ => none
def takeF (n : Rg) (A : Fr) (t s f : Nat) : Option Fr :=
  match look s A with
  | some (.bx l) => match l[f]? with
    | some (.ow e c) => if n.has t then some (setd t (.ow e c) (dropF s (upd s (.bx (l.set f .jk)) A))) else none
    | _ => none
  | _ => none
/-- Nothing is frozen for the call, and a slot is not handed 'io'. -/
def notIo (A : Fr) (s : Nat) (l : List (Mode × Operand)) : Bool :=
  l.all (fun e => match e.1 with | .frz => false | _ => true) && (match argsOf A l with | some (_, ps, _) => !ps.contains s | none => false)
def acallF (A : Fr) (dst : Option Nat) (f : FuncId) (ms : List Mode) (args : List Operand) (t s fl : Nat) (K : Fr → Prop) : Prop :=
  match takeF E.n A t s fl with
  | some A₁ => if (dst != some t && dst != some s && s != t && notIo A₁ s (ms.zip args)) = true then acall E A₁ dst f args none fun A₂ => match backF A₂ t s fl with | some A₃ => K A₃ | none => False else False
  | none => False

def extract1 (A : Fr) (dst : Option Nat) (x : Operand) (i : Nat) (K : Fr → Prop) : Prop :=
  match opd A x with
  | some (.tp l) => match l[i]? with
    | some (.pv v) => fin E.n dst A (.pv v) K
    | some (.sl c) => fin E.n dst A (.sl c) K
    | some (.nl e c) => fin E.n dst A (.nl e c) K
    | some (.ag l) => fin E.n dst A (.ag l) K
    | some (.aa c) => fin E.n dst A (.aa c) K
    | _ => False
  | _ => False

def acallOp (A : Fr) (dst : Option Nat) (c : Call) (K : Fr → Prop) : Prop :=
  match c.callee with
  | .builtin .len => match c.args.toList, c.argTypes.toList with
    | [x], [T] => alen' E A dst T x K
    | _, _ => False
  | .builtin .append => match c.args.toList, c.argTypes.toList with
    | [x, y], [T, T'] => if T == T' then aappend E A dst T x y K else False
    | _, _ => False
  | .builtin .min => match c.args.toList with
    | [x, y] => match opd A x, opd A y with
      | some (.pv (.int k a)), some (.pv (.int _ b)) => fin E.n dst A (.pv (.int k (if b < a then b else a))) K
      | _, _ => False
    | _ => False
  | .value (.func f) => match (look f E.orc).bind fun sp => (afArg A sp.modes c.args.toList).map fun p => (sp.modes, p) with
    | some (ms, t, s, fl) => acallF E A dst f ms c.args.toList t s fl K
    | none => acall E A dst f c.args.toList none K
  | .value (.tmp t) => match look t A with
    | some (.fn f _) => acall E A dst f c.args.toList (some t) K
    | _ => False
  | _ => False
def aop (A : Fr) (o : Oper) (K : Fr → Prop) : Prop :=
  match o.op with
  | .move x => amove E false A o.dst o.type x K
  | .assign x => amove E true A o.dst o.type x K
  | .pick c a b => match opd A c with
    | some (.pv (.bool t)) => br t (amove E false A o.dst o.type a K) (amove E false A o.dst o.type b K)
    | _ => False
  | .alloc T => match look T E.te with
    | some (.int k) => fin1 E.n o.dst A (.bx [.pv (.int k 0)]) K
    | some .bool => fin1 E.n o.dst A (.bx [.pv (.bool false)]) K
    | some (.slice e c) => fin1 E.n o.dst A (.bx [.nl e c]) K
    | some (.arr _ _ _ z) => fin1 E.n o.dst A (.ba z) K
    | some (.flat _ _ z) => fin1 E.n o.dst A (.ba z) K
    | some (.strct _ _ z) => fin1 E.n o.dst A (.bx z) K
    | _ => False
  | .box _ x => abox' E A o.dst x K
  | .build T parts => if (o.dst.map E.cut.contains).getD false then abuildA E A o.dst T parts.toList K else abuild E A o.dst T parts.toList K
  | .buildSlice T len parts => abuildS' E A o.dst T len parts.toList K
  | .load T x => aload E A o.dst T x K
  | .store T x y => match o.dst with | none => astore' E A T x y K | some _ => False
  | .nilCheck x => anil E A o.dst x K
  | .binOp op T x y _ => abinop E A o.dst op T x y K
  | .unOp op _ x => match opd A x with
    | some (.pv v) => aun op v fun v => fin E.n o.dst A (.pv v) K
    | _ => False
  | .convert src dst x => match look src E.te, look dst E.te, opd A x with
    | some (.int _), some (.int k), some (.pv (.int _ v)) => fin E.n o.dst A (.pv (.int k (k.wrap v))) K
    | _, _, _ => False
  | .makeFunc (.func f) first captured =>
    if first.isEmpty then match acaps A captured.toList with | some caps => fin E.n o.dst A (.fn f caps) K | none => False else False
  | .makeSlice T l c => match look T E.te, opd A l, opd A c with
    | some (.slice e z), some (.pv (.int .i64 l)), some (.pv (.int .i64 c)) => match z.zeros l.toNat with
      | some z => l = c ∧ 0 ≤ l ∧ l < 2 ^ 40 ∧ fin1 E.n o.dst A (.ow e z) K
      | none => False
    | _, _, _ => False
  | .slice T x lo hi none => aslice E A o.dst T x lo hi K
  | .fieldAddr T x f => afieldAddr E A o.dst T x f K
  | .field T x f => afield E A o.dst T x f K
  | .indexAddr T x i => aindexAddr' E A o.dst T x i K
  | .index T x i => aindex E A o.dst T x i K
  | .extract x i => extract1 E A o.dst x i K
  | .call c => acallOp E A o.dst c K
  | _ => False

def askip (A : Fr) (o : Oper) (K : Fr → Prop) : Prop := fin E.n o.dst A (.tp []) K
def guarded (A : Fr) (ops : Array Oper) (o : Oper) (K : Fr → Prop) : Prop :=
  match o.guard with
  | none => aop E A o K
  | some (j, want) => match (ops[j]?).bind (·.dst) with
    | some d => match look d A with
      | some (.pv (.bool g)) => br g
          (br want (aop E (upd d (.pv (.bool true)) A) o K) (askip E (upd d (.pv (.bool true)) A) o K))
          (br want (askip E (upd d (.pv (.bool false)) A) o K) (aop E (upd d (.pv (.bool false)) A) o K))
      | some (.tp []) => askip E A o K
      | _ => False
    | none => False
def aops (ops : Array Oper) : List Oper → Fr → (Fr → Prop) → Prop
  | [], A, K => K A
  | o :: r, A, K => guarded E A ops o fun A => aops ops r A K

/-- The first region of a piece of code: a loop's name. -/
def firstReg : Code → Option Nat
  | .region id _ _ => some id
  | .seq a b => (firstReg a).or (firstReg b)
  | .cond _ x y => (firstReg x).or (firstReg y)
  | .block _ b => firstReg b
  | .loop b => firstReg b
  | .scope b => firstReg b
  | _ => none
def restr (keep : List Nat) (A : Fr) : Fr := keep.filterMap fun s => (look s A).bind fun v => if v.ref.all keep.contains then some (s, norm v) else none
def keepOf (b : Code) : List Nat := ((firstReg b).bind fun i => look i E.keep).getD []

def iter (step : Fr → (Fr → Prop) → Prop) : Nat → Fr → Prop
  | 0, _ => False
  | n + 1, A => step A (iter step n)

def thenE (b : Fr → Prop) (K : Exit → Fr → Prop) : Exit → Fr → Prop
  | .normal, A => b A
  | e, A => K e A
def inB (id : Nat) (K : Exit → Fr → Prop) : Exit → Fr → Prop
  | .exit j, A => if j == id then K .normal A else K (.exit j) A
  | e, A => K e A

def AE : Code → Fr → (Exit → Fr → Prop) → Prop
  | .skip, A, K => K .normal A
  | .region _ ops draw, A, K => br draw (pairsOK ops = true) True ∧ aops E ops ops.toList A (K .normal)
  | .seq a b, A, K => AE a A (thenE (fun A => AE b A K) K)
  | .cond c x y, A, K => match opd A c with
    | some (.pv (.bool t)) => br t (AE x A K) (AE y A K)
    | _ => False
  | .block id b, A, K => AE b A (inB id K)
  | .loop b, A, K => ∃ N, iter (fun A next => AE b A (thenE (fun A => next (restr (keepOf E b) A)) K)) N (restr (keepOf E b) A)
  | .exit id, A, K => K (.exit id) A
  | .ret, A, K => K .ret A
  | _, _, _ => False
end Go.Gx

/-
  Gx3: what an abstract frame says of the real temporaries and the real memory.
  Conditions: none; definitions and small laws.
-/
namespace Go.Gx
open Go

def All2 {α β : Type} (R : α → β → Prop) : List α → List β → Prop
  | [], [] => True
  | a :: as, b :: bs => R a b ∧ All2 R as bs
  | _, _ => False
theorem All2.length {α β : Type} {R : α → β → Prop} : ∀ {as : List α} {bs : List β}, All2 R as bs → bs.length = as.length
  | [], [], _ => rfl
  | _ :: as, _ :: bs, h => by simp [All2.length (as := as) (bs := bs) h.2]
theorem All2.mono {α β : Type} {R R' : α → β → Prop} (hr : ∀ a b, R a b → R' a b) : ∀ {as : List α} {bs : List β}, All2 R as bs → All2 R' as bs
  | [], [], _ => trivial
  | _ :: _, _ :: _, h => ⟨hr _ _ h.1, All2.mono hr h.2⟩
theorem All2.get {α β : Type} {R : α → β → Prop} : ∀ {as : List α} {bs : List β}, All2 R as bs → ∀ {i : Nat} {a : α}, as[i]? = some a → ∃ b, bs[i]? = some b ∧ R a b
  | [], [], _, i, a, h => by simp at h
  | a :: as, b :: bs, h, 0, _, e => by simp at e; subst e; exact ⟨b, rfl, h.1⟩
  | a :: as, b :: bs, h, i + 1, _, e => by simp at e; obtain ⟨b', hb, hr⟩ := All2.get h.2 e; exact ⟨b', by simpa using hb, hr⟩
theorem All2.get' {α β : Type} {R : α → β → Prop} : ∀ {as : List α} {bs : List β}, All2 R as bs → ∀ {i : Nat} {b : β}, bs[i]? = some b → ∃ a, as[i]? = some a ∧ R a b
  | [], [], _, i, a, h => by simp at h
  | a :: as, b :: bs, h, 0, _, e => by simp at e; subst e; exact ⟨a, rfl, h.1⟩
  | a :: as, b :: bs, h, i + 1, _, e => by simp at e; obtain ⟨b', hb, hr⟩ := All2.get' h.2 e; exact ⟨b', by simpa using hb, hr⟩
theorem All2.append {α β : Type} {R : α → β → Prop} : ∀ {as : List α} {bs : List β} {as' : List α} {bs' : List β}, All2 R as bs → All2 R as' bs' → All2 R (as ++ as') (bs ++ bs')
  | [], [], _, _, _, h => h
  | _ :: _, _ :: _, _, _, h, h' => ⟨h.1, All2.append h.2 h'⟩
theorem All2.take {α β : Type} {R : α → β → Prop} : ∀ {as : List α} {bs : List β} (n : Nat), All2 R as bs → All2 R (as.take n) (bs.take n)
  | [], [], n, _ => by simp [All2]
  | _ :: _, _ :: _, 0, _ => trivial
  | _ :: _, _ :: _, n + 1, h => ⟨h.1, All2.take n h.2⟩
theorem All2.drop {α β : Type} {R : α → β → Prop} : ∀ {as : List α} {bs : List β} (n : Nat), All2 R as bs → All2 R (as.drop n) (bs.drop n)
  | [], [], n, _ => by simp [All2]
  | _ :: _, _ :: _, 0, h => h
  | _ :: _, _ :: _, n + 1, h => All2.drop n h.2
theorem All2.set {α β : Type} {R : α → β → Prop} {a : α} {b : β} (hr : R a b) : ∀ {as : List α} {bs : List β} (n : Nat), All2 R as bs → All2 R (as.set n a) (bs.set n b)
  | [], [], n, _ => by simp [All2]
  | _ :: _, _ :: _, 0, h => ⟨hr, h.2⟩
  | _ :: _, _ :: _, n + 1, h => ⟨h.1, All2.set hr n h.2⟩

/-- A slice that reads as these cells, in blocks of which Q holds. -/
def Seg (Q : Nat → Prop) (w : World) (x : Value) (cs : List Value) : Prop :=
  ∃ a cap, x = .slice a cs.length cap ∧ cs.length ≤ cap ∧ (cs = [] ∨ ∃ b off, a = some ⟨b, off, none⟩ ∧ Q b ∧ ∀ i v, cs[i]? = some v → w.cell? ⟨b, off + i, none⟩ = some v)
def Row (S : Nat → Prop) (w : World) (r : List Int) (x : Value) : Prop := Seg S w x (r.map (.int .i64))
def Row2 (S : Nat → Prop) (w : World) (r : List (List Int)) (x : Value) : Prop := ∃ cs, All2 (Row S w) r cs ∧ Seg S w x cs
def Cells (S : Nat → Prop) (w : World) : Sq → List Value → Prop
  | .ints k l, cs => cs = l.map (.int k)
  | .bools l, cs => cs = l.map .bool
  | .rows l, cs => All2 (Row S w) l cs
  | .rows2 l, cs => All2 (Row2 S w) l cs
theorem Cells.length {S : Nat → Prop} {w : World} : ∀ {c : Sq} {cs : List Value}, Cells S w c cs → cs.length = c.len
  | .ints .., _, h => by simp [Cells] at h; subst h; simp [Sq.len]
  | .bools .., _, h => by simp [Cells] at h; subst h; simp [Sq.len]
  | .rows .., _, h => by simp only [Cells] at h; simpa [Sq.len] using h.length
  | .rows2 .., _, h => by simp only [Cells] at h; simpa [Sq.len] using h.length
def Ro (S Q : Nat → Prop) (w : World) (c : Sq) (x : Value) : Prop := ∃ cs, Cells S w c cs ∧ Seg Q w x cs
def Own (S : Nat → Prop) (w : World) (e : TypeId) (c : Sq) (x : Value) : Prop := ∃ cs, Cells S w c cs ∧ w.ownsRow 0 e 1 x cs.length cs

/-- A part that hangs on nothing and owns nothing. -/
def stat : AV → Bool
  | .pv _ | .jk | .nl .. | .sl _ | .ls _ => true
  | _ => false
section
variable (S L : Nat → Prop) (w : World) (ρ : Nat → Value)
/-- A part of a box. -/
def RP : AV → Value → Prop
  | .pv v, x => x = v ∧ scal v = true
  | .jk, _ => True
  | .nl _ c, x => x = .slice none 0 0 ∧ c.len = 0
  | .sl c, x => Ro S S w c x
  | .ls c, x => Ro S (fun b => S b ∨ L b) w c x
  | .ow e c, x => Own S w e c x
  | _, _ => False
def RPs (v : AV) (x : Value) : Prop := stat v = true ∧ RP S L w v x
def RAg (l : List AV) (x : Value) : Prop := ∃ cs : List Value, x = .agg cs.toArray ∧ All2 (RPs S L w) l cs
def RAa (c : Sq) (x : Value) : Prop := ∃ cs : List Value, x = .agg cs.toArray ∧ Cells S w c cs
/-- A part of a tuple. -/
def RT : AV → Value → Prop
  | .ag l, x => RAg S L w l x
  | .aa c, x => RAa S w c x
  | v, x => RPs S L w v x
def RPt (s off : Nat) (x : Value) : Prop := ∃ b, ρ s = .pointer (some ⟨b, 0, none⟩) ∧ x = .pointer (some ⟨b, off, none⟩)
def RLb (l : List AV) (off : Nat) (x : Value) : Prop := ∃ b e fz, ∃ cs : List Value, x = .pointer (some ⟨b, off, none⟩) ∧ (S b ∨ L b) ∧ w.heap[b]? = some (.cells cs.toArray e fz) ∧ All2 (RPs S L w) l cs
def RLa (c : Sq) (off : Nat) (x : Value) : Prop := ∃ b e fz, ∃ cs : List Value, x = .pointer (some ⟨b, off, none⟩) ∧ (S b ∨ L b) ∧ w.heap[b]? = some (.cells cs.toArray e fz) ∧ Cells S w c cs
/-- A slice of structs of known memory. -/
def RSs (n : Nat) (l : List AV) (x : Value) : Prop := ∃ b e fz, ∃ cs : List Value, x = .slice (some ⟨b, 0, none⟩) n n ∧ (S b ∨ L b) ∧ w.heap[b]? = some (.cells cs.toArray e fz) ∧ All2 (RPs S L w) l cs
/-- What a closure captured. -/
def RC : AV → Value → Prop
  | .pt s off, x => RPt ρ s off x
  | .lb l off, x => RLb S L w l off x
  | .la c off, x => RLa S L w c off x
  | v, x => RPs S L w v x
/-- A part of a struct that is owned elsewhere. -/
def RD : AV → Value → Prop
  | .al s, x => x = ρ s
  | v, x => RPs S L w v x
def RV : AV → Value → Prop
  | .ag l, x => RAg S L w l x
  | .aa c, x => RAa S w c x
  | .tp l, x => ∃ cs : List Value, x = .tuple cs.toArray ∧ All2 (RT S L w) l cs
  | .bx l, x => ∃ b e, ∃ cs : List Value, x = .pointer (some ⟨b, 0, none⟩) ∧ w.heap[b]? = some (.cells cs.toArray e (0, 0)) ∧ All2 (RP S L w) l cs
  | .ba c, x => ∃ b e, ∃ cs : List Value, x = .pointer (some ⟨b, 0, none⟩) ∧ w.heap[b]? = some (.cells cs.toArray e (0, 0)) ∧ Cells S w c cs
  | .al s, x => x = ρ s
  | .af s f, x => ∃ b e, ∃ cs : List Value, ρ s = .pointer (some ⟨b, 0, none⟩) ∧ w.heap[b]? = some (.cells cs.toArray e (0, 0)) ∧ cs[f]? = some x
  | .pt s off, x => RPt ρ s off x
  | .ep s i, x => ∃ b len cap, ρ s = .slice (some ⟨b, 0, none⟩) len cap ∧ x = .pointer (some ⟨b, i, none⟩)
  | .ef s f i, x => ∃ b e b' len cap, ∃ cs : List Value, ρ s = .pointer (some ⟨b, 0, none⟩) ∧ w.heap[b]? = some (.cells cs.toArray e (0, 0)) ∧
      cs[f]? = some (.slice (some ⟨b', 0, none⟩) len cap) ∧ x = .pointer (some ⟨b', i, none⟩)
  | .rp v, x => ∃ b off c, x = .pointer (some ⟨b, off, none⟩) ∧ (S b ∨ L b) ∧ w.cell? ⟨b, off, none⟩ = some c ∧ RPs S L w v c
  | .lb l off, x => RLb S L w l off x
  | .la c off, x => RLa S L w c off x
  | .fn f caps, x => ∃ cs : List Value, x = .func (.func f) #[] cs.toArray ∧ All2 (RC S L w ρ) caps cs
  | .ss n l, x => RSs S L w n l x
  | .ao l, x => ∃ cs : List Value, x = .agg cs.toArray ∧ All2 (RD S L w ρ) l cs
  | .pv v, x => RP S L w (.pv v) x
  | .jk, x => RP S L w .jk x
  | .nl e c, x => RP S L w (.nl e c) x
  | .sl c, x => RP S L w (.sl c) x
  | .ls c, x => RP S L w (.ls c) x
  | .ow e c, x => RP S L w (.ow e c) x
end

/-- Which blocks a slot's value owns. -/
def ownF : AV → Value → List Nat
  | .ow _ _, .slice (some a) _ _ => [a.block]
  | _, _ => []
def ownFs : List AV → List Value → List Nat
  | v :: vs, x :: xs => ownF v x ++ ownFs vs xs
  | _, _ => []
def rowOf (w : World) (b : Nat) : List Value := match w.heap[b]? with | some (.cells c _ _) => c.toList | _ => []
def owned (w : World) : AV → Value → List Nat
  | .ow _ _, .slice (some a) _ _ => [a.block]
  | .bx l, .pointer (some a) => a.block :: ownFs l (rowOf w a.block)
  | .ba _, .pointer (some a) => [a.block]
  | _, _ => []

/-- What a call is judged by: what was lent to it, what it may write, the world and the known memory at its beginning. -/
structure Ctx where
  L : Nat → Prop
  O : Nat → Prop
  S₀ : Nat → Prop
  w₀ : World
  val : Nat → Value

/-- The streams are as they were; no block has gone; old blocks outside of M hold what they held. -/
structure Mod (M : Nat → Prop) (w w' : World) : Prop where
  os : w'.os = w.os
  tape : w'.tape = w.tape
  output : w'.output = w.output
  size : w.heap.size ≤ w'.heap.size
  block : ∀ b, b < w.heap.size → ¬ M b → w'.heap[b]? = w.heap[b]?
  drawn : w.drawn ≤ w'.drawn
theorem Mod.refl (M : Nat → Prop) (w : World) : Mod M w w := ⟨rfl, rfl, rfl, Nat.le_refl _, fun _ _ _ => rfl, Nat.le_refl _⟩
theorem Mod.trans {M M' : Nat → Prop} {a b c : World} (h : Mod M a b) (h' : Mod M' b c) (hm : ∀ k, k < a.heap.size → M' k → M k) : Mod M a c :=
  ⟨h'.os.trans h.os, h'.tape.trans h.tape, h'.output.trans h.output, Nat.le_trans h.size h'.size, fun k hk hn =>
    (h'.block k (Nat.lt_of_lt_of_le hk h.size) (fun e => hn (hm k hk e))).trans (h.block k hk hn), Nat.le_trans h.drawn h'.drawn⟩
theorem Mod.drew (w : World) : Mod (fun _ => False) w w.drew := ⟨rfl, rfl, rfl, Nat.le_refl _, fun _ _ _ => rfl, Nat.le_succ _⟩
theorem Mod.alloc (w : World) (o : Obj) : Mod (fun _ => False) w (w.alloc o) := ⟨rfl, rfl, rfl, by simp, fun b hb _ => heap_alloc_old w o b hb, Nat.le_refl _⟩

def rho (a : Act) (t : Nat) : Value := a.tmps.getD t undef
/-- What hangs on a box's own slice has the box in the frame. -/
def Bxs (A : Fr) : Prop := ∀ s v t, look s A = some v → t ∈ v.fref → ∃ l, look t A = some (.bx l)
/-- The marks that loops over functions have left. -/
def mark (D : Nat) : Deferred := { target := .collected D, args := #[] }
def Marks (C : Ctx) (S : Nat → Prop) (ds : List Deferred) (w : World) : Prop :=
  ∃ Ds : List Nat, ds = Ds.map mark ∧ Ds.Nodup ∧ ∀ D, D ∈ Ds → w.heap[D]? = some (.deferred (some [])) ∧ C.w₀.heap.size ≤ D ∧ ¬ S D
theorem Marks.nil {C : Ctx} {S : Nat → Prop} {w : World} : Marks C S [] w := ⟨[], rfl, List.nodup_nil, fun _ h => by simp at h⟩
structure Inv (C : Ctx) (n : Rg) (S : Nat → Prop) (A : Fr) (a : Act) (w : World) : Prop where
  size : a.tmps.size = n.hi
  fix : ∀ i, i < n.lo → rho a i = C.val i
  defers : Marks C S a.defers w
  keys : (A.map (·.1)).Nodup
  bxs : Bxs A
  rel : ∀ s v, look s A = some v → RV S C.L w (rho a) v (rho a s)
  nd : ∀ s v, look s A = some v → (owned w v (rho a s)).Nodup
  dj : ∀ s v t u, look s A = some v → look t A = some u → s ≠ t → ∀ b, b ∈ owned w v (rho a s) → b ∉ owned w u (rho a t)
  apart : ∀ s v, look s A = some v → ∀ b, b ∈ owned w v (rho a s) → ¬ S b ∧ ¬ C.L b ∧ (C.O b ∨ C.w₀.heap.size ≤ b)
  lt : ∀ b, S b ∨ C.L b → b < w.heap.size
  s₀ : ∀ b, C.S₀ b → S b
  sg : ∀ b, S b → C.S₀ b ∨ C.O b ∨ C.w₀.heap.size ≤ b
  ext : Mod C.O C.w₀ w
  l₀ : ∀ b, C.L b → b < C.w₀.heap.size
end Go.Gx

/-
  Gx4: laws on frames; what is kept where memory turns elsewhere.
  Conditions: none; small laws.
-/
namespace Go.Gx
open Go

theorem look_mem {α : Type} : ∀ {A : List (Nat × α)} {s : Nat} {v : α}, look s A = some v → (s, v) ∈ A
  | [], _, _, h => by simp [look] at h
  | (t, x) :: r, s, v, h => by
    simp only [look] at h
    split at h
    · rename_i e; simp at e h; subst e; subst h; exact List.mem_cons_self ..
    · exact List.mem_cons_of_mem _ (look_mem h)
theorem look_of_mem {α : Type} : ∀ {A : List (Nat × α)} {s : Nat} {v : α}, (A.map (·.1)).Nodup → (s, v) ∈ A → look s A = some v
  | [], _, _, _, h => by simp at h
  | (t, x) :: r, s, v, hn, h => by
    simp only [List.map_cons, List.nodup_cons] at hn
    simp only [look]
    rcases List.mem_cons.1 h with h | h
    · simp at h; simp [h.1, h.2]
    · have : t ≠ s := fun e => hn.1 (e ▸ List.mem_map_of_mem (f := (·.1)) h)
      simp [this, look_of_mem hn.2 h]
theorem nodup_filter {α : Type} {A : List (Nat × α)} {p : Nat × α → Bool} (hn : (A.map (·.1)).Nodup) : ((A.filter p).map (·.1)).Nodup :=
  hn.sublist ((List.filter_sublist).map _)
theorem look_filter {α : Type} {A : List (Nat × α)} {p : Nat × α → Bool} (hn : (A.map (·.1)).Nodup) {s : Nat} {v : α} (h : look s (A.filter p) = some v) :
    look s A = some v ∧ p (s, v) = true := by
  have := look_mem h
  rw [List.mem_filter] at this
  exact ⟨look_of_mem hn this.1, this.2⟩
theorem look_filter' {α : Type} {A : List (Nat × α)} {p : Nat × α → Bool} (hn : (A.map (·.1)).Nodup) {s : Nat} {v : α} (h : look s A = some v) (hp : p (s, v) = true) :
    look s (A.filter p) = some v :=
  look_of_mem (nodup_filter hn) (List.mem_filter.2 ⟨look_mem h, hp⟩)
theorem look_dropR {A : Fr} (hn : (A.map (·.1)).Nodup) {d s : Nat} {v : AV} (h : look s (dropR d A) = some v) : look s A = some v ∧ s ≠ d ∧ d ∉ v.ref := by
  obtain ⟨h1, h2⟩ := look_filter hn h
  simpa using ⟨h1, by simpa using h2⟩
theorem look_dropF {A : Fr} (hn : (A.map (·.1)).Nodup) {d s : Nat} {v : AV} (h : look s (dropF d A) = some v) : look s A = some v :=
  (look_filter hn h).1
theorem nodup_setd {A : Fr} (hn : (A.map (·.1)).Nodup) (d : Nat) (v : AV) : ((setd d v A).map (·.1)).Nodup := by
  simp only [setd, List.map_cons, List.nodup_cons]
  refine ⟨fun h => ?_, nodup_filter hn⟩
  obtain ⟨e, he, hd⟩ := List.mem_map.1 h
  have := (List.mem_filter.1 he).2
  simp [hd] at this
theorem look_setd {A : Fr} (hn : (A.map (·.1)).Nodup) {d s : Nat} {u v : AV} (h : look s (setd d u A) = some v) :
    (s = d ∧ v = u) ∨ (s ≠ d ∧ look s A = some v ∧ d ∉ v.ref) := by
  simp only [setd, look] at h
  split at h
  · rename_i e; simp at e h; exact .inl ⟨e.symm, h.symm⟩
  · rename_i e; simp at e
    obtain ⟨h1, h2, h3⟩ := look_dropR hn h
    exact .inr ⟨h2, h1, h3⟩
theorem keys_upd (s : Nat) (v : AV) : ∀ A : Fr, (upd s v A).map (·.1) = A.map (·.1)
  | [] => rfl
  | (t, x) :: r => by
    simp only [upd]
    split
    · rfl
    · simp [keys_upd s v r]
theorem look_upd {s : Nat} {u : AV} : ∀ {A : Fr} {t : Nat} {v : AV}, look t (upd s u A) = some v → (t = s ∧ v = u ∧ ∃ x, look s A = some x) ∨ (t ≠ s ∧ look t A = some v)
  | [], t, v, h => by simp [upd, look] at h
  | (k, x) :: r, t, v, h => by
    simp only [upd] at h
    split at h
    · rename_i e
      simp at e
      simp only [look] at h
      split at h
      · rename_i e'; simp at e' h; exact .inl ⟨by omega, h.symm, x, by simp [look, e]⟩
      · rename_i e'; simp at e'; exact .inr ⟨by omega, by simp [look, e', h]⟩
    · rename_i e
      simp at e
      simp only [look] at h
      split at h
      · rename_i e'; simp at e' h; exact .inr ⟨by omega, by simp [look, e', h]⟩
      · rename_i e'
        simp at e'
        rcases look_upd h with ⟨h1, h2, y, h3⟩ | ⟨h1, h2⟩
        · exact .inl ⟨h1, h2, y, by simp [look, e, h3]⟩
        · exact .inr ⟨h1, by simp [look, e', h2]⟩
theorem look_upd_same {s : Nat} {u x : AV} : ∀ {A : Fr}, look s A = some x → look s (upd s u A) = some u
  | [], h => by simp [look] at h
  | (k, y) :: r, h => by
    simp only [look] at h
    simp only [upd]
    split at h
    · rename_i e; simp [look, e]
    · rename_i e; simp [look, e, look_upd_same h]
theorem look_upd_other {s t : Nat} {u x : AV} (hne : t ≠ s) : ∀ {A : Fr}, look t A = some x → look t (upd s u A) = some x
  | [], h => by simp [look] at h
  | (k, y) :: r, h => by
    simp only [look] at h
    simp only [upd]
    split at h
    · rename_i e; simp at e h
      have : t ≠ s := by omega
      simp [look, this, e, h]
    · rename_i e; simp at e
      split
      · simp [look, e, h]
      · simp [look, e, look_upd_other hne h]

theorem look_dropR' {A : Fr} (hn : (A.map (·.1)).Nodup) {d s : Nat} {v : AV} (h : look s A = some v) (h1 : s ≠ d) (h2 : d ∉ v.ref) : look s (dropR d A) = some v :=
  look_filter' hn h (by simp [h1, h2])
theorem look_setd' {A : Fr} (hn : (A.map (·.1)).Nodup) {d s : Nat} {u v : AV} (h : look s A = some v) (h1 : s ≠ d) (h2 : d ∉ v.ref) : look s (setd d u A) = some v := by
  simp only [setd, look, beq_iff_eq, Ne.symm h1, if_false, Bool.false_eq_true]
  exact look_dropR' hn h h1 h2
theorem look_setd_same {A : Fr} {d : Nat} {u : AV} : look d (setd d u A) = some u := by simp [setd, look]
theorem look_dropF' {A : Fr} (hn : (A.map (·.1)).Nodup) {d s : Nat} {l : List AV} (h : look s A = some (.bx l)) : look s (dropF d A) = some (.bx l) :=
  look_filter' hn h rfl
theorem look_dropF'' {A : Fr} (hn : (A.map (·.1)).Nodup) {d s : Nat} {v : AV} (h : look s A = some v) (h2 : d ∉ v.fref) : look s (dropF d A) = some v := by
  refine look_filter' hn h ?_
  cases v <;> simp_all [AV.fref] <;> omega
theorem look_dropF_fref {A : Fr} (hn : (A.map (·.1)).Nodup) {d s : Nat} {v : AV} (h : look s (dropF d A) = some v) : d ∉ v.fref := by
  have := (look_filter hn h).2
  cases v <;> simp_all [AV.fref] <;> omega
theorem fref_ref {v : AV} {t : Nat} (h : t ∈ v.fref) : t ∈ v.ref := by
  cases v <;> simp_all [AV.fref, AV.ref]
theorem Bxs.setd {A : Fr} (h : Bxs A) (hn : (A.map (·.1)).Nodup) {d : Nat} {u : AV} (hd : d ∉ u.ref) (hu : ∀ t, t ∈ u.fref → ∃ l, look t A = some (.bx l)) : Bxs (setd d u A) := by
  intro s v t hs ht
  rcases look_setd hn hs with ⟨rfl, rfl⟩ | ⟨h1, h2, h3⟩
  · obtain ⟨l, hl⟩ := hu t ht
    exact ⟨l, look_setd' hn hl (fun e => hd (e ▸ fref_ref ht)) (by simp [AV.ref])⟩
  · obtain ⟨l, hl⟩ := h s v t h2 ht
    exact ⟨l, look_setd' hn hl (fun e => h3 (e ▸ fref_ref ht)) (by simp [AV.ref])⟩
theorem Bxs.dropR {A : Fr} (h : Bxs A) (hn : (A.map (·.1)).Nodup) (d : Nat) : Bxs (dropR d A) := by
  intro s v t hs ht
  obtain ⟨h1, h2, h3⟩ := look_dropR hn hs
  obtain ⟨l, hl⟩ := h s v t h1 ht
  exact ⟨l, look_dropR' hn hl (fun e => h3 (e ▸ fref_ref ht)) (by simp [AV.ref])⟩
theorem Bxs.dropF {A : Fr} (h : Bxs A) (hn : (A.map (·.1)).Nodup) (d : Nat) : Bxs (dropF d A) := by
  intro s v t hs ht
  obtain ⟨l, hl⟩ := h s v t (look_dropF hn hs) ht
  exact ⟨l, look_dropF' hn hl⟩
theorem Bxs.upd {A : Fr} (h : Bxs A) {s : Nat} {u : AV} (hu : u.fref = []) (hb : ∀ l, look s A = some (.bx l) → ∃ l', u = .bx l') : Bxs (upd s u A) := by
  intro k v t hk ht
  rcases look_upd hk with ⟨rfl, rfl, x, hx⟩ | ⟨h1, h2⟩
  · rw [hu] at ht; simp at ht
  · obtain ⟨l, hl⟩ := h k v t h2 ht
    by_cases e : t = s
    · subst e
      obtain ⟨l', rfl⟩ := hb l hl
      exact ⟨l', look_upd_same hl⟩
    · exact ⟨l, look_upd_other e hl⟩
theorem nodup_upd {A : Fr} (hn : (A.map (·.1)).Nodup) (s : Nat) (v : AV) : ((upd s v A).map (·.1)).Nodup := by rw [keys_upd]; exact hn
theorem nodup_dropF {A : Fr} (hn : (A.map (·.1)).Nodup) (d : Nat) : ((dropF d A).map (·.1)).Nodup := nodup_filter hn
theorem nodup_dropR {A : Fr} (hn : (A.map (·.1)).Nodup) (d : Nat) : ((dropR d A).map (·.1)).Nodup := nodup_filter hn

/-! ### What is kept -/
section
variable {S S' : Nat → Prop} {w w' : World}
theorem cell_same {b off : Nat} (h : w'.heap[b]? = w.heap[b]?) : w'.cell? ⟨b, off, none⟩ = w.cell? ⟨b, off, none⟩ := by simp [World.cell?, h]
theorem Seg.keep {Q Q' : Nat → Prop} {x : Value} {cs : List Value} (h : Seg Q w x cs) (hq : ∀ b, Q b → Q' b) (hs : ∀ b, Q b → w'.heap[b]? = w.heap[b]?) : Seg Q' w' x cs := by
  obtain ⟨a, cap, rfl, hle, h⟩ := h
  refine ⟨a, cap, rfl, hle, h.imp id ?_⟩
  rintro ⟨b, off, rfl, hb, hc⟩
  exact ⟨b, off, rfl, hq b hb, fun i v hv => (cell_same (hs b hb)).trans (hc i v hv)⟩
variable (hS : ∀ b, S b → S' b) (hs : ∀ b, S b → w'.heap[b]? = w.heap[b]?)
include hS hs
theorem Cells.keep : ∀ {c : Sq} {cs : List Value}, Cells S w c cs → Cells S' w' c cs
  | .ints .., _, h => h
  | .bools .., _, h => h
  | .rows .., _, h => All2.mono (fun _ _ h => Seg.keep h hS hs) h
  | .rows2 .., _, h => All2.mono (fun _ _ ⟨cs, h, h'⟩ => ⟨cs, All2.mono (fun _ _ h => Seg.keep h hS hs) h, Seg.keep h' hS hs⟩) h
theorem Ro.keep {Q Q' : Nat → Prop} {c : Sq} {x : Value} (h : Ro S Q w c x) (hq : ∀ b, Q b → Q' b) (hqs : ∀ b, Q b → w'.heap[b]? = w.heap[b]?) : Ro S' Q' w' c x :=
  let ⟨cs, h, h'⟩ := h
  ⟨cs, h.keep hS hs, h'.keep hq hqs⟩
end
theorem ownsRow_keep {w w' : World} {e : TypeId} {v : Value} {n : Nat} {xs : List Value} (h : w.ownsRow 0 e 1 v n xs) (hb : ∀ b, v.ownBlock = some b → w'.heap[b]? = w.heap[b]?) : w'.ownsRow 0 e 1 v n xs := by
  refine ⟨h.1, h.2.imp id ?_⟩
  rintro ⟨g, cap, cur, rfl, h0, hg, r⟩
  exact ⟨g, cap, cur, rfl, h0, (hb g rfl).trans hg, r⟩
theorem Own.keep {S S' : Nat → Prop} {w w' : World} (hS : ∀ b, S b → S' b) (hs : ∀ b, S b → w'.heap[b]? = w.heap[b]?) {e : TypeId} {c : Sq} {x : Value} (h : Own S w e c x)
    (hb : ∀ b, x.ownBlock = some b → w'.heap[b]? = w.heap[b]?) : Own S' w' e c x :=
  let ⟨cs, h, h'⟩ := h
  ⟨cs, h.keep hS hs, ownsRow_keep h' hb⟩

/-- The blocks, beside the known ones, on which a value's meaning hangs. -/
def dep (w : World) (ρ : Nat → Value) : AV → Value → List Nat
  | .af s _, _ => match ρ s with | .pointer (some a) => [a.block] | _ => []
  | .ef s _ _, _ => match ρ s with | .pointer (some a) => [a.block] | _ => []
  | v, x => owned w v x

theorem ownFs_mem {l : List AV} : ∀ {cs : List Value} {i : Nat} {v : AV} {x : Value} {b : Nat}, l[i]? = some v → cs[i]? = some x → b ∈ ownF v x → b ∈ ownFs l cs := by
  induction l with
  | nil => intro cs i v x b h; simp at h
  | cons u l ih =>
    intro cs i v x b hv hx hb
    cases cs with
    | nil => simp at hx
    | cons y cs =>
      cases i with
      | zero => simp at hv hx; subst hv; subst hx; simp [ownFs, hb]
      | succ i => simp at hv hx; simp only [ownFs, List.mem_append]; exact .inr (ih hv hx hb)
theorem mem_ownFs {l : List AV} : ∀ {cs : List Value} {b : Nat}, b ∈ ownFs l cs → ∃ (i : Nat) (v : AV) (x : Value), l[i]? = some v ∧ cs[i]? = some x ∧ b ∈ ownF v x := by
  induction l with
  | nil => intro cs b h; simp [ownFs] at h
  | cons u l ih =>
    intro cs b h
    cases cs with
    | nil => simp [ownFs] at h
    | cons y cs =>
      simp only [ownFs, List.mem_append] at h
      rcases h with h | h
      · exact ⟨0, u, y, rfl, rfl, h⟩
      · obtain ⟨i, v, x, h1, h2, h3⟩ := ih h
        exact ⟨i + 1, v, x, by simpa using h1, by simpa using h2, h3⟩
theorem rowOf_eq {w : World} {b : Nat} {e : TypeId} {cs : List Value} {fz : Nat × Nat} (h : w.heap[b]? = some (.cells cs.toArray e fz)) : rowOf w b = cs := by simp [rowOf, h]

section
variable {S S' L : Nat → Prop} {w w' : World} {ρ ρ' : Nat → Value}
variable (hS : ∀ b, S b → S' b) (hs : ∀ b, S b ∨ L b → w'.heap[b]? = w.heap[b]?)
include hS hs
theorem RP.keep : ∀ {v : AV} {x : Value}, RP S L w v x → (∀ b, b ∈ ownF v x → w'.heap[b]? = w.heap[b]?) → RP S' L w' v x
  | .pv _, _, h, _ => h
  | .jk, _, _, _ => trivial
  | .nl .., _, h, _ => h
  | .sl _, _, h, _ => Ro.keep hS (fun b hb => hs b (.inl hb)) h hS (fun b hb => hs b (.inl hb))
  | .ls _, _, h, _ => Ro.keep hS (fun b hb => hs b (.inl hb)) h (fun b hb => hb.imp (hS b) id) hs
  | .ow _ _, x, h, hb => Own.keep hS (fun b hb => hs b (.inl hb)) h (fun b hx => hb b (by
      cases x <;> simp [Value.ownBlock] at hx
      rename_i a _ _
      cases a <;> simp_all [ownF]))
theorem RPs.keep {v : AV} {x : Value} (h : RPs S L w v x) : RPs S' L w' v x :=
  ⟨h.1, RP.keep hS hs h.2 (fun b hb => by have := h.1; cases v <;> simp [stat] at this <;> simp [ownF] at hb)⟩
theorem RAg.keep {l : List AV} {x : Value} (h : RAg S L w l x) : RAg S' L w' l x :=
  let ⟨cs, hx, h⟩ := h
  ⟨cs, hx, All2.mono (fun _ _ h => RPs.keep hS hs h) h⟩
theorem RAa.keep {c : Sq} {x : Value} (h : RAa S w c x) : RAa S' w' c x :=
  let ⟨cs, hx, h⟩ := h
  ⟨cs, hx, h.keep hS (fun b hb => hs b (.inl hb))⟩
theorem RT.keep : ∀ {v : AV} {x : Value}, RT S L w v x → RT S' L w' v x
  | .ag _, _, h => RAg.keep hS hs h
  | .aa _, _, h => RAa.keep hS hs h
  | .pv _, _, h | .jk, _, h | .nl .., _, h | .sl _, _, h | .ls _, _, h => RPs.keep hS hs h
  | .ow .., _, h | .tp _, _, h | .bx _, _, h | .ba _, _, h | .al _, _, h | .af .., _, h | .pt .., _, h | .ep .., _, h | .ef .., _, h | .rp _, _, h | .lb .., _, h | .la .., _, h | .fn .., _, h | .ss .., _, h | .ao _, _, h => RPs.keep hS hs h
theorem RLb.keep {l : List AV} {off : Nat} {x : Value} (h : RLb S L w l off x) : RLb S' L w' l off x :=
  let ⟨b, e, fz, cs, hx, hb, hh, h⟩ := h
  ⟨b, e, fz, cs, hx, hb.imp (hS b) id, (hs b hb).trans hh, All2.mono (fun _ _ h => RPs.keep hS hs h) h⟩
theorem RSs.keep {n : Nat} {l : List AV} {x : Value} (h : RSs S L w n l x) : RSs S' L w' n l x :=
  let ⟨b, e, fz, cs, hx, hb, hh, h⟩ := h
  ⟨b, e, fz, cs, hx, hb.imp (hS b) id, (hs b hb).trans hh, All2.mono (fun _ _ h => RPs.keep hS hs h) h⟩
theorem RLa.keep {c : Sq} {off : Nat} {x : Value} (h : RLa S L w c off x) : RLa S' L w' c off x :=
  let ⟨b, e, fz, cs, hx, hb, hh, h⟩ := h
  ⟨b, e, fz, cs, hx, hb.imp (hS b) id, (hs b hb).trans hh, h.keep hS (fun b hb => hs b (.inl hb))⟩
theorem RC.keep : ∀ {v : AV} {x : Value}, RC S L w ρ v x → (∀ t, t ∈ AV.ref.refs [v] → ρ' t = ρ t) → RC S' L w' ρ' v x
  | .pt s off, _, ⟨b, h, hx⟩, hr => ⟨b, (hr s (by simp [AV.ref.refs])).trans h, hx⟩
  | .lb .., _, h, _ => RLb.keep hS hs h
  | .la .., _, h, _ => RLa.keep hS hs h
  | .pv _, _, h, _ | .jk, _, h, _ | .nl .., _, h, _ | .sl _, _, h, _ | .ls _, _, h, _ => RPs.keep hS hs h
  | .ow .., _, h, _ | .tp _, _, h, _ | .bx _, _, h, _ | .ba _, _, h, _ | .al _, _, h, _ | .af .., _, h, _ | .ag _, _, h, _ | .aa _, _, h, _ | .ep .., _, h, _ | .ef .., _, h, _ | .rp _, _, h, _ | .fn .., _, h, _ | .ss .., _, h, _ | .ao _, _, h, _ => RPs.keep hS hs h
omit hS hs in
theorem refs_cons (v : AV) (l : List AV) : AV.ref.refs (v :: l) = AV.ref.refs [v] ++ AV.ref.refs l := by
  cases v <;> simp [AV.ref.refs]
theorem RCs.keep : ∀ {l : List AV} {cs : List Value}, All2 (RC S L w ρ) l cs → (∀ t, t ∈ AV.ref.refs l → ρ' t = ρ t) → All2 (RC S' L w' ρ') l cs
  | [], [], _, _ => trivial
  | v :: l, _ :: _, h, hr => ⟨RC.keep hS hs h.1 (fun t ht => hr t (by rw [refs_cons]; exact List.mem_append_left _ ht)),
      RCs.keep h.2 (fun t ht => hr t (by rw [refs_cons]; exact List.mem_append_right _ ht))⟩
theorem RD.keep : ∀ {v : AV} {x : Value}, RD S L w ρ v x → (∀ t, t ∈ AV.refsA [v] → ρ' t = ρ t) → RD S' L w' ρ' v x := by
  intro v x h hr
  cases v with
  | al s => exact Eq.trans h (hr s (by simp [AV.refsA])).symm
  | _ => exact RPs.keep hS hs h
omit hS hs in
theorem refsA_cons (v : AV) (l : List AV) : AV.refsA (v :: l) = AV.refsA [v] ++ AV.refsA l := by
  cases v <;> simp [AV.refsA]
theorem RDs.keep : ∀ {l : List AV} {cs : List Value}, All2 (RD S L w ρ) l cs → (∀ t, t ∈ AV.refsA l → ρ' t = ρ t) → All2 (RD S' L w' ρ') l cs
  | [], [], _, _ => trivial
  | v :: l, _ :: _, h, hr => ⟨RD.keep hS hs h.1 (fun t ht => hr t (by rw [refsA_cons]; exact List.mem_append_left _ ht)),
      RDs.keep h.2 (fun t ht => hr t (by rw [refsA_cons]; exact List.mem_append_right _ ht))⟩
/-- What a value says stays true where the known blocks and those that it hangs on hold what they held. -/
theorem RV.keep {v : AV} {x : Value} (h : RV S L w ρ v x) (hr : ∀ t, t ∈ v.ref → ρ' t = ρ t) (hd : ∀ b, b ∈ dep w ρ v x → w'.heap[b]? = w.heap[b]?) : RV S' L w' ρ' v x := by
  cases v with
  | ag l => exact RAg.keep hS hs h
  | aa l => exact RAa.keep hS hs h
  | ao l => exact let ⟨cs, hx, h⟩ := h; ⟨cs, hx, RDs.keep hS hs h hr⟩
  | tp l => exact let ⟨cs, hx, h⟩ := h; ⟨cs, hx, All2.mono (fun _ _ h => RT.keep hS hs h) h⟩
  | bx l =>
    obtain ⟨b, e, cs, rfl, hh, h⟩ := h
    have hb : ∀ k, k ∈ b :: ownFs l cs → w'.heap[k]? = w.heap[k]? := by
      intro k hk
      apply hd
      simp only [dep, owned, rowOf_eq hh]
      exact hk
    refine ⟨b, e, cs, rfl, (hb b (List.mem_cons_self ..)).trans hh, ?_⟩
    have : ∀ (l : List AV) (cs : List Value), All2 (RP S L w) l cs → (∀ k, k ∈ ownFs l cs → w'.heap[k]? = w.heap[k]?) → All2 (RP S' L w') l cs := by
      intro l
      induction l with
      | nil => intro cs h _; cases cs <;> simp_all [All2]
      | cons v l ih =>
        intro cs h hk
        cases cs with
        | nil => simp [All2] at h
        | cons x cs => exact ⟨RP.keep hS hs h.1 (fun b hb => hk b (List.mem_append_left _ hb)), ih cs h.2 (fun b hb => hk b (List.mem_append_right _ hb))⟩
    exact this l cs h (fun k hk => hb k (List.mem_cons_of_mem _ hk))
  | ba c =>
    obtain ⟨b, e, cs, rfl, hh, h⟩ := h
    exact ⟨b, e, cs, rfl, (hd b (by simp [dep, owned])).trans hh, h.keep hS (fun b hb => hs b (.inl hb))⟩
  | al s => exact Eq.trans h (hr s (by simp [AV.ref])).symm
  | af s f =>
    obtain ⟨b, e, cs, h1, h2, h3⟩ := h
    exact ⟨b, e, cs, (hr s (by simp [AV.ref])).trans h1, (hd b (by simp [dep, h1])).trans h2, h3⟩
  | pt s off => exact let ⟨b, h, hx⟩ := h; ⟨b, (hr s (by simp [AV.ref])).trans h, hx⟩
  | ep s i => exact let ⟨b, len, cap, h, hx⟩ := h; ⟨b, len, cap, (hr s (by simp [AV.ref])).trans h, hx⟩
  | ef s f i =>
    obtain ⟨b, e, b', len, cap, cs, h1, h2, h3⟩ := h
    exact ⟨b, e, b', len, cap, cs, (hr s (by simp [AV.ref])).trans h1, (hd b (by simp [dep, h1])).trans h2, h3⟩
  | rp v =>
    obtain ⟨b, off, c, hx, hb, hc, h⟩ := h
    exact ⟨b, off, c, hx, hb.imp (hS b) id, (cell_same (hs b hb)).trans hc, RPs.keep hS hs h⟩
  | lb l off => exact RLb.keep hS hs h
  | ss n l => exact RSs.keep hS hs h
  | la l off => exact RLa.keep hS hs h
  | fn f caps => exact let ⟨cs, hx, h⟩ := h; ⟨cs, hx, RCs.keep hS hs h (fun t ht => hr t (by simpa [AV.ref] using ht))⟩
  | pv v => exact h
  | jk => trivial
  | nl e c => exact h
  | sl c => exact RP.keep hS hs (v := .sl c) h (fun b hb => by simp [ownF] at hb)
  | ls c => exact RP.keep hS hs (v := .ls c) h (fun b hb => by simp [ownF] at hb)
  | ow e c =>
    refine RP.keep hS hs (v := .ow e c) h (fun b hb => hd b ?_)
    cases x <;> simp [ownF] at hb
    rename_i a _ _
    cases a <;> simp [dep, owned] at hb ⊢
    exact hb
end
end Go.Gx

/-
  Gx5: how the invariant goes on over one step.
  Conditions: none; the step's law.
-/
namespace Go.Gx
open Go

theorem Rg.has_ok {r : Rg} {d : Nat} (h : r.has d = true) : r.lo ≤ d ∧ d < r.hi := by
  simp only [Rg.has, Bool.and_eq_true, Nat.ble_eq, Nat.blt_eq] at h
  exact h
theorem rho_put {a : Act} {d t : Nat} {x : Value} (hd : d < a.tmps.size) : rho (a.put (some d) x) t = if t = d then x else rho a t := by
  simp only [rho, Act.put, Array.getD_eq_getD_getElem?, Array.getElem?_setIfInBounds]
  by_cases h : d = t
  · subst h; simp [hd]
  · simp [h, Ne.symm h]
theorem rho_put_ne {a : Act} {d t : Nat} {x : Value} (h : t ≠ d) : rho (a.put (some d) x) t = rho a t := by
  simp only [rho, Act.put, Array.getD_eq_getD_getElem?, Array.getElem?_setIfInBounds]
  simp [Ne.symm h]
@[simp] theorem size_put (a : Act) (d : Option Nat) (x : Value) : (a.put d x).tmps.size = a.tmps.size := by
  cases d <;> simp [Act.put]
@[simp] theorem defers_put (a : Act) (d : Option Nat) (x : Value) : (a.put d x).defers = a.defers := by
  cases d <;> simp [Act.put]

theorem Own.lt {S : Nat → Prop} {w : World} {e : TypeId} {c : Sq} {x : Value} (h : Own S w e c x) : ∀ b, x.ownBlock = some b → b < w.heap.size := by
  obtain ⟨cs, _, h⟩ := h
  exact fun b hb => (h.lt b hb).2
theorem ownF_lt {S L : Nat → Prop} {w : World} {v : AV} {x : Value} (h : RP S L w v x) : ∀ b, b ∈ ownF v x → b < w.heap.size := by
  intro b hb
  cases v with
  | ow e c =>
    cases x <;> simp [ownF] at hb
    rename_i a _ _
    cases a <;> simp at hb
    subst hb
    exact Own.lt h _ rfl
  | _ => simp [ownF] at hb
theorem heap_lt {w : World} {b : Nat} {o : Obj} (h : w.heap[b]? = some o) : b < w.heap.size := (Array.getElem?_eq_some_iff.1 h).1
theorem owned_lt {S L : Nat → Prop} {w : World} {ρ : Nat → Value} {v : AV} {x : Value} (h : RV S L w ρ v x) : ∀ b, b ∈ owned w v x → b < w.heap.size := by
  intro b hb
  cases v with
  | ow e c =>
    cases x <;> simp [owned] at hb
    rename_i a _ _
    cases a <;> simp at hb
    subst hb
    exact Own.lt h _ rfl
  | bx l =>
    obtain ⟨k, e, cs, rfl, hh, h⟩ := h
    simp only [owned, rowOf_eq hh, List.mem_cons] at hb
    rcases hb with rfl | hb
    · exact heap_lt hh
    · obtain ⟨i, v, x, hv, hx, hb⟩ := mem_ownFs hb
      obtain ⟨x', hx', hr⟩ := h.get hv
      rw [hx] at hx'
      cases hx'
      exact ownF_lt hr b hb
  | ba c =>
    obtain ⟨k, e, cs, rfl, hh, h⟩ := h
    simp only [owned, List.mem_singleton] at hb
    subst hb
    exact heap_lt hh
  | _ => simp [owned] at hb
theorem Own.cells {S : Nat → Prop} {w : World} {e : TypeId} {c : Sq} {x : Value} (h : Own S w e c x) : ∀ b, x.ownBlock = some b → ∃ cs e fz, w.heap[b]? = some (.cells cs e fz) := by
  obtain ⟨cs, _, _, h⟩ := h
  intro b hb
  rcases h with h | ⟨g, cap, cur, rfl, h0, hg, r⟩
  · obtain ⟨h, _⟩ := h
    rw [h] at hb
    simp [Value.ownBlock] at hb
  · simp [Value.ownBlock] at hb
    subst hb
    exact ⟨_, _, _, hg⟩
theorem ownF_cells {S L : Nat → Prop} {w : World} {v : AV} {x : Value} (h : RP S L w v x) : ∀ b, b ∈ ownF v x → ∃ cs e fz, w.heap[b]? = some (.cells cs e fz) := by
  intro b hb
  cases v with
  | ow e c =>
    cases x <;> simp [ownF] at hb
    rename_i a _ _
    cases a <;> simp at hb
    subst hb
    exact Own.cells h _ rfl
  | _ => simp [ownF] at hb
theorem owned_cells {S L : Nat → Prop} {w : World} {ρ : Nat → Value} {v : AV} {x : Value} (h : RV S L w ρ v x) : ∀ b, b ∈ owned w v x → ∃ cs e fz, w.heap[b]? = some (.cells cs e fz) := by
  intro b hb
  cases v with
  | ow e c =>
    cases x <;> simp [owned] at hb
    rename_i a _ _
    cases a <;> simp at hb
    subst hb
    exact Own.cells h _ rfl
  | bx l =>
    obtain ⟨k, e, cs, rfl, hh, h⟩ := h
    simp only [owned, rowOf_eq hh, List.mem_cons] at hb
    rcases hb with rfl | hb
    · exact ⟨_, _, _, hh⟩
    · obtain ⟨i, v, x, hv, hx, hb⟩ := mem_ownFs hb
      obtain ⟨x', hx', hr⟩ := h.get hv
      rw [hx] at hx'
      cases hx'
      exact ownF_cells hr b hb
  | ba c =>
    obtain ⟨k, e, cs, rfl, hh, h⟩ := h
    simp only [owned, List.mem_singleton] at hb
    subst hb
    exact ⟨_, _, _, hh⟩
  | _ => simp [owned] at hb
theorem owned_keep {w w' : World} {v : AV} {x : Value} (h : ∀ b, b ∈ owned w v x → w'.heap[b]? = w.heap[b]?) : owned w' v x = owned w v x := by
  cases v with
  | bx l =>
    cases x with
    | pointer a =>
      cases a with
      | none => rfl
      | some a =>
        have := h a.block (by simp [owned])
        simp [owned, rowOf, this]
    | _ => rfl
  | ow e c =>
    cases x with
    | slice a _ _ => cases a <;> rfl
    | _ => rfl
  | ba c =>
    cases x with
    | pointer a => cases a <;> rfl
    | _ => rfl
  | _ => rfl
theorem dep_owned {w : World} {ρ : Nat → Value} {v : AV} {x : Value} : ∀ b, b ∈ owned w v x → b ∈ dep w ρ v x := by
  intro b hb
  cases v <;> first | exact hb | (simp [owned] at hb)

/-- What the slots of G own. -/
def mine (A : Fr) (a : Act) (w : World) (G : Nat → Prop) (b : Nat) : Prop := ∃ s v, G s ∧ look s A = some v ∧ b ∈ owned w v (rho a s)

section
variable {C : Ctx} {n : Rg} {S S' : Nat → Prop} {A A' : Fr} {a a' : Act} {w w' : World}
theorem Inv.mine_apart (h : Inv C n S A a w) {G : Nat → Prop} {b : Nat} (hb : mine A a w G b) : ¬ S b ∧ ¬ C.L b ∧ (C.O b ∨ C.w₀.heap.size ≤ b) := by
  obtain ⟨s, v, _, hl, hb⟩ := hb
  exact h.apart s v hl b hb
theorem Inv.mine_lt (h : Inv C n S A a w) {G : Nat → Prop} {b : Nat} (hb : mine A a w G b) : b < w.heap.size := by
  obtain ⟨s, v, _, hl, hb⟩ := hb
  exact owned_lt (h.rel s v hl) b hb
theorem Inv.mine_not (h : Inv C n S A a w) {G : Nat → Prop} {b s : Nat} {v : AV} (hb : mine A a w G b) (hs : ¬ G s) (hl : look s A = some v) : b ∉ owned w v (rho a s) := by
  obtain ⟨t, u, hg, ht, hb⟩ := hb
  exact h.dj t u s v ht hl (fun e => hs (e ▸ hg)) b hb

theorem Inv.step (h : Inv C n S A a w) (M G : Nat → Prop) (hm : Mod M w w') (hM : ∀ b, M b → mine A a w G b)
    (hsz : a'.tmps.size = n.hi) (hfx : ∀ i, i < n.lo → rho a' i = rho a i) (hdf : a'.defers = a.defers) (hk : (A'.map (·.1)).Nodup) (hbx : Bxs A')
    (hS : ∀ b, S b → S' b) (hS' : ∀ b, S' b → S b ∨ ((mine A a w G b ∨ w.heap.size ≤ b) ∧ b < w'.heap.size))
    (hold : ∀ s v, ¬ G s → look s A' = some v → look s A = some v ∧ rho a' s = rho a s ∧ (∀ t, t ∈ v.ref → rho a' t = rho a t) ∧ (∀ t, t ∈ v.fref → G t → ∀ b, b ∈ dep w (rho a) v (rho a s) → ¬ M b))
    (hnew : ∀ s v, G s → look s A' = some v → RV S' C.L w' (rho a') v (rho a' s) ∧ (owned w' v (rho a' s)).Nodup ∧
      ∀ b, b ∈ owned w' v (rho a' s) → ¬ S' b ∧ (mine A a w G b ∨ w.heap.size ≤ b))
    (hnn : ∀ s v t u, G s → G t → s ≠ t → look s A' = some v → look t A' = some u → ∀ b, b ∈ owned w' v (rho a' s) → b ∉ owned w' u (rho a' t)) :
    Inv C n S' A' a' w' := by
  have hMS : ∀ b, S b ∨ C.L b → ¬ M b := fun b hb hm => by
    have := h.mine_apart (hM b hm)
    rcases hb with hb | hb
    · exact this.1 hb
    · exact this.2.1 hb
  have hs : ∀ b, S b ∨ C.L b → w'.heap[b]? = w.heap[b]? := fun b hb => hm.block b (h.lt b hb) (hMS b hb)
  have hblk : ∀ s v, ¬ G s → look s A' = some v → ∀ b, b ∈ dep w (rho a) v (rho a s) → w'.heap[b]? = w.heap[b]? := by
    intro s v hg hl b hb
    have ho := hold s v hg hl
    have hr := h.rel s v ho.1
    have hnM : ¬ M b := by
      by_cases hf : ∃ t, t ∈ v.fref
      · obtain ⟨t, ht⟩ := hf
        by_cases hgt : G t
        · exact ho.2.2.2 t ht hgt b hb
        · obtain ⟨l, hlt⟩ := h.bxs s v t ho.1 ht
          obtain ⟨k, e, cs, h1, h2, _⟩ := h.rel t _ hlt
          have h1' : rho a t = .pointer (some ⟨k, 0, none⟩) := h1
          have hbk : b = k := by
            cases v <;> simp [AV.fref] at ht <;> subst ht <;> simpa [dep, h1'] using hb
          intro hM'
          refine h.mine_not (hM b hM') hgt hlt ?_
          rw [h1', hbk]
          simp [owned]
      · intro hM'
        refine h.mine_not (hM b hM') hg ho.1 ?_
        cases v with
        | af t f => exact (hf ⟨t, by simp [AV.fref]⟩).elim
        | ef t f i => exact (hf ⟨t, by simp [AV.fref]⟩).elim
        | _ => exact hb
    refine hm.block b ?_ hnM
    cases v with
    | af t f =>
      obtain ⟨k, e, cs, h1, h2, h3⟩ := hr
      have h1' : rho a t = .pointer (some ⟨k, 0, none⟩) := h1
      simp only [dep, h1', List.mem_singleton] at hb
      subst hb
      exact heap_lt h2
    | ef t f i =>
      obtain ⟨k, e, b', len, cap, cs, h1, h2, h3⟩ := hr
      have h1' : rho a t = .pointer (some ⟨k, 0, none⟩) := h1
      simp only [dep, h1', List.mem_singleton] at hb
      subst hb
      exact heap_lt h2
    | _ => exact owned_lt hr b hb
  have hown : ∀ s v, ¬ G s → look s A' = some v → owned w' v (rho a' s) = owned w v (rho a s) := by
    intro s v hg hl
    have ho := hold s v hg hl
    rw [ho.2.1]
    exact owned_keep fun b hb => hblk s v hg hl b (dep_owned b hb)
  have hnew' : ∀ s v, G s → look s A' = some v → ∀ b, b ∈ owned w' v (rho a' s) → ¬ C.L b ∧ (C.O b ∨ C.w₀.heap.size ≤ b) := by
    intro s v hg hl b hb
    rcases ((hnew s v hg hl).2.2 b hb).2 with hb | hb
    · exact (h.mine_apart hb).2
    · exact ⟨fun hL => by have := h.lt b (.inr hL); omega, .inr (Nat.le_trans h.ext.size hb)⟩
  have hon : ∀ s v t u, ¬ G s → G t → look s A' = some v → look t A' = some u → ∀ b, b ∈ owned w v (rho a s) → b ∉ owned w' u (rho a' t) := by
    intro s v t u hgs hgt hls hlt b hb hb'
    have ho := hold s v hgs hls
    rcases ((hnew t u hgt hlt).2.2 b hb').2 with hm' | hf
    · exact h.mine_not hm' hgs ho.1 hb
    · have := owned_lt (h.rel s v ho.1) b hb
      omega
  have hmk : Marks C S' a'.defers w' := by
    obtain ⟨Ds, h1, h2, h3⟩ := h.defers
    refine ⟨Ds, by rw [hdf, h1], h2, fun D hD => ?_⟩
    obtain ⟨g1, g2, g3⟩ := h3 D hD
    have hlt := heap_lt g1
    have hnm : ¬ mine A a w G D := by
      rintro ⟨s, v, _, hl, hb⟩
      obtain ⟨cs, e, fz, hc⟩ := owned_cells (h.rel s v hl) D hb
      rw [g1] at hc
      cases hc
    refine ⟨(hm.block D hlt fun hM' => hnm (hM D hM')).trans g1, g2, fun hS'' => ?_⟩
    rcases hS' D hS'' with h' | ⟨h' | h', _⟩
    · exact g3 h'
    · exact hnm h'
    · omega
  refine ⟨hsz, fun i hi => (hfx i hi).trans (h.fix i hi), hmk, hk, hbx, ?_, ?_, ?_, ?_, ?_, fun b hb => hS b (h.s₀ b hb), ?_, ?_, h.l₀⟩
  · intro s v hl
    by_cases hg : G s
    · exact (hnew s v hg hl).1
    · have ho := hold s v hg hl
      have := RV.keep (ρ' := rho a') hS hs (h.rel s v ho.1) ho.2.2.1 (hblk s v hg hl)
      show RV S' C.L w' (rho a') v (rho a' s)
      rw [ho.2.1]
      exact this
  · intro s v hl
    by_cases hg : G s
    · exact (hnew s v hg hl).2.1
    · show (owned w' v (rho a' s)).Nodup
      rw [hown s v hg hl]
      exact h.nd s v (hold s v hg hl).1
  · intro s v t u hls hlt hne b hb
    change b ∈ owned w' v (rho a' s) at hb
    change b ∉ owned w' u (rho a' t)
    by_cases hgs : G s
    · by_cases hgt : G t
      · exact hnn s v t u hgs hgt hne hls hlt b hb
      · rw [hown t u hgt hlt]
        exact fun hb' => hon t u s v hgt hgs hlt hls b hb' hb
    · rw [hown s v hgs hls] at hb
      by_cases hgt : G t
      · exact hon s v t u hgs hgt hls hlt b hb
      · rw [hown t u hgt hlt]
        exact h.dj s v t u (hold s v hgs hls).1 (hold t u hgt hlt).1 hne b hb
  · intro s v hl b hb
    change b ∈ owned w' v (rho a' s) at hb
    by_cases hg : G s
    · exact ⟨((hnew s v hg hl).2.2 b hb).1, hnew' s v hg hl b hb⟩
    · rw [hown s v hg hl] at hb
      have ho := hold s v hg hl
      have ha := h.apart s v ho.1 b hb
      refine ⟨fun hs' => ?_, ha.2⟩
      rcases hS' b hs' with h1 | ⟨h1 | h1, _⟩
      · exact ha.1 h1
      · exact h.mine_not h1 hg ho.1 hb
      · have := owned_lt (h.rel s v ho.1) b hb
        omega
  · intro b hb
    rcases hb with hb | hb
    · rcases hS' b hb with h1 | h1
      · exact Nat.lt_of_lt_of_le (h.lt b (.inl h1)) hm.size
      · exact h1.2
    · exact Nat.lt_of_lt_of_le (h.lt b (.inr hb)) hm.size
  · intro b hb
    rcases hS' b hb with h1 | ⟨h1 | h1, _⟩
    · exact h.sg b h1
    · exact .inr (h.mine_apart h1).2.2
    · exact .inr (.inr (Nat.le_trans h.ext.size h1))
  · refine Mod.trans h.ext hm fun k hk hMk => ?_
    rcases (h.mine_apart (hM k hMk)).2.2 with h1 | h1
    · exact h1
    · omega

/-- Nothing turns but one slot, which gets a value that owns nothing. -/
theorem Inv.put (h : Inv C n S A a w) {d : Nat} {v : AV} {x : Value} (hd : n.has d = true) (hv : RV S C.L w (rho a) v x) (hr : d ∉ v.ref) (ho : owned w v x = []) (hf : ∀ t, t ∈ v.fref → ∃ l, look t A = some (.bx l)) :
    Inv C n S (setd d v A) (a.put (some d) x) w := by
  have hd' : d < a.tmps.size := by rw [h.size]; exact (Rg.has_ok hd).2
  refine h.step (fun _ => False) (fun s => s = d) (Mod.refl _ _) (fun _ hb => hb.elim) (by simp [h.size]) (fun i hi => rho_put_ne (by have := (Rg.has_ok hd).1; omega)) (by simp) (nodup_setd h.keys _ _) (h.bxs.setd h.keys hr hf)
    (fun _ hb => hb) (fun _ hb => .inl hb) ?_ ?_ ?_
  · intro s u hg hl
    rcases look_setd h.keys hl with ⟨e, _⟩ | ⟨h1, h2, h3⟩
    · exact (hg e).elim
    · exact ⟨h2, rho_put_ne h1, fun t ht => rho_put_ne (fun e => h3 (e ▸ ht)), fun _ _ _ _ _ hb => hb⟩
  · intro s u hg hl
    subst hg
    rcases look_setd h.keys hl with ⟨_, e⟩ | ⟨h1, _⟩
    · subst e
      have hx : rho (a.put (some s) x) s = x := by rw [rho_put hd']; simp
      rw [hx]
      refine ⟨RV.keep (ρ' := rho (a.put (some s) x)) (fun _ hb => hb) (fun _ _ => rfl) hv (fun t ht => rho_put_ne (fun e => hr (e ▸ ht))) (fun _ _ => rfl), ?_, ?_⟩
      · rw [ho]; exact List.nodup_nil
      · intro b hb; rw [ho] at hb; simp at hb
    · exact (h1 rfl).elim
  · intro s u t v hs ht hne
    exact (hne (hs.trans ht.symm)).elim
end
end Go.Gx

/-
  Gx6: what is known of the program's types; contracts; reading operations.
  Conditions: none; laws for the machine's soundness.
-/
namespace Go.Gx
open Go

def eqI (k : IntKind) : List Int → List Value → Bool
  | [], [] => true
  | n :: l, .int k' m :: r => k == k' && n == m && eqI k l r
  | _, _ => false
def eqB : List Bool → List Value → Bool
  | [], [] => true
  | n :: l, .bool m :: r => n == m && eqB l r
  | _, _ => false
def eqSq : Sq → List Value → Bool
  | .ints k l, cs => eqI k l cs
  | .bools l, cs => eqB l cs
  | _, _ => false
def eqZ : List AV → List Value → Bool
  | [], [] => true
  | .pv (.int k n) :: l, .int k' m :: r => k == k' && n == m && eqZ l r
  | .pv (.bool n) :: l, .bool m :: r => n == m && eqZ l r
  | .nl _ c :: l, .slice none 0 0 :: r => c.len == 0 && eqZ l r
  | _, _ => false
def elemZero : Sq → Value → Bool
  | .ints k l, .int k' n => l.isEmpty && k == k' && n == 0
  | .bools l, .bool b => l.isEmpty && !b
  | .rows l, .slice none 0 0 => l.isEmpty
  | .rows2 l, .slice none 0 0 => l.isEmpty
  | _, _ => false
def fieldsOK (P : Program) : List Field → List (Nat × TypeId × Nat) → Bool
  | [], [] => true
  | f :: r, (o, t, s) :: r' => f.offset == o && f.type == t && P.cellsOf t == s && 0 < s && fieldsOK P r r'
  | _, _ => false
def aggEq (f : List Value → Bool) : Option Value → Bool
  | some (.agg cs) => f cs.toList
  | _ => false
def tiOK (P : Program) (t : TypeId) (ti : TI) : Bool :=
  match P.underlying t, P.info? t with
  | some d, some i =>
    match ti with
    | .int k => (match d with | .int k' => k == k' | _ => false) && i.size == 1 && (match i.zero with | some (.int k' n) => k == k' && n == 0 | _ => false)
    | .bool => (match d with | .bool => true | _ => false) && i.size == 1 && (match i.zero with | some (.bool b) => !b | _ => false)
    | .slice e c => (match d with | .slice e' => e == e' | _ => false) && i.size == 1 && (match i.zero with | some (.slice none 0 0) => true | _ => false) &&
      (match P.info? e with | some j => j.size == 1 && decide (0 < j.bytes) && decide (j.bytes ≤ 64) && (match j.zero with | some z => elemZero c z | none => false) | none => false)
    | .arr n e es z => (match d with | .array n' e' => n == n' && e == e' | _ => false) && P.cellsOf e == es && decide (0 < es) && i.size == n * es && aggEq (eqSq z) i.zero
    | .strct fs n z => (match d with | .struct fs' => fieldsOK P fs'.toList fs | _ => false) && i.size == n && aggEq (eqZ z) i.zero && z.length == n
    | .flat fs n z => (match d with | .struct fs' => fieldsOK P fs'.toList fs | _ => false) && i.size == n && aggEq (eqSq z) i.zero
    | .sls e m => (match d with | .slice e' => e == e' | _ => false) && i.size == 1 && decide (0 < m) && (match P.info? e with | some j => j.size == m && j.zero.isSome | none => false)
    | .ptr => (match d with | .pointer _ => true | _ => false) && i.size == 1
    | .func => (match d with | .func .. => true | _ => false) && i.size == 1
  | _, _ => false
def teOK (P : Program) (te : TE) : Bool := te.all fun x => tiOK P x.1 x.2
theorem te_fact {P : Program} {te : TE} (h : teOK P te = true) {T : TypeId} {ti : TI} (hl : look T te = some ti) : tiOK P T ti = true :=
  List.all_eq_true.1 h _ (look_mem hl)

/-! ### Contracts -/
/-- The arguments as the callee's frame has them: parameter i in slot i. -/
def frameOf : List AV → Nat → Fr
  | [], _ => []
  | v :: r, i => (i, v) :: frameOf r (i + 1)
/-- A parameter's value at the call: no alias among them. -/
def argOK : AV → Bool
  | .pv _ | .sl _ | .ls _ | .nl .. | .ag _ | .aa _ | .tp _ | .ow .. | .bx _ | .ba _ | .lb .. | .la .. => true
  | .fn _ caps => AV.ref.refs caps == []
  | _ => false
def ioOf : List AV → List Value → List (AV × Value)
  | .ow e c :: r, x :: xs => (.ow e c, x) :: ioOf r xs
  | .bx l :: r, x :: xs => (.bx l, x) :: ioOf r xs
  | .ba c :: r, x :: xs => (.ba c, x) :: ioOf r xs
  | _ :: r, _ :: xs => ioOf r xs
  | _, _ => []
def ownAll (w : World) (l : List (AV × Value)) : List Nat := l.flatMap fun e => owned w e.1 e.2

/-- What is asked of a call's arguments. -/
structure ArgsOK (S L : Nat → Prop) (vs : List AV) (xs : List Value) (w : World) : Prop where
  ok : ∀ v, v ∈ vs → argOK v = true
  rel : All2 (RV S L w (fun _ => undef)) vs xs
  nd : (ownAll w (ioOf vs xs)).Nodup
  apart : ∀ b, b ∈ ownAll w (ioOf vs xs) → ¬ S b ∧ ¬ L b
  lt : ∀ b, S b ∨ L b → b < w.heap.size
/-- What a call gives. -/
structure Gives (S L : Nat → Prop) (vs : List AV) (xs : List Value) (w w' : World) (res : AV) (outs : List AV) (x : Value) (S' : Nat → Prop) : Prop where
  clean : res.clean = true
  mod : Mod (fun b => b ∈ ownAll w (ioOf vs xs)) w w'
  s₀ : ∀ b, S b → S' b
  sg : ∀ b, S' b → S b ∨ b ∈ ownAll w (ioOf vs xs) ∨ w.heap.size ≤ b
  lt : ∀ b, S' b → b < w'.heap.size
  rres : RV S' (fun _ => False) w' (fun _ => undef) res x
  routs : All2 (fun v x => RV S' (fun _ => False) w' (fun _ => undef) v x) outs ((ioOf vs xs).map (·.2))
  nd : (owned w' res x ++ ownAll w' (outs.zip ((ioOf vs xs).map (·.2)))).Nodup
  apart : ∀ b, b ∈ owned w' res x ++ ownAll w' (outs.zip ((ioOf vs xs).map (·.2))) → ¬ S' b ∧ (b ∈ ownAll w (ioOf vs xs) ∨ w.heap.size ≤ b)
/-- Function f keeps a contract. -/
def ASound (P : Program) (G : World → (Nat → Prop) → Prop) (f : FuncId) (sp : Spec) : Prop :=
  ∀ (S L : Nat → Prop) (vs : List AV) (xs : List Value) (w : World) (K : AV → List AV → Prop), G w S → ArgsOK S L vs xs w → sp.sem vs K →
    Calls P f xs.toArray w fun e w' => ∃ res outs x S', e = .returned x ∧ K res outs ∧ Gives S L vs xs w w' res outs x S'

/-- The globals whose content is known. -/
def Glob (gl : List (Nat × Sq)) (w : World) (S : Nat → Prop) : Prop :=
  ∀ g c, look g gl = some c → S g ∧ ∃ e fz, ∃ cs : List Value, w.heap[g]? = some (.cells cs.toArray e fz) ∧ Cells (fun _ => False) w c cs

structure EnvOK (P : Program) (E : Env) (C : Ctx) : Prop where
  te : teOK P E.te = true
  gl : Glob E.gl C.w₀ C.S₀
  dis : ∀ b, C.S₀ b → ¬ C.O b ∧ b < C.w₀.heap.size
  keep : E.keep.all (fun e => nodupB e.2) = true
  orc : ∀ f sp, look f E.orc = some sp → ASound P (Glob E.gl) f sp ∧ P.funcs[f]?.any (fun fn => fn.body.isSome && fn.name != "runtime.NumGoroutine") = true

/-- Whatever good follows from K, follows. -/
def Nx (C : Ctx) (n : Rg) (S : Nat → Prop) (K : Fr → Prop) (next : Act → World → Prop) : Prop :=
  ∀ A a w S', Inv C n S' A a w → (∀ b, S b → S' b) → K A → next a w

section
variable {C : Ctx} {E : Env} {S : Nat → Prop} {A : Fr} {a : Act} {w : World} {K : Fr → Prop} {next : Act → World → Prop}
theorem Nx.mono {n : Rg} {S₁ : Nat → Prop} (h : Nx C n S K next) (hs : ∀ b, S b → S₁ b) : Nx C n S₁ K next :=
  fun A a w S' hi hs' hk => h A a w S' hi (fun b hb => hs' b (hs b hb)) hk
theorem fin_ok {n : Rg} {dst : Option Nat} {v : AV} {x : Value} (h : Inv C n S A a w) (hK : fin n dst A v K) (hv : RV S C.L w (rho a) v x) (ho : owned w v x = []) (hn : Nx C n S K next) :
    next (a.put dst x) w := by
  cases dst with
  | none => exact hn _ _ _ S h (fun _ hb => hb) hK
  | some d =>
    simp only [fin] at hK
    split at hK
    · rename_i hd
      split at hK
      · exact hK.elim
      · rename_i hr
        split at hK
        · rename_i hf
          refine hn _ _ _ S (h.put hd hv (by simpa using hr) ho ?_) (fun _ hb => hb) hK
          intro t ht
          have := List.all_eq_true.1 hf t ht
          unfold isBx at this
          split at this
          · exact ⟨_, by assumption⟩
          · simp at this
        · exact hK.elim
    · exact hK.elim
theorem owned_non {v : AV} (hv : v.owner = false) (w : World) (x : Value) : owned w v x = [] := by
  cases v <;> first | rfl | (simp [AV.owner] at hv)

/-- The operation's value, whatever the world. -/
def PWP (P : Program) (o : Oper) (a : Act) (w : World) (next : Act → World → Prop) : Prop := ∃ v, (∀ w', (execOp a.eval o).run P w' = .ok (.value v) w') ∧ next (a.put o.dst v) w
/-- Whatever lay in the first world lies in the second as well. -/
def Same (w w' : World) : Prop := ∀ b, b < w.heap.size → w'.heap[b]? = w.heap[b]?
theorem Same.refl (w : World) : Same w w := fun _ _ => rfl
/-- A piece of a program that only reads: it gives x in each world that holds what this one holds. -/
def Reads {α : Type} (P : Program) (w : World) (p : Sem α) (x : α) : Prop := ∀ w', Same w w' → p.run P w' = .ok x w'
theorem cell_keep {w w' : World} {ad : Addr} {v : Value} (hs : Same w w') (h : w.cell? ad = some v) : w'.cell? ad = some v := by
  unfold World.cell? at h ⊢
  cases hh : w.heap[ad.block]? with
  | none => rw [hh] at h; cases h
  | some o =>
    rw [hs _ (Array.getElem?_eq_some_iff.1 hh).1, hh]
    rw [hh] at h
    exact h
/-- The operation's value in this world, which stays. -/
def RWP (P : Program) (o : Oper) (a : Act) (w : World) (next : Act → World → Prop) : Prop := ∃ v, Reads P w (execOp a.eval o) (.value v) ∧ next (a.put o.dst v) w
theorem pwp_value {P : Program} {o : Oper} {x : Value} (hr : ∀ w', (execOp a.eval o).run P w' = .ok (.value x) w') (h : next (a.put o.dst x) w) : PWP P o a w next := ⟨x, hr, h⟩
theorem rwp_value {P : Program} {o : Oper} {x : Value} (hr : Reads P w (execOp a.eval o) (.value x)) (h : next (a.put o.dst x) w) : RWP P o a w next := ⟨x, hr, h⟩
theorem PWP.wp {P : Program} {o : Oper} {Q : Exit → Act → World → Prop} (h : PWP P o a w next) : o.wp P a w next Q := by
  obtain ⟨v, hr, hn⟩ := h
  unfold Oper.wp
  rw [hr w]
  exact hn
theorem RWP.wp {P : Program} {o : Oper} {Q : Exit → Act → World → Prop} (h : RWP P o a w next) : o.wp P a w next Q := by
  obtain ⟨v, hr, hn⟩ := h
  unfold Oper.wp
  rw [hr w (Same.refl w)]
  exact hn
theorem wp_value {P : Program} {o : Oper} {Q : Exit → Act → World → Prop} {x : Value} {w' : World} (hr : (execOp a.eval o).run P w = .ok (.value x) w') (h : next (a.put o.dst x) w') :
    o.wp P a w next Q := by
  unfold Oper.wp
  rw [hr]
  exact h
theorem wp_unit {P : Program} {o : Oper} {Q : Exit → Act → World → Prop} {w' : World} (hr : (execOp a.eval o).run P w = .ok .skip w') (h : next (a.put o.dst undef) w') :
    o.wp P a w next Q := by
  unfold Oper.wp
  rw [hr]
  exact h
theorem eval_opd {x : Operand} {v : AV} (h : Inv C E.n S A a w) (ho : opd A x = some v) : RV S C.L w (rho a) v (a.eval x) := by
  cases x with
  | tmp t => exact h.rel t v ho
  | const c =>
    simp only [opd] at ho
    split at ho
    · rename_i hc; simp at ho; subst ho; exact ⟨rfl, hc⟩
    · simp at ho
  | global g => simp [opd] at ho
  | func f => simp [opd] at ho; subst ho; exact ⟨[], rfl, trivial⟩
theorem eval_pv {x : Operand} {v : Value} (h : Inv C E.n S A a w) (ho : opd A x = some (.pv v)) : a.eval x = v := (eval_opd h ho).1
end
end Go.Gx

/-
  Gx7: the reading operations keep the invariant.
  Conditions: none; laws for the machine's soundness.
-/
namespace Go.Gx
open Go

section
variable {P : Program} {C : Ctx} {E : Env} {S : Nat → Prop} {A : Fr} {a : Act} {w : World} {K : Fr → Prop} {next : Act → World → Prop} {Q : Exit → Act → World → Prop} {o : Oper}

/-- An owner goes over to another slot. -/
theorem Inv.give (h : Inv C E.n S A a w) {t d : Nat} {v : AV} (hd : E.n.has d = true) (hl : look t A = some v) (hv : v.owner = true) :
    Inv C E.n S (setd d v (dropR t A)) (a.put (some d) (rho a t)) w := by
  have hd' : d < a.tmps.size := by rw [h.size]; exact (Rg.has_ok hd).2
  have hk1 : ((dropR t A).map (·.1)).Nodup := nodup_filter h.keys
  have hrf : v.ref = [] := by cases v <;> first | rfl | (simp [AV.owner] at hv)
  have hx : rho (a.put (some d) (rho a t)) d = rho a t := by rw [rho_put hd']; simp
  have hlk : ∀ s u, look s (setd d v (dropR t A)) = some u → (s = d ∧ u = v) ∨ (s ≠ d ∧ s ≠ t ∧ look s A = some u ∧ d ∉ u.ref ∧ t ∉ u.ref) := by
    intro s u hs
    rcases look_setd hk1 hs with h1 | ⟨h1, h2, h3⟩
    · exact .inl h1
    · obtain ⟨h4, h5, h6⟩ := look_dropR h.keys h2
      exact .inr ⟨h1, h5, h4, h3, h6⟩
  refine h.step (fun _ => False) (fun s => s = d ∨ s = t) (Mod.refl _ _) (fun _ hb => hb.elim) (by simp [h.size]) (fun i hi => rho_put_ne (by have := (Rg.has_ok hd).1; omega)) (by simp) (nodup_setd hk1 _ _) ((h.bxs.dropR h.keys t).setd hk1 (by rw [hrf]; simp) (fun k hk => by cases v <;> simp [AV.owner] at hv <;> simp [AV.fref] at hk))
    (fun _ hb => hb) (fun _ hb => .inl hb) ?_ ?_ ?_
  · intro s u hg hs
    rcases hlk s u hs with ⟨e, _⟩ | ⟨h1, h2, h3, h4, h5⟩
    · exact (hg (.inl e)).elim
    · exact ⟨h3, rho_put_ne h1, fun k hk => rho_put_ne (fun e => h4 (e ▸ hk)), fun _ _ _ _ _ hb => hb⟩
  · intro s u hg hs
    rcases hlk s u hs with ⟨e, e'⟩ | ⟨h1, h2, _⟩
    · subst e e'
      rw [hx]
      refine ⟨RV.keep (fun _ hb => hb) (fun _ _ => rfl) (h.rel t u hl) (fun k hk => by rw [hrf] at hk; simp at hk) (fun _ _ => rfl), h.nd t u hl, fun b hb => ⟨(h.apart t u hl b hb).1, .inl ⟨t, u, .inr rfl, hl, hb⟩⟩⟩
    · rcases hg with e | e
      · exact (h1 e).elim
      · exact (h2 e).elim
  · intro s u k v hs hk hne hls hlk'
    rcases hlk s u hls with ⟨e, _⟩ | ⟨h1, h2, _⟩
    · rcases hlk k v hlk' with ⟨e', _⟩ | ⟨h1, h2, _⟩
      · exact (hne (e.trans e'.symm)).elim
      · rcases hk with e | e
        · exact (h1 e).elim
        · exact (h2 e).elim
    · rcases hs with e | e
      · exact (h1 e).elim
      · exact (h2 e).elim
theorem give_ok {n : Rg} {dst : Option Nat} {v : AV} {t : Nat} (h : Inv C n S A a w) (hl : look t A = some v) (hv : v.owner = true) (hK : fin n dst (dropR t A) v K) (hn : Nx C n S K next) :
    next (a.put dst (rho a t)) w := by
  cases dst with
  | none =>
    refine hn _ _ _ S ?_ (fun _ hb => hb) hK
    have hk1 : ((dropR t A).map (·.1)).Nodup := nodup_filter h.keys
    refine h.step (fun _ => False) (fun s => s = t) (Mod.refl _ _) (fun _ hb => hb.elim) (by simp [Act.put, h.size]) (fun _ _ => rfl) (by simp [Act.put]) hk1 (h.bxs.dropR h.keys t)
      (fun _ hb => hb) (fun _ hb => .inl hb) ?_ ?_ ?_
    · intro s u hg hs
      obtain ⟨h1, h2, h3⟩ := look_dropR h.keys hs
      exact ⟨h1, rfl, fun _ _ => rfl, fun _ _ _ _ _ hb => hb⟩
    · intro s u hg hs
      exact ((look_dropR h.keys hs).2.1 hg).elim
    · intro s u k v hs hk hne
      exact (hne (hs.trans hk.symm)).elim
  | some d =>
    simp only [fin] at hK
    split at hK
    · rename_i hd
      split at hK
      · exact hK.elim
      · split at hK
        · exact hn _ _ _ S (Inv.give (E := { te := [], gl := [], orc := [], n := n, cut := [], keep := [] }) h hd hl hv) (fun _ hb => hb) hK
        · exact hK.elim
    · exact hK.elim

theorem elemZero_len {c : Sq} {z : Value} (h : elemZero c z = true) : c.len = 0 := by
  cases c with
  | ints k l => cases z <;> simp [elemZero, Sq.len] at h ⊢; exact h.1.1
  | bools l => cases z <;> simp [elemZero, Sq.len] at h ⊢; exact h.1
  | rows l => unfold elemZero at h; split at h <;> simp_all [Sq.len]
  | rows2 l => unfold elemZero at h; split at h <;> simp_all [Sq.len]
/-- What is known of a slice's type. -/
theorem te_slice (hte : teOK P E.te = true) {T e : TypeId} {c : Sq} (hl : look T E.te = some (.slice e c)) :
    P.underlying T = some (.slice e) ∧ (∃ i, P.info? T = some i ∧ i.size = 1 ∧ i.zero = some (.slice none 0 0)) ∧
    (∃ j z, P.info? e = some j ∧ j.size = 1 ∧ 0 < j.bytes ∧ j.bytes ≤ 64 ∧ j.zero = some z ∧ elemZero c z = true) := by
  have h := te_fact hte hl
  unfold tiOK at h
  split at h
  · rename_i d i hd hi
    simp only [Bool.and_eq_true] at h
    obtain ⟨⟨⟨h1, h2⟩, h3⟩, h4⟩ := h
    refine ⟨?_, ⟨i, hi, by simpa using h2, ?_⟩, ?_⟩
    · split at h1
      · rename_i e'; simp at h1; rw [hd, h1]
      · simp at h1
    · split at h3
      · assumption
      · simp at h3
    · split at h4
      · rename_i j hj
        simp only [Bool.and_eq_true, decide_eq_true_eq, beq_iff_eq] at h4
        obtain ⟨⟨⟨h5, h6⟩, h7⟩, h8⟩ := h4
        split at h8
        · rename_i z hz
          exact ⟨j, z, hj, h5, h6, h7, hz, h8⟩
        · simp at h8
      · simp at h4
  · simp at h
theorem te_sls (hte : teOK P E.te = true) {T e : TypeId} {m : Nat} (hl : look T E.te = some (.sls e m)) :
    P.underlying T = some (.slice e) ∧ 0 < m ∧ ∃ j z, P.info? e = some j ∧ j.size = m ∧ j.zero = some z := by
  have h := te_fact hte hl
  unfold tiOK at h
  split at h
  · rename_i d i hd hi
    simp only [Bool.and_eq_true, decide_eq_true_eq] at h
    obtain ⟨⟨⟨h1, h2⟩, h3⟩, h4⟩ := h
    refine ⟨?_, h3, ?_⟩
    · split at h1
      · rename_i e'; simp at h1; rw [hd, h1]
      · simp at h1
    · split at h4
      · rename_i j hj
        simp only [Bool.and_eq_true, beq_iff_eq] at h4
        cases hz : j.zero with
        | none => rw [hz] at h4; simp at h4
        | some z => exact ⟨j, z, hj, h4.1, hz⟩
      · simp at h4
  · simp at h
theorem te_arr (hte : teOK P E.te = true) {T e : TypeId} {n es : Nat} {z : Sq} (hl : look T E.te = some (.arr n e es z)) :
    P.underlying T = some (.array n e) ∧ P.cellsOf e = es ∧ 0 < es ∧ ∃ i, P.info? T = some i ∧ i.size = n * es ∧ ∃ cs, i.zero = some (.agg cs) ∧ eqSq z cs.toList = true := by
  have h := te_fact hte hl
  unfold tiOK at h
  split at h
  · rename_i d i hd hi
    simp only [Bool.and_eq_true, beq_iff_eq, decide_eq_true_eq] at h
    obtain ⟨⟨⟨⟨h1, h2⟩, h3⟩, h4⟩, h5⟩ := h
    refine ⟨?_, h2, h3, i, hi, h4, ?_⟩
    · split at h1
      · simp at h1; rw [hd, h1.1, h1.2]
      · simp at h1
    · unfold aggEq at h5
      split at h5
      · rename_i cs hz
        exact ⟨cs, hz, h5⟩
      · simp at h5
  · simp at h
theorem te_strct (hte : teOK P E.te = true) {T : TypeId} {fs : List (Nat × TypeId × Nat)} {n : Nat} {z : List AV} (hl : look T E.te = some (.strct fs n z)) :
    ∃ fs', P.underlying T = some (.struct fs') ∧ fieldsOK P fs'.toList fs = true ∧ ∃ i, P.info? T = some i ∧ i.size = n ∧ z.length = n ∧ ∃ cs, i.zero = some (.agg cs) ∧ eqZ z cs.toList = true := by
  have h := te_fact hte hl
  unfold tiOK at h
  split at h
  · rename_i d i hd hi
    simp only [Bool.and_eq_true, beq_iff_eq] at h
    obtain ⟨⟨⟨h1, h4⟩, h5⟩, h6⟩ := h
    split at h1
    · rename_i fs'
      refine ⟨fs', hd, h1, i, hi, h4, h6, ?_⟩
      unfold aggEq at h5
      split at h5
      · rename_i cs hz
        exact ⟨cs, hz, h5⟩
      · simp at h5
    · simp at h1
  · simp at h
theorem te_flat (hte : teOK P E.te = true) {T : TypeId} {fs : List (Nat × TypeId × Nat)} {n : Nat} {z : Sq} (hl : look T E.te = some (.flat fs n z)) :
    ∃ fs', P.underlying T = some (.struct fs') ∧ fieldsOK P fs'.toList fs = true ∧ ∃ i, P.info? T = some i ∧ i.size = n ∧ ∃ cs, i.zero = some (.agg cs) ∧ eqSq z cs.toList = true := by
  have h := te_fact hte hl
  unfold tiOK at h
  split at h
  · rename_i d i hd hi
    simp only [Bool.and_eq_true, beq_iff_eq] at h
    obtain ⟨⟨h1, h4⟩, h5⟩ := h
    split at h1
    · rename_i fs'
      refine ⟨fs', hd, h1, i, hi, h4, ?_⟩
      unfold aggEq at h5
      split at h5
      · rename_i cs hz
        exact ⟨cs, hz, h5⟩
      · simp at h5
    · simp at h1
  · simp at h
theorem field_fact {fs' : List Field} : ∀ {fs : List (Nat × TypeId × Nat)} {i : Nat} {o t s : Nat}, fieldsOK P fs' fs = true → fs[i]? = some (o, t, s) →
    ∃ f, fs'[i]? = some f ∧ f.offset = o ∧ f.type = t ∧ P.cellsOf t = s ∧ 0 < s := by
  induction fs' with
  | nil => intro fs i o t s h hi; cases fs <;> simp_all [fieldsOK]
  | cons f r ih =>
    intro fs i o t s h hi
    cases fs with
    | nil => simp at hi
    | cons g fs =>
      obtain ⟨o', t', s'⟩ := g
      simp only [fieldsOK, Bool.and_eq_true, beq_iff_eq, decide_eq_true_eq] at h
      cases i with
      | zero =>
        simp at hi
        obtain ⟨rfl, rfl, rfl⟩ := hi
        obtain ⟨⟨⟨⟨h1, h2⟩, h3⟩, h4⟩, h5⟩ := h
        exact ⟨f, rfl, h1, h2, h3, h4⟩
      | succ i => exact ih h.2 (by simpa using hi)
theorem sizeOf_run {T : TypeId} {i : TypeInfo} (h : P.info? T = some i) : (sizeOf T).run P w = .ok i.size w := by
  simp [sizeOf, typeInfo, h]
theorem cellsOf_run {T : TypeId} {s : Nat} (h : P.cellsOf T = s) (hs : 0 < s) : (sizeOf T).run P w = .ok s w := by
  unfold Program.cellsOf at h
  cases hi : P.info? T with
  | none => simp [hi] at h; omega
  | some i => simp [hi] at h; rw [sizeOf_run hi, h]
theorem move_ok (hte : teOK P E.te = true) {asg : Bool} {ty : TypeId} {x : Operand} (h : Inv C E.n S A a w) (hK : amove E asg A o.dst ty x K) (hn : Nx C E.n S K next) : next (a.put o.dst (a.eval x)) w := by
  cases x with
  | const v =>
    simp only [amove] at hK
    split at hK
    · rename_i e c hte'
      obtain ⟨_, _, j, z, _, _, _, _, _, hz⟩ := te_slice hte hte'
      exact fin_ok h hK ⟨rfl, elemZero_len hz⟩ rfl hn
    · split at hK
      · rename_i hs
        exact fin_ok h hK ⟨rfl, hs⟩ rfl hn
      · exact hK.elim
  | func f => exact fin_ok (x := .func (.func f) #[] #[]) h hK ⟨[], rfl, trivial⟩ rfl hn
  | global g => exact hK.elim
  | tmp t =>
    simp only [amove] at hK
    split at hK
    · exact hK.elim
    · rename_i v hl
      have hev : a.eval (.tmp t) = rho a t := rfl
      have hr := h.rel t v hl
      rw [hev]
      cases v with
      | ow e c =>
        simp only at hK
        split at hK
        · exact give_ok h hl rfl hK hn
        · exact fin_ok h hK rfl rfl hn
      | bx l =>
        simp only at hK
        split at hK
        · exact give_ok h hl rfl hK hn
        · obtain ⟨b, e, cs, hx, _⟩ := hr
          exact fin_ok h hK ⟨b, hx, hx⟩ rfl hn
      | ba c =>
        simp only at hK
        split at hK
        · exact give_ok h hl rfl hK hn
        · obtain ⟨b, e, cs, hx, _⟩ := hr
          exact fin_ok h hK ⟨b, hx, hx⟩ rfl hn
      | ao l => exact hK.elim
      | _ => exact fin_ok h hK hr rfl hn

theorem te_bool (hte : teOK P E.te = true) {T : TypeId} (hl : look T E.te = some .bool) : P.underlying T = some .bool := by
  have h := te_fact hte hl
  unfold tiOK at h
  split at h
  · rename_i d i hd hi
    simp only [Bool.and_eq_true] at h
    obtain ⟨⟨h1, h2⟩, h3⟩ := h
    split at h1
    · exact hd
    · simp at h1
  · simp at h
theorem te_int (hte : teOK P E.te = true) {T : TypeId} {k : IntKind} (hl : look T E.te = some (.int k)) : P.underlying T = some (.int k) := by
  have h := te_fact hte hl
  unfold tiOK at h
  split at h
  · rename_i d i hd hi
    simp only [Bool.and_eq_true] at h
    obtain ⟨⟨h1, h2⟩, h3⟩ := h
    split at h1
    · simp at h1; rw [hd, h1]
    · simp at h1
  · simp at h
theorem run_equal_bool {T : TypeId} (h : P.underlying T = some .bool) (x y : Bool) : (Op.equal T (.bool x) (.bool y)).run P w = .ok (x == y) w := by
  have : Op.equal T (.bool x) (.bool y) = Op.equalIn (9999 + 1) T (.bool x) (.bool y) := rfl
  rw [this, Op.equalIn]
  simp [run_underlying h]
theorem ex_binOp {ρ : Operand → Value} {op : BinOp} {T yt : TypeId} {x y : Operand} (hop : o.op = .binOp op T x y yt) :
    execOp ρ o = (do let r ← (do eqGuard op T x y (ρ x) (ρ y); binOp op T (ρ x) (ρ y)); pure (Next.value r) : Sem Next) := by
  unfold execOp; rw [hop]
theorem ex_nil {ρ : Operand → Value} {x : Operand} {ad : Addr} (hop : o.op = .nilCheck x) (hx : ρ x = .pointer (some ad)) : execOp ρ o = pure (.value (.pointer (some ad))) := by
  unfold execOp; rw [hop]; simp only [hx]
theorem run_eqItems_int {e : TypeId} {k k₀ : IntKind} (hu : P.underlying e = some (.int k)) (d : Nat) (l l' : List Int) (hl : l'.length = l.length) : ∀ (m i : Nat) (w : World), i + m = l.length →
    (Op.eqItems (d + 1) e 1 (l.map (Value.int k₀)).toArray (l'.map (Value.int k₀)).toArray (List.range' i m)).run P w = .ok (l.drop i == l'.drop i) w
  | 0, i, w, h => by
    rw [List.drop_of_length_le (by omega), List.drop_of_length_le (by omega)]
    simp [Op.eqItems]
  | m + 1, i, w, h => by
    have h1 : i < l.length := by omega
    have h2 : i < l'.length := by omega
    rw [List.range'_succ, List.drop_eq_getElem_cons h1, List.drop_eq_getElem_cons h2]
    have p1 : (part e (l.map (Value.int k₀)).toArray (i * 1)).run P w = .ok (.int k₀ l[i]) w := by
      simp [part, isAgg, run_underlying hu, h1]
    have p2 : (part e (l'.map (Value.int k₀)).toArray (i * 1)).run P w = .ok (.int k₀ l'[i]) w := by
      simp [part, isAgg, run_underlying hu, h2]
    have p3 : (Op.equalIn (d + 1) e (.int k₀ l[i]) (.int k₀ l'[i])).run P w = .ok (l[i] == l'[i]) w := by
      simp [Op.equalIn, run_underlying hu]
    simp only [Op.eqItems, Sem.run_bind, p1, p2, p3, Result.andThen_ok, List.cons_beq_cons]
    cases l[i] == l'[i] with
    | false => simp
    | true =>
      simp only [Bool.not_true, Bool.false_eq_true, if_false, Bool.true_and]
      exact run_eqItems_int hu d l l' hl m (i + 1) w (by omega)
theorem run_equal_arr {T e : TypeId} {k k₀ : IntKind} {m : Nat} (hT : P.underlying T = some (.array m e)) (he : P.underlying e = some (.int k)) (hc : P.cellsOf e = 1) (l l' : List Int) (h1 : l.length = m) (h2 : l'.length = m) :
    (Op.equal T (.agg (l.map (Value.int k₀)).toArray) (.agg (l'.map (Value.int k₀)).toArray)).run P w = .ok (l == l') w := by
  have hi : ∃ i, P.info? e = some i := by
    unfold Program.cellsOf at hc
    cases hi : P.info? e with
    | none => simp [hi] at hc
    | some i => exact ⟨i, rfl⟩
  obtain ⟨i, hi⟩ := hi
  have e1 : Op.equal T (.agg (l.map (Value.int k₀)).toArray) (.agg (l'.map (Value.int k₀)).toArray) = Op.equalIn (9999 + 1) T (.agg (l.map (Value.int k₀)).toArray) (.agg (l'.map (Value.int k₀)).toArray) := rfl
  rw [e1, run_equalIn_array w 9999 _ _ hT hi, hc, List.range_eq_range']
  have := run_eqItems_int (P := P) (k₀ := k₀) he 9998 l l' (h2.trans h1.symm) m 0 w (by omega)
  simpa using this
theorem eqGuard_arr {op : BinOp} {T e : TypeId} {k : IntKind} {m : Nat} {x y : Operand} {xs ys : Array Value} (hT : P.underlying T = some (.array m e)) (he : P.underlying e = some (.int k)) : (eqGuard op T x y (.agg xs) (.agg ys)).run P w = .ok () w := by
  have hg : P.eqGuardType P.depth T = false := by
    have hd : P.depth = ((2 * (P.types.size + Made.depth)) + 1) + 1 := rfl
    rw [hd]
    unfold Program.eqGuardType
    simp only [hT]
    unfold Program.eqGuardType
    simp only [he]
  unfold eqGuard
  cases op <;> simp <;> (intro hh; rw [hg] at hh; cases hh)
theorem binop_ok {op : BinOp} {T yt : TypeId} {x y : Operand} (hop : o.op = .binOp op T x y yt) (hte : teOK P E.te = true) (h : Inv C E.n S A a w) (hK : abinop E A o.dst op T x y K) (hn : Nx C E.n S K next) : PWP P o a w next := by
  unfold abinop at hK
  split at hK
  · rename_i u v hx hy
    have ex := eval_pv h hx
    have ey := eval_pv h hy
    split at hK
    · rename_i hT
      refine pwp_value ?_ (fin_ok h hK ⟨rfl, rfl⟩ rfl hn)
      intro w'
      rw [ex_binOp hop, ex, ey, eqGuard_at_bool]
      simp only [binOp]
      simp [run_equal_bool (te_bool hte hT)]
    · rename_i hT
      refine pwp_value ?_ (fin_ok h hK ⟨rfl, rfl⟩ rfl hn)
      intro w'
      rw [ex_binOp hop, ex, ey, eqGuard_at_bool]
      simp only [binOp]
      simp [run_equal_bool (te_bool hte hT)]
    · exact hK.elim
  · rename_i u v _ hx hy
    have ex := eval_pv h hx
    have ey := eval_pv h hy
    have key : ∀ z, fin E.n o.dst A (.pv z) K → scal z = true → (∀ w', (execOp a.eval o).run P w' = .ok (.value z) w') → PWP P o a w next :=
      fun z hz hs hr => pwp_value hr (fin_ok h hz ⟨rfl, hs⟩ rfl hn)
    have hev : ∀ w', (execOp a.eval o).run P w' = (do let r ← (do eqGuard op T x y u v; binOp op T u v); pure (Next.value r) : Sem Next).run P w' := by
      intro w'
      rw [ex_binOp hop, ex, ey]
    unfold abin at hK
    split at hK
    · rename_i k n k' m K'
      cases op <;> simp only at hK <;> (try (split at hK)) <;> (try (exact hK.elim)) <;> (try (split at hK)) <;> (try (exact hK.elim))
      all_goals
        refine key _ hK rfl ?_
        intro w'
        rw [hev]
        clear key hev
        simp_all [binOp, Op.intArith, Op.intDiv, Op.intBits, Op.intCmp, Op.shift, eqGuard_at_int]
      all_goals (intro hlt; omega)
    · exact hK.elim
  · rename_i k l k' l' hx hy
    split at hK
    · rename_i m e z hT
      split at hK
      · rename_i q he
        split at hK
        · rename_i hk
          subst hk
          obtain ⟨h1, h2, hK⟩ := hK
          obtain ⟨hu, hc, _⟩ := te_arr hte hT
          have hue := te_int hte he
          obtain ⟨cs, hex, hcs⟩ := eval_opd h hx
          obtain ⟨ds, hey, hds⟩ := eval_opd h hy
          simp only [Cells] at hcs hds
          subst hcs; subst hds
          split at hK
          · refine pwp_value ?_ (fin_ok h hK ⟨rfl, rfl⟩ rfl hn)
            intro w'
            rw [ex_binOp hop, hex, hey]
            simp only [Sem.run_bind, eqGuard_arr hu hue, Result.andThen_ok, binOp, run_equal_arr hu hue hc l l' h1 h2]
            rfl
          · refine pwp_value ?_ (fin_ok h hK ⟨rfl, rfl⟩ rfl hn)
            intro w'
            rw [ex_binOp hop, hex, hey]
            simp only [Sem.run_bind, eqGuard_arr hu hue, Result.andThen_ok, binOp, run_equal_arr hu hue hc l l' h1 h2]
            rfl
          · exact hK.elim
        · exact hK.elim
      · exact hK.elim
    · exact hK.elim
  · exact hK.elim

theorem unop_ok {op : UnOp} {T : TypeId} {x : Operand} {v : Value} (hop : o.op = .unOp op T x) (h : Inv C E.n S A a w) (hx : opd A x = some (.pv v)) (hK : aun op v fun v => fin E.n o.dst A (.pv v) K) (hn : Nx C E.n S K next) : PWP P o a w next := by
  have ex := eval_pv h hx
  unfold aun at hK
  split at hK
  · split at hK
    · refine pwp_value ?_ (fin_ok h hK ⟨rfl, rfl⟩ rfl hn)
      intro w'
      unfold execOp; rw [hop]; simp [ex, Op.unary, Op.intArith]
    · exact hK.elim
  · split at hK
    · refine pwp_value ?_ (fin_ok h hK ⟨rfl, rfl⟩ rfl hn)
      intro w'
      unfold execOp; rw [hop]; simp [ex, Op.unary]
    · exact hK.elim
  · exact hK.elim

theorem convert_ok {src dst : TypeId} {x : Operand} {k k₁ k₂ : IntKind} {v : Int} (hop : o.op = .convert src dst x) (hte : teOK P E.te = true) (h : Inv C E.n S A a w) (h1 : look src E.te = some (.int k₁)) (h2 : look dst E.te = some (.int k))
    (hx : opd A x = some (.pv (.int k₂ v))) (hK : fin E.n o.dst A (.pv (.int k (k.wrap v))) K) (hn : Nx C E.n S K next) : PWP P o a w next := by
  have ex := eval_pv h hx
  refine pwp_value ?_ (fin_ok h hK ⟨rfl, rfl⟩ rfl hn)
  intro w'
  unfold execOp; rw [hop]
  simp [ex, convert, run_underlying (te_int hte h1), run_underlying (te_int hte h2), Conv.intToInt]

theorem nil_ok {x : Operand} (hop : o.op = .nilCheck x) (h : Inv C E.n S A a w) (hK : anil E A o.dst x K) (hn : Nx C E.n S K next) : PWP P o a w next := by
  unfold anil at hK
  split at hK
  · rename_i t
    have hev : a.eval (.tmp t) = rho a t := rfl
    split at hK
    · rename_i l hl
      obtain ⟨b, e, cs, hx, _⟩ := h.rel t _ hl
      have hx' : rho a t = .pointer (some ⟨b, 0, none⟩) := hx
      refine pwp_value ?_ (fin_ok h hK ⟨b, hx, hx⟩ rfl hn)
      intro w'; rw [ex_nil hop (hev.trans hx')]; first | rfl | (rw [hx']; rfl)
    · rename_i l hl
      obtain ⟨b, e, cs, hx, _⟩ := h.rel t _ hl
      have hx' : rho a t = .pointer (some ⟨b, 0, none⟩) := hx
      refine pwp_value ?_ (fin_ok h hK ⟨b, hx, hx⟩ rfl hn)
      intro w'; rw [ex_nil hop (hev.trans hx')]; first | rfl | (rw [hx']; rfl)
    · rename_i s off hl
      obtain ⟨b, h1, hx⟩ := h.rel t _ hl
      have hx' : rho a t = .pointer (some ⟨b, off, none⟩) := hx
      refine pwp_value ?_ (fin_ok h hK ⟨b, h1, hx⟩ rfl hn)
      intro w'; rw [ex_nil hop (hev.trans hx')]; first | rfl | (rw [hx']; rfl)
    · rename_i l off hl
      have hr := h.rel t _ hl
      obtain ⟨b, e, fz, cs, hx, _⟩ := id hr
      have hx' : rho a t = .pointer (some ⟨b, off, none⟩) := hx
      refine pwp_value (x := rho a t) ?_ (fin_ok h hK hr rfl hn)
      intro w'; rw [ex_nil hop (hev.trans hx')]; first | rfl | (rw [hx']; rfl)
    · rename_i c off hl
      have hr := h.rel t _ hl
      obtain ⟨b, e, fz, cs, hx, _⟩ := id hr
      have hx' : rho a t = .pointer (some ⟨b, off, none⟩) := hx
      refine pwp_value (x := rho a t) ?_ (fin_ok h hK hr rfl hn)
      intro w'; rw [ex_nil hop (hev.trans hx')]; first | rfl | (rw [hx']; rfl)
    · exact hK.elim
  · exact hK.elim
theorem extract_ok {x : Operand} {i : Nat} (hop : o.op = .extract x i) (h : Inv C E.n S A a w) (hK : extract1 E A o.dst x i K) (hn : Nx C E.n S K next) : PWP P o a w next := by
  unfold extract1 at hK
  split at hK
  · rename_i l hl
    obtain ⟨cs, hx, hr⟩ := eval_opd h hl
    have go : ∀ v, l[i]? = some v → v.owner = false → RV S C.L w (rho a) v (cs.getD i undef) → fin E.n o.dst A v K → PWP P o a w next := by
      intro v hv ho hrv hK
      obtain ⟨y, hy, _⟩ := hr.get hv
      refine pwp_value (x := cs.getD i undef) ?_ (fin_ok h hK hrv (owned_non ho _ _) hn)
      intro w'
      unfold execOp; rw [hop]
      simp [hx, Instr.extract, hy, List.getD]
    split at hK
    all_goals (try (exact hK.elim))
    all_goals
      rename_i hv
      obtain ⟨y, hy, hry⟩ := hr.get hv
      have e : cs.getD i undef = y := by simp [List.getD, hy]
      refine go _ hv rfl ?_ hK
      rw [e]
      first | exact hry.2 | exact hry
  · exact hK.elim
end
end Go.Gx

/-
  Gx8: addresses, lengths and loads keep the invariant.
  Conditions: none; laws for the machine's soundness.
-/
namespace Go.Gx
open Go

section
variable {P : Program} {C : Ctx} {E : Env} {S : Nat → Prop} {A : Fr} {a : Act} {w : World} {K : Fr → Prop} {next : Act → World → Prop} {Q : Exit → Act → World → Prop} {o : Oper}

theorem arr_get {α : Type} {xs : Array α} {i : Nat} {x : α} (h : xs.toList[i]? = some x) : xs[i]? = some x := by simpa using h
theorem run_fieldAt {T : TypeId} {fs' : Array Field} {f : Nat} {fd : Field} {s b off : Nat} (hu : P.underlying T = some (.struct fs')) (hf : fs'.toList[f]? = some fd) (hs : P.cellsOf fd.type = s) (h0 : 0 < s) :
    (Instr.fieldAt T (.pointer (some ⟨b, off, none⟩)) f).run P w = .ok (.pointer (some ⟨b, off + fd.offset, none⟩)) w := by
  have hne : s ≠ 0 := by omega
  simp [Instr.fieldAt, run_underlying hu, arr_get hf, Instr.sureAddr, fieldPlace, cellsOf_run hs h0, hne, Addr.add_lit]
theorem ex_fieldAddr {ρ : Operand → Value} {T : TypeId} {x : Operand} {f : Nat} (hop : o.op = .fieldAddr T x f) :
    execOp ρ o = (do let r ← Instr.fieldAt T (ρ x) f; pure (Next.value r) : Sem Next) := by
  unfold execOp; rw [hop]
theorem fieldAddr_ok {T : TypeId} {x : Operand} {f : Nat} (hop : o.op = .fieldAddr T x f) (hte : teOK P E.te = true) (h : Inv C E.n S A a w) (hK : afieldAddr E A o.dst T x f K) (hn : Nx C E.n S K next) : PWP P o a w next := by
  unfold afieldAddr at hK
  simp only at hK
  split at hK
  · rename_i t off hoff
    have hfd : ∃ fs' fd s, P.underlying T = some (.struct fs') ∧ fs'.toList[f]? = some fd ∧ fd.offset = off ∧ P.cellsOf fd.type = s ∧ 0 < s := by
      split at hoff
      · rename_i fs n z hl
        obtain ⟨fs', hu, hf, _⟩ := te_strct hte hl
        cases hx : fs[f]? with
        | none => simp [hx] at hoff
        | some y =>
          obtain ⟨o', t', s'⟩ := y
          simp [hx] at hoff
          obtain ⟨fd, h1, h2, h3, h4, h5⟩ := field_fact hf hx
          exact ⟨fs', fd, s', hu, h1, h2.trans hoff, h3 ▸ h4, h5⟩
      · rename_i fs n z hl
        obtain ⟨fs', hu, hf, _⟩ := te_flat hte hl
        cases hx : fs[f]? with
        | none => simp [hx] at hoff
        | some y =>
          obtain ⟨o', t', s'⟩ := y
          simp [hx] at hoff
          obtain ⟨fd, h1, h2, h3, h4, h5⟩ := field_fact hf hx
          exact ⟨fs', fd, s', hu, h1, h2.trans hoff, h3 ▸ h4, h5⟩
      · simp at hoff
    obtain ⟨fs', fd, s, hu, hf, hfo, hsz, h0⟩ := hfd
    have key : ∀ (b k : Nat) (v : AV), rho a t = .pointer (some ⟨b, k, none⟩) → fin E.n o.dst A v K → v.owner = false → RV S C.L w (rho a) v (.pointer (some ⟨b, k + off, none⟩)) → PWP P o a w next := by
      intro b k v hx hK hv hr
      refine pwp_value (x := .pointer (some ⟨b, k + off, none⟩)) ?_ (fin_ok h hK hr (owned_non hv _ _) hn)
      have hev : a.eval (.tmp t) = rho a t := rfl
      intro w'
      rw [ex_fieldAddr hop, hev, hx, Sem.run_bind, run_fieldAt hu hf hsz h0, hfo]; rfl
    split at hK
    · rename_i l hl
      obtain ⟨b, e, cs, hx, _⟩ := h.rel t _ hl
      exact key b 0 _ hx hK rfl ⟨b, hx, by simp⟩
    · rename_i l hl
      obtain ⟨b, e, cs, hx, _⟩ := h.rel t _ hl
      exact key b 0 _ hx hK rfl ⟨b, hx, by simp⟩
    · rename_i s k hl
      obtain ⟨b, h1, hx⟩ := h.rel t _ hl
      exact key b k _ hx hK rfl ⟨b, h1, rfl⟩
    · rename_i l k hl
      obtain ⟨b, e, fz, cs, hx, hr⟩ := h.rel t _ hl
      exact key b k _ hx hK rfl ⟨b, e, fz, cs, rfl, hr⟩
    · rename_i l k hl
      obtain ⟨b, e, fz, cs, hx, hr⟩ := h.rel t _ hl
      exact key b k _ hx hK rfl ⟨b, e, fz, cs, rfl, hr⟩
    · exact hK.elim
  · exact hK.elim

/-- What an own slice of some element is. -/
theorem Own.form {e : TypeId} {c : Sq} {x : Value} (h : Own S w e c x) :
    (x = .slice none 0 0 ∧ c.len = 0) ∨ ∃ b cap cs, ∃ cur : Array Value, x = .slice (some ⟨b, 0, none⟩) c.len cap ∧ w.heap[b]? = some (.cells cur e (0, 0)) ∧ Cells S w c cs ∧ cs.length = c.len ∧ c.len ≤ cap ∧ cap ≤ maxLen ∧ cur.size = cap ∧
      cur.toList.take c.len = cs := by
  obtain ⟨cs, hc, hl, h⟩ := h
  rcases h with ⟨rfl, h0⟩ | ⟨b, cap, cur, rfl, _, hg, h1, h2, h3, h4⟩
  · exact .inl ⟨rfl, by rw [← hc.length, h0]⟩
  · refine .inr ⟨b, cap, cs, cur, by rw [hc.length], hg, hc, hc.length, by rw [← hc.length]; exact h1, h2, by simpa using h3, ?_⟩
    rw [← hc.length]
    simpa using h4
theorem run_indexAt_slice' {T e : TypeId} {j : TypeInfo} {b off len cap : Nat} {k : IntKind} {i : Int} (hu : P.underlying T = some (.slice e)) (hj : P.info? e = some j) (h1 : j.size = 1) (h0 : 0 ≤ i) (hi : i < len) :
    (Instr.indexAt T (.slice (some ⟨b, off, none⟩) len cap) (.int k i)).run P w = .ok (.pointer (some ⟨b, off + i.toNat, none⟩)) w := by
  simp [Instr.indexAt, run_underlying hu, asIntOf, sizeOf_run hj, h1, h0, hi, Addr.add_lit]
theorem run_indexAt_arr {T e : TypeId} {m es b off : Nat} {k : IntKind} {i : Int} (hu : P.underlying T = some (.array m e)) (hs : P.cellsOf e = es) (hes : 0 < es) (h0 : 0 ≤ i) (hi : i < m) :
    (Instr.indexAt T (.pointer (some ⟨b, off, none⟩)) (.int k i)).run P w = .ok (.pointer (some ⟨b, off + i.toNat * es, none⟩)) w := by
  simp [Instr.indexAt, run_underlying hu, asIntOf, Instr.sureAddr, cellsOf_run hs hes, h0, hi, Addr.add_lit]
theorem ex_indexAddr {ρ : Operand → Value} {T : TypeId} {x i : Operand} (hop : o.op = .indexAddr T x i) :
    execOp ρ o = (do let r ← Instr.indexAt T (ρ x) (ρ i); pure (Next.value r) : Sem Next) := by
  unfold execOp; rw [hop]
/-- The content of a slice of an owner or of known memory. -/
theorem srcOf_rel {x : Operand} {v : AV} {src : Src} {c : Sq} (h : Inv C E.n S A a w) (hx : opd A x = some v) (hs : srcOf A (otmp x) v = some (src, c)) :
    match src with
    | .slot s => ∃ e, look s A = some (.ow e c) ∧ a.eval x = rho a s ∧ Own S w e c (a.eval x)
    | .field s f => ∃ e l b e' cs, look s A = some (.bx l) ∧ l[f]? = some (.ow e c) ∧ rho a s = .pointer (some ⟨b, 0, none⟩) ∧ w.heap[b]? = some (.cells (List.toArray cs) e' (0, 0)) ∧ cs[f]? = some (a.eval x) ∧ Own S w e c (a.eval x)
    | .ro _ => Ro S (fun b => S b ∨ C.L b) w c (a.eval x) ∨ (∃ e, v = .nl e c ∧ a.eval x = .slice none 0 0 ∧ c.len = 0) := by
  have hr := eval_opd h hx
  cases v with
  | ow e c' =>
    cases x with
    | tmp t =>
      simp [srcOf, otmp] at hs
      obtain ⟨rfl, rfl⟩ := hs
      exact ⟨e, hx, rfl, hr⟩
    | _ => simp [srcOf, otmp] at hs
  | nl e c' =>
    simp [srcOf] at hs
    obtain ⟨rfl, rfl⟩ := hs
    exact .inr ⟨e, rfl, hr.1, hr.2⟩
  | sl c' =>
    simp [srcOf] at hs
    obtain ⟨rfl, rfl⟩ := hs
    exact .inl (Ro.keep (fun _ hb => hb) (fun _ _ => rfl) hr (fun _ hb => .inl hb) (fun _ _ => rfl))
  | ls c' =>
    simp [srcOf] at hs
    obtain ⟨rfl, rfl⟩ := hs
    exact .inl hr
  | al s =>
    simp only [srcOf] at hs
    split at hs
    · rename_i e c' hl
      simp at hs
      obtain ⟨rfl, rfl⟩ := hs
      have he : a.eval x = rho a s := hr
      exact ⟨e, hl, he, he ▸ h.rel s _ hl⟩
    · simp at hs
  | af s f =>
    simp only [srcOf] at hs
    split at hs
    · rename_i l hl
      split at hs
      · rename_i e c' hf
        simp at hs
        obtain ⟨rfl, rfl⟩ := hs
        obtain ⟨b, e', cs, h1, h2, h3⟩ := hr
        obtain ⟨b2, e2, cs2, h4, h5, h6⟩ := h.rel s _ hl
        have hb : b = b2 := by have := h1.symm.trans h4; simpa using this
        subst hb
        rw [h2] at h5
        simp at h5
        obtain ⟨rfl, rfl⟩ := h5
        obtain ⟨y, hy, hr⟩ := h6.get hf
        rw [h3] at hy
        cases hy
        exact ⟨e, l, b, e', cs, hl, hf, h1, h2, h3, hr⟩
      · simp at hs
    · simp at hs
  | _ => simp [srcOf] at hs

theorem Ro.seg {Z : Nat → Prop} {c : Sq} {x : Value} (h : Ro S Z w c x) : ∃ a' cap cs, x = .slice a' c.len cap ∧ c.len ≤ cap ∧ Cells S w c cs ∧ (c.len = 0 ∨ ∃ b off, a' = some ⟨b, off, none⟩ ∧ Z b ∧ ∀ i v, cs[i]? = some v → w.cell? ⟨b, off + i, none⟩ = some v) := by
  obtain ⟨cs, hc, a', cap, rfl, hle, h⟩ := h
  refine ⟨a', cap, cs, by rw [hc.length], by rw [← hc.length]; exact hle, hc, h.imp (fun e => ?_) id⟩
  subst e
  exact hc.length.symm
/-- An element's value, as a part. -/
theorem get_ok {c : Sq} {cs : List Value} {i : Nat} {F : AV → Prop} (hc : Cells S w c cs) (hg : c.get i F) :
    ∃ v x, cs[i]? = some x ∧ RPs S C.L w v x ∧ v.owner = false ∧ F v := by
  cases c with
  | ints k l =>
    obtain ⟨n, hn, hF⟩ := hg
    simp only [Cells] at hc
    subst hc
    exact ⟨.pv (.int k n), .int k n, by simp [hn], ⟨rfl, rfl, rfl⟩, rfl, hF⟩
  | bools l =>
    obtain ⟨n, hn, hF⟩ := hg
    simp only [Cells] at hc
    subst hc
    exact ⟨.pv (.bool n), .bool n, by simp [hn], ⟨rfl, rfl, rfl⟩, rfl, hF⟩
  | rows l =>
    obtain ⟨r, hn, hF⟩ := hg
    obtain ⟨y, hy, hr⟩ := All2.get hc hn
    exact ⟨.sl (.ints .i64 r), y, hy, ⟨rfl, ⟨_, rfl, hr⟩⟩, rfl, hF⟩
  | rows2 l =>
    obtain ⟨r, hn, hF⟩ := hg
    obtain ⟨y, hy, cs', hr, hr'⟩ := All2.get hc hn
    exact ⟨.sl (.rows r), y, hy, ⟨rfl, ⟨cs', hr, hr'⟩⟩, rfl, hF⟩
theorem RPs.rv {ρ : Nat → Value} {v : AV} {x : Value} (h : RPs S C.L w v x) : RV S C.L w ρ v x := by
  have := h.1
  cases v <;> first | exact h.2 | (simp [stat] at this)

theorem indexAddr_ok {T : TypeId} {x i : Operand} (hop : o.op = .indexAddr T x i) (hte : teOK P E.te = true) (h : Inv C E.n S A a w) (hK : aindexAddr E A o.dst T x i K) (hn : Nx C E.n S K next) : PWP P o a w next := by
  unfold aindexAddr at hK
  split at hK
  · rename_i k n e c0 hi hT
    have ei := eval_pv h hi
    obtain ⟨hu, _, j, z, hj, hj1, _⟩ := te_slice hte hT
    have key : ∀ (b off len cap : Nat) (v : AV), a.eval x = .slice (some ⟨b, off, none⟩) len cap → 0 ≤ n → n < len → fin E.n o.dst A v K → v.owner = false → RV S C.L w (rho a) v (.pointer (some ⟨b, off + n.toNat, none⟩)) → PWP P o a w next := by
      intro b off len cap v hx h0 hlt hK hv hr
      refine pwp_value (x := .pointer (some ⟨b, off + n.toNat, none⟩)) ?_ (fin_ok h hK hr (owned_non hv _ _) hn)
      intro w'
      rw [ex_indexAddr hop, hx, ei, Sem.run_bind, run_indexAt_slice' hu hj hj1 h0 hlt]; rfl
    split at hK
    · rename_i v hx
      split at hK
      · rename_i s c hs
        obtain ⟨h0, hlt, hK⟩ := hK
        obtain ⟨e', hl, he, ho⟩ := srcOf_rel h hx hs
        rcases ho.form with ⟨hx', hz⟩ | ⟨b, cap, cs, cur, hx', _⟩
        · omega
        · exact key b 0 _ cap _ hx' h0 hlt hK rfl ⟨b, _, cap, he ▸ hx', by simp⟩
      · rename_i s f c hs
        obtain ⟨h0, hlt, hK⟩ := hK
        obtain ⟨e', l, b, e2, cs, hl, hf, h1, h2, h3, ho⟩ := srcOf_rel h hx hs
        rcases ho.form with ⟨hx', hz⟩ | ⟨b', cap, cs', cur, hx', _⟩
        · omega
        · exact key b' 0 _ cap _ hx' h0 hlt hK rfl ⟨b, e2, b', _, cap, cs, h1, h2, hx' ▸ h3, by simp⟩
      · rename_i p c hs
        obtain ⟨h0, hlt, hg⟩ := hK
        rcases srcOf_rel h hx hs with hr | ⟨_, _, _, hz⟩
        · obtain ⟨a', cap, cs, hx', _, hc, hb⟩ := hr.seg
          rcases hb with hz | ⟨b, off, rfl, hb, hcell⟩
          · omega
          · obtain ⟨v', y, hy, hrp, hv, hK⟩ := get_ok (C := C) hc hg
            exact key b off _ cap _ hx' h0 hlt hK rfl ⟨b, off + n.toNat, y, rfl, hb, hcell _ _ hy, hrp⟩
        · omega
      · exact hK.elim
    · exact hK.elim
  · rename_i k n m e es z hi hT
    have ei := eval_pv h hi
    obtain ⟨hu, hes, hes0, _⟩ := te_arr hte hT
    have key : ∀ (b off : Nat) (v : AV), a.eval x = .pointer (some ⟨b, off, none⟩) → 0 ≤ n → n < m → fin E.n o.dst A v K → v.owner = false → RV S C.L w (rho a) v (.pointer (some ⟨b, off + n.toNat * es, none⟩)) → PWP P o a w next := by
      intro b off v hx h0 hlt hK hv hr
      refine pwp_value (x := .pointer (some ⟨b, off + n.toNat * es, none⟩)) ?_ (fin_ok h hK hr (owned_non hv _ _) hn)
      intro w'
      rw [ex_indexAddr hop, hx, ei, Sem.run_bind, run_indexAt_arr hu hes hes0 h0 hlt]; rfl
    split at hK
    · rename_i c off hx
      obtain ⟨h0, hlt, hK⟩ := hK
      obtain ⟨b, e', fz, cs, hx', hr⟩ := eval_opd h hx
      exact key b off _ hx' h0 hlt hK rfl ⟨b, e', fz, cs, rfl, hr⟩
    · rename_i c off hx
      obtain ⟨h0, hlt, hK⟩ := hK
      obtain ⟨b, e', fz, cs, hx', hr⟩ := eval_opd h hx
      exact key b off _ hx' h0 hlt hK rfl ⟨b, e', fz, cs, rfl, hr⟩
    · rename_i v _ _ hx
      split at hK
      · rename_i s off hp
        obtain ⟨h0, hlt, hK⟩ := hK
        have hr := eval_opd h hx
        cases v with
        | bx l =>
          cases x with
          | tmp t =>
            simp [ptOf, otmp] at hp
            obtain ⟨rfl, rfl⟩ := hp
            obtain ⟨b, e', cs, hx', _⟩ := hr
            exact key b 0 _ hx' h0 hlt hK rfl ⟨b, hx', rfl⟩
          | _ => simp [ptOf, otmp] at hp
        | ba l =>
          cases x with
          | tmp t =>
            simp [ptOf, otmp] at hp
            obtain ⟨rfl, rfl⟩ := hp
            obtain ⟨b, e', cs, hx', _⟩ := hr
            exact key b 0 _ hx' h0 hlt hK rfl ⟨b, hx', rfl⟩
          | _ => simp [ptOf, otmp] at hp
        | pt s' off' =>
          simp [ptOf] at hp
          obtain ⟨rfl, rfl⟩ := hp
          obtain ⟨b, h1, hx'⟩ := hr
          exact key b off' _ hx' h0 hlt hK rfl ⟨b, h1, rfl⟩
        | _ => simp [ptOf] at hp
      · exact hK.elim
    · exact hK.elim
  · exact hK.elim
end
end Go.Gx

/-
  Gx9: lengths, parts and loads keep the invariant.
  Conditions: none; laws for the machine's soundness.
-/
namespace Go.Gx
open Go

section
variable {P : Program} {C : Ctx} {E : Env} {S : Nat → Prop} {A : Fr} {a : Act} {w : World} {K : Fr → Prop} {next : Act → World → Prop} {Q : Exit → Act → World → Prop} {o : Oper}

theorem ex_builtin {ρ : Operand → Value} {b : Builtin} {xs : Array Operand} {ats : Array TypeId} (hop : o.op = .call { callee := .builtin b, args := xs, argTypes := ats }) :
    execOp ρ o = builtin b ats o.type (xs.map fun | .const _ => true | _ => false) (xs.map ρ) := by
  unfold execOp; rw [hop]; rfl
theorem srcOf_len {x : Operand} {v : AV} {src : Src} {c : Sq} (h : Inv C E.n S A a w) (hx : opd A x = some v) (hs : srcOf A (otmp x) v = some (src, c)) : ∃ p cap, a.eval x = .slice p c.len cap := by
  have hr := srcOf_rel h hx hs
  have own : ∀ e, Own S w e c (a.eval x) → ∃ p cap, a.eval x = .slice p c.len cap := by
    intro e ho
    rcases ho.form with ⟨hx', hz⟩ | ⟨b, cap, cs, cur, hx', _⟩
    · exact ⟨none, 0, by rw [hx', hz]⟩
    · exact ⟨_, cap, hx'⟩
  cases src with
  | slot s => obtain ⟨e, _, _, ho⟩ := hr; exact own e ho
  | field s f => obtain ⟨e, _, _, _, _, _, _, _, _, _, ho⟩ := hr; exact own e ho
  | ro p =>
    rcases hr with hr | ⟨e, _, hx', hz⟩
    · obtain ⟨a', cap, cs, hx', _⟩ := hr.seg
      exact ⟨a', cap, hx'⟩
    · exact ⟨none, 0, by rw [hx', hz]⟩
theorem len_ok {T : TypeId} {x : Operand} (hop : o.op = .call { callee := .builtin .len, args := #[x], argTypes := #[T] }) (hte : teOK P E.te = true) (h : Inv C E.n S A a w) (hK : alen E A o.dst T x K) (hn : Nx C E.n S K next) : PWP P o a w next := by
  unfold alen at hK
  split at hK
  · rename_i e c0 v hT hx
    split at hK
    · rename_i src c hs
      obtain ⟨p, cap, hv⟩ := srcOf_len h hx hs
      obtain ⟨hu, _⟩ := te_slice hte hT
      refine pwp_value ?_ (fin_ok h hK ⟨rfl, rfl⟩ rfl hn)
      intro w'
      rw [ex_builtin hop]
      simp [builtin, Builtin.len_, hv, run_underlying hu, goInt]
    · exact hK.elim
  · exact hK.elim
theorem min_ok {x y : Operand} {ts : Array TypeId} {k k' : IntKind} {m n : Int} (hop : o.op = .call { callee := .builtin .min, args := #[x, y], argTypes := ts }) (h : Inv C E.n S A a w) (hx : opd A x = some (.pv (.int k m))) (hy : opd A y = some (.pv (.int k' n)))
    (hK : fin E.n o.dst A (.pv (.int k (if n < m then n else m))) K) (hn : Nx C E.n S K next) : PWP P o a w next := by
  refine pwp_value ?_ (fin_ok h hK ⟨rfl, rfl⟩ rfl hn)
  intro w'
  rw [ex_builtin hop]
  simp [builtin, Builtin.min_, Builtin.min2, eval_pv h hx, eval_pv h hy]

theorem agg_sc (hte : teOK P E.te = true) {T : TypeId} (h : aggOf E T = .sc) : (isAgg T).run P w = .ok false w ∧ (sizeOf T).run P w = .ok 1 w := by
  unfold aggOf at h
  split at h
  · cases h
  · cases h
  · cases h
  · rename_i ti h1 h2 h3 hl
    have hf := te_fact hte hl
    unfold tiOK at hf
    split at hf
    · rename_i d i hd hi
      have hsz : i.size = 1 → (sizeOf T).run P w = .ok 1 w := fun e => by rw [sizeOf_run hi, e]
      cases ti with
      | int k =>
        simp only [Bool.and_eq_true, beq_iff_eq] at hf
        exact ⟨by simp [isAgg, run_underlying (te_int hte hl)], hsz hf.1.2⟩
      | bool =>
        simp only [Bool.and_eq_true, beq_iff_eq] at hf
        exact ⟨by simp [isAgg, run_underlying (te_bool hte hl)], hsz hf.1.2⟩
      | slice e c =>
        simp only [Bool.and_eq_true, beq_iff_eq] at hf
        exact ⟨by simp [isAgg, run_underlying (te_slice hte hl).1], hsz hf.1.1.2⟩
      | sls e m =>
        simp only [Bool.and_eq_true, beq_iff_eq] at hf
        exact ⟨by simp [isAgg, run_underlying (te_sls hte hl).1], hsz hf.1.1.2⟩
      | arr n e es z => exact (h3 _ _ _ _ rfl).elim
      | strct fs n z => exact (h1 _ _ _ rfl).elim
      | flat fs n z => exact (h2 _ _ _ rfl).elim
      | ptr =>
        simp only [Bool.and_eq_true, beq_iff_eq] at hf
        refine ⟨?_, hsz hf.2⟩
        have h1 := hf.1
        split at h1
        · simp [isAgg, run_underlying hd]
        · simp at h1
      | func =>
        simp only [Bool.and_eq_true, beq_iff_eq] at hf
        refine ⟨?_, hsz hf.2⟩
        have h1 := hf.1
        split at h1
        · simp [isAgg, run_underlying hd]
        · simp at h1
    · simp at hf
  · cases h
theorem agg_agg (hte : teOK P E.te = true) {T : TypeId} {m : Nat} (h : aggOf E T = .agg m) : (isAgg T).run P w = .ok true w ∧ (sizeOf T).run P w = .ok m w := by
  unfold aggOf at h
  split at h
  · rename_i fs n z hl
    cases h
    obtain ⟨fs', hu, _, i, hi, hs, _⟩ := te_strct hte hl
    exact ⟨by simp [isAgg, run_underlying hu], by rw [sizeOf_run hi, hs]⟩
  · rename_i fs n z hl
    cases h
    obtain ⟨fs', hu, _, i, hi, hs, _⟩ := te_flat hte hl
    exact ⟨by simp [isAgg, run_underlying hu], by rw [sizeOf_run hi, hs]⟩
  · rename_i n e es z hl
    cases h
    obtain ⟨hu, _, _, i, hi, hs, _⟩ := te_arr hte hl
    exact ⟨by simp [isAgg, run_underlying hu], by rw [sizeOf_run hi, hs]⟩
  · cases h
  · cases h

theorem ex_load {ρ : Operand → Value} {T : TypeId} {x : Operand} (hop : o.op = .load T x) :
    execOp ρ o = (do let r ← Instr.loadAt T (ρ x); pure (Next.value r) : Sem Next) := by
  unfold execOp; rw [hop]
theorem run_load_sc (hte : teOK P E.te = true) {T : TypeId} (h : aggOf E T = .sc) {ad : Addr} {v : Value} (hc : w.cell? ad = some v) : Reads P w (Instr.loadAt T (.pointer (some ad))) v := by
  intro w' hs
  have hc := cell_keep hs hc
  simp [Instr.loadAt, Instr.sureAddr, loadVar, (agg_sc hte h).1, hc]
theorem run_load_agg (hte : teOK P E.te = true) {T : TypeId} {m : Nat} (h : aggOf E T = .agg m) {b off : Nat} {cs : List Value} (hm : cs.length = m) (hc : ∀ i v, cs[i]? = some v → w.cell? ⟨b, off + i, none⟩ = some v) :
    Reads P w (Instr.loadAt T (.pointer (some ⟨b, off, none⟩))) (.agg cs.toArray) := by
  subst hm
  intro w' hs
  have := run_loadCells_list (P := P) w' ⟨b, off, none⟩ cs (fun j v hv => by rw [Addr.add_lit]; exact cell_keep hs (hc j v hv))
  simp [Instr.loadAt, Instr.sureAddr, loadVar, (agg_agg hte h).1, (agg_agg hte h).2, this]
theorem cell_row {b : Nat} {e : TypeId} {fz : Nat × Nat} {cs : List Value} (h : w.heap[b]? = some (.cells cs.toArray e fz)) (i : Nat) : w.cell? ⟨b, i, none⟩ = cs[i]? := by
  simp [World.cell?, h]
theorem cell_row' {b : Nat} {e : TypeId} {fz : Nat × Nat} {cur : Array Value} (h : w.heap[b]? = some (.cells cur e fz)) (i : Nat) : w.cell? ⟨b, i, none⟩ = cur[i]? := by
  simp [World.cell?, h]
/-- A cell of an own slice. -/
theorem Own.cell {e : TypeId} {c : Sq} {x : Value} (h : Own S w e c x) {b cap len : Nat} (hx : x = .slice (some ⟨b, 0, none⟩) len cap) : ∃ cs, Cells S w c cs ∧ ∀ i v, cs[i]? = some v → w.cell? ⟨b, i, none⟩ = some v := by
  rcases h.form with ⟨hx', hz⟩ | ⟨b', cap', cs, cur, hx', hg, hc, hl, _, _, _, ht⟩
  · rw [hx] at hx'; cases hx'
  · rw [hx] at hx'
    cases hx'
    refine ⟨cs, hc, fun i v hv => ?_⟩
    rw [cell_row' hg]
    rw [← ht, List.getElem?_take] at hv
    split at hv
    · simpa using hv
    · cases hv
end
end Go.Gx

/-
  Gx10: freezing; loads, fields and elements keep the invariant.
  Conditions: none; laws for the machine's soundness.
-/
namespace Go.Gx
open Go

section
variable {P : Program} {C : Ctx} {E : Env} {S S' : Nat → Prop} {A : Fr} {a : Act} {w : World} {K : Fr → Prop} {next : Act → World → Prop} {Q : Exit → Act → World → Prop} {o : Oper}

theorem Own.ro {Z : Nat → Prop} {e : TypeId} {c : Sq} {x : Value} (h : Own S w e c x) (hS : ∀ b, S b → S' b) (hb : ∀ b, b ∈ ownF (.ow e c) x → Z b) : Ro S' Z w c x := by
  rcases h.form with ⟨hx, hz⟩ | ⟨b, cap, cs, cur, hx, hg, hc, hl, _, _, _, ht⟩
  · obtain ⟨cs, hc, _⟩ := h
    have : cs = [] := List.eq_nil_of_length_eq_zero (hc.length.trans hz)
    exact ⟨cs, hc.keep hS (fun _ _ => rfl), none, 0, by rw [hx, this]; rfl, by simp [this], .inl this⟩
  · refine ⟨cs, hc.keep hS (fun _ _ => rfl), some ⟨b, 0, none⟩, cap, by rw [hx, hl], by omega, .inr ⟨b, 0, rfl, hb b (by rw [hx]; simp [ownF]), fun i v hv => ?_⟩⟩
    rw [Nat.zero_add, cell_row' hg]
    rw [← ht, List.getElem?_take] at hv
    split at hv
    · simpa using hv
    · cases hv
theorem nl_ro {Z : Nat → Prop} {c : Sq} (h : c.len = 0) : Ro S Z w c (.slice none 0 0) := by
  refine ⟨[], ?_, none, 0, rfl, by simp, .inl rfl⟩
  cases c with
  | ints k l => simp [Sq.len] at h; subst h; rfl
  | bools l => simp [Sq.len] at h; subst h; rfl
  | rows l => simp [Sq.len] at h; subst h; trivial
  | rows2 l => simp [Sq.len] at h; subst h; trivial

theorem All2.of_get {α β : Type} {R : α → β → Prop} : ∀ {as : List α} {bs : List β}, (∀ (i : Nat) (x : α), as[i]? = some x → ∃ y, bs[i]? = some y ∧ R x y) → bs.length = as.length → All2 R as bs
  | [], [], _, _ => trivial
  | [], _ :: _, _, h => by simp at h
  | _ :: _, [], _, h => by simp at h
  | x :: as, y :: bs, h, hl => by
    refine ⟨?_, All2.of_get (fun i x' hx => ?_) (by simpa using hl)⟩
    · obtain ⟨y', hy, hr⟩ := h 0 x rfl
      simp at hy; subst hy; exact hr
    · obtain ⟨y', hy, hr⟩ := h (i + 1) x' (by simpa using hx)
      exact ⟨y', by simpa using hy, hr⟩
/-- A slot's own slice becomes known memory. -/
theorem Inv.frzSlot {n : Rg} (h : Inv C n S A a w) {t : Nat} {e : TypeId} {c : Sq} (hl : look t A = some (.ow e c)) :
    ∃ S', (∀ b, S b → S' b) ∧ Inv C n S' (setd t (.sl c) A) a w ∧ Ro S' S' w c (rho a t) := by
  let S' : Nat → Prop := fun b => S b ∨ b ∈ owned w (.ow e c) (rho a t)
  have hro : Ro S' S' w c (rho a t) := Own.ro (h.rel t _ hl) (fun _ hb => .inl hb) (fun b hb => .inr (by
      revert hb
      cases rho a t with
      | slice p _ _ => cases p <;> exact fun hb => hb
      | _ => exact fun hb => hb))
  refine ⟨S', fun _ hb => .inl hb, ?_, hro⟩
  refine h.step (fun _ => False) (fun s => s = t) (Mod.refl _ _) (fun _ hb => hb.elim) h.size (fun _ _ => rfl) rfl (nodup_setd h.keys _ _) (h.bxs.setd h.keys (by simp [AV.ref]) (by simp [AV.fref]))
    (fun _ hb => .inl hb) ?_ ?_ ?_ ?_
  · intro b hb
    rcases hb with hb | hb
    · exact .inl hb
    · exact .inr ⟨.inl ⟨t, _, rfl, hl, hb⟩, owned_lt (h.rel t _ hl) b hb⟩
  · intro s v hg hs
    rcases look_setd h.keys hs with ⟨e, _⟩ | ⟨_, h2, _⟩
    · exact (hg e).elim
    · exact ⟨h2, rfl, fun _ _ => rfl, fun _ _ _ _ _ hb => hb⟩
  · intro s v hg hs
    rcases look_setd h.keys hs with ⟨rfl, rfl⟩ | ⟨h1, _⟩
    · exact ⟨hro, by simp [owned], by simp [owned]⟩
    · exact (h1 hg).elim
  · intro s v k u hs hk hne
    exact (hne (hs.trans hk.symm)).elim

/-- A part of a box is as it was, or known now, or nothing is known of it. -/
def Fz1 (u u' : AV) : Prop := u' = u ∨ (∃ e c, u = .ow e c ∧ u' = .sl c) ∨ (∃ e c, u = .nl e c ∧ u' = .sl c) ∨ u' = .jk
theorem Fz.refl : ∀ l : List AV, All2 Fz1 l l
  | [] => trivial
  | _ :: l => ⟨.inl rfl, Fz.refl l⟩
theorem All2.set' {α β : Type} {R : α → β → Prop} : ∀ {as : List α} {bs : List β} {n : Nat} {a : α} {b : β}, All2 R as bs → as[n]? = some a → R a b → All2 R as (bs.set n b)
  | [], [], n, _, _, _, h, _ => by simp at h
  | _ :: _, _ :: _, 0, _, _, h, ha, hr => by simp at ha; subst ha; exact ⟨hr, h.2⟩
  | _ :: _, _ :: _, n + 1, _, _, h, ha, hr => ⟨h.1, All2.set' h.2 (by simpa using ha) hr⟩
theorem Fz.frzF : ∀ l : List AV, All2 Fz1 l (frzF l)
  | [] => trivial
  | v :: l => ⟨by cases v <;> simp [Fz1, frzF1], Fz.frzF l⟩
theorem Fz.own {u u' : AV} (h : Fz1 u u') (x : Value) : ownF u' x = ownF u x ∨ ownF u' x = [] := by
  rcases h with rfl | ⟨e, c, rfl, rfl⟩ | ⟨e, c, rfl, rfl⟩ | rfl
  · exact .inl rfl
  · exact .inr (by simp [ownF])
  · exact .inr (by simp [ownF])
  · exact .inr (by simp [ownF])
theorem Fz.sub : ∀ {l l' : List AV} {cs : List Value}, All2 Fz1 l l' → (ownFs l' cs).Sublist (ownFs l cs)
  | [], [], cs, _ => by simp [ownFs]
  | u :: l, u' :: l', [], _ => by simp [ownFs]
  | u :: l, u' :: l', x :: cs, h => by
    simp only [ownFs]
    refine List.Sublist.append ?_ (Fz.sub h.2)
    rcases Fz.own h.1 x with e | e <;> rw [e]
    · exact List.Sublist.refl _
    · exact List.nil_sublist _
theorem ownFs_disj : ∀ {l : List AV} {cs : List Value} {i j : Nat} {v u : AV} {x y : Value} {b : Nat}, (ownFs l cs).Nodup → l[i]? = some v → cs[i]? = some x → l[j]? = some u → cs[j]? = some y → i ≠ j →
    b ∈ ownF v x → b ∉ ownF u y
  | [], _, _, _, _, _, _, _, _, _, h, _, _, _, _, _ => by simp at h
  | _ :: _, [], _, _, _, _, _, _, _, _, _, h, _, _, _, _ => by simp at h
  | p :: l, q :: cs, 0, 0, _, _, _, _, _, _, _, _, _, _, h, _ => (h rfl).elim
  | p :: l, q :: cs, 0, j + 1, v, u, x, y, b, hn, hv, hx, hu, hy, _, hb => by
    simp at hv hx hu hy
    subst hv; subst hx
    simp only [ownFs, List.nodup_append] at hn
    exact fun hb' => hn.2.2 b hb b (ownFs_mem hu hy hb') rfl
  | p :: l, q :: cs, i + 1, 0, v, u, x, y, b, hn, hv, hx, hu, hy, _, hb => by
    simp at hv hx hu hy
    subst hu; subst hy
    simp only [ownFs, List.nodup_append] at hn
    exact fun hb' => hn.2.2 b hb' b (ownFs_mem hv hx hb) rfl
  | p :: l, q :: cs, i + 1, j + 1, v, u, x, y, b, hn, hv, hx, hu, hy, hne, hb => by
    simp at hv hx hu hy
    simp only [ownFs, List.nodup_append] at hn
    exact ownFs_disj hn.2.1 hv hx hu hy (by omega) hb

theorem Inv.frzBox {n : Rg} (h : Inv C n S A a w) {s : Nat} {l l' : List AV} (hl : look s A = some (.bx l)) (hz : All2 Fz1 l l') :
    ∃ S', (∀ b, S b → S' b) ∧ Inv C n S' (dropF s (upd s (.bx l') A)) a w := by
  obtain ⟨b, e, cs, hx, hh, hr⟩ := h.rel s _ hl
  have hx' : rho a s = .pointer (some ⟨b, 0, none⟩) := hx
  let S' : Nat → Prop := fun k => S k ∨ ∃ (i : Nat) (e : TypeId) (c : Sq) (x : Value), l[i]? = some (AV.ow e c) ∧ l'[i]? = some (AV.sl c) ∧ cs[i]? = some x ∧ k ∈ ownF (AV.ow e c) x
  have hS : ∀ b, S b → S' b := fun _ hb => .inl hb
  have how : owned w (.bx l) (rho a s) = b :: ownFs l cs := by rw [hx']; simp [owned, rowOf_eq hh]
  have how' : owned w (.bx l') (rho a s) = b :: ownFs l' cs := by rw [hx']; simp [owned, rowOf_eq hh]
  have hnd : (b :: ownFs l cs).Nodup := by rw [← how]; exact h.nd s _ hl
  have hin : ∀ (i : Nat) (e : TypeId) (c : Sq) (x : Value) (k : Nat), l[i]? = some (AV.ow e c) → cs[i]? = some x → k ∈ ownF (.ow e c) x → k ∈ owned w (.bx l) (rho a s) := by
    intro i e c x k h1 h2 h3
    rw [how]
    exact List.mem_cons_of_mem _ (ownFs_mem h1 h2 h3)
  refine ⟨S', hS, ?_⟩
  have hkk := nodup_upd h.keys s (.bx l')
  refine h.step (fun _ => False) (fun k => k = s) (Mod.refl _ _) (fun _ hb => hb.elim) h.size (fun _ _ => rfl) rfl (nodup_dropF hkk _) ((h.bxs.upd (by simp [AV.fref]) (fun _ _ => ⟨_, rfl⟩)).dropF hkk _)
    hS ?_ ?_ ?_ ?_
  · intro k hk
    rcases hk with hk | ⟨i, e, c, x, h1, h2, h3, h4⟩
    · exact .inl hk
    · exact .inr ⟨.inl ⟨s, _, rfl, hl, hin i e c x k h1 h3 h4⟩, owned_lt (h.rel s _ hl) k (hin i e c x k h1 h3 h4)⟩
  · intro k v hg hk
    rcases look_upd (look_dropF hkk hk) with ⟨e, _⟩ | ⟨_, h2⟩
    · exact (hg e).elim
    · exact ⟨h2, rfl, fun _ _ => rfl, fun _ _ _ _ _ hb => hb⟩
  · intro k v hg hk
    subst hg
    rcases look_upd (look_dropF hkk hk) with ⟨_, rfl, _⟩ | ⟨h1, _⟩
    · refine ⟨⟨b, e, cs, hx, hh, ?_⟩, ?_, ?_⟩
      · clear how how' hnd
        have : ∀ (i : Nat) (v' : AV), l'[i]? = some v' → ∃ x, cs[i]? = some x ∧ RP S' C.L w v' x := by
          intro i v' hv'
          obtain ⟨v, hv, hf⟩ := hz.get' hv'
          obtain ⟨x, hxi, hrp⟩ := hr.get hv
          refine ⟨x, hxi, ?_⟩
          have hk := RP.keep (w' := w) hS (fun _ _ => rfl) hrp (fun _ _ => rfl)
          rcases hf with rfl | ⟨e, c, rfl, rfl⟩ | ⟨e, c, rfl, rfl⟩ | rfl
          · exact hk
          · exact Own.ro hrp hS (fun b hb => .inr ⟨i, e, c, x, hv, hv', hxi, hb⟩)
          · have h1 : x = .slice none 0 0 := hrp.1
            rw [h1]; exact nl_ro hrp.2
          · trivial
        have hlen : l'.length = cs.length := (hz.length).trans (hr.length).symm
        exact All2.of_get this hlen.symm
      · rw [how']
        exact hnd.sublist ((Fz.sub hz).cons_cons b)
      · intro k' hk'
        rw [how'] at hk'
        have hm : k' ∈ b :: ownFs l cs := ((Fz.sub hz).cons_cons b).subset hk'
        have hm' : k' ∈ owned w (.bx l) (rho a k) := by rw [how]; exact hm
        refine ⟨?_, .inl ⟨k, _, rfl, hl, hm'⟩⟩
        rintro (hS | ⟨i, e', c, x, h1, h2, h3, h4⟩)
        · exact (h.apart k _ hl k' hm').1 hS
        · rcases List.mem_cons.1 hk' with rfl | hk'
          · exact (List.nodup_cons.1 hnd).1 (ownFs_mem h1 h3 h4)
          · obtain ⟨j, u, y, hu, hy, hb⟩ := mem_ownFs hk'
            by_cases hij : i = j
            · subst hij
              rw [h2] at hu
              cases hu
              simp [ownF] at hb
            · obtain ⟨u0, hu0, hf⟩ := hz.get' hu
              have hb0 : k' ∈ ownF u0 y := by
                rcases Fz.own hf y with e | e <;> rw [e] at hb
                · exact hb
                · simp at hb
              exact ownFs_disj (List.nodup_cons.1 hnd).2 h1 h3 hu0 hy hij h4 hb0
    · exact (h1 rfl).elim
  · intro s v k u hs hk hne
    exact (hne (hs.trans hk.symm)).elim
end
end Go.Gx

/-
  Gx11: freezing a value; loads, fields and elements keep the invariant.
  Conditions: none; laws for the machine's soundness.
-/
namespace Go.Gx
open Go

section
variable {P : Program} {C : Ctx} {E : Env} {S S' : Nat → Prop} {A : Fr} {a : Act} {w : World} {K : Fr → Prop} {next : Act → World → Prop} {Q : Exit → Act → World → Prop} {o : Oper}

theorem Inv.relabel {n : Rg} (h : Inv C n S A a w) {t : Nat} {c : Sq} (hv : Ro S S w c (rho a t)) : Inv C n S (setd t (.sl c) A) a w := by
  refine h.step (fun _ => False) (fun s => s = t) (Mod.refl _ _) (fun _ hb => hb.elim) h.size (fun _ _ => rfl) rfl (nodup_setd h.keys _ _) (h.bxs.setd h.keys (by simp [AV.ref]) (by simp [AV.fref]))
    (fun _ hb => hb) (fun _ hb => .inl hb) ?_ ?_ ?_
  · intro s v hg hs
    rcases look_setd h.keys hs with ⟨e, _⟩ | ⟨_, h2, _⟩
    · exact (hg e).elim
    · exact ⟨h2, rfl, fun _ _ => rfl, fun _ _ _ _ _ hb => hb⟩
  · intro s v hg hs
    rcases look_setd h.keys hs with ⟨rfl, rfl⟩ | ⟨h1, _⟩
    · exact ⟨hv, by simp [owned], by simp [owned]⟩
    · exact (h1 hg).elim
  · intro s v k u hs hk hne
    exact (hne (hs.trans hk.symm)).elim
theorem frz_ok {x : Operand} {v v' : AV} {A' : Fr} (h : Inv C E.n S A a w) (hx : opd A x = some v) (hf : frz A (otmp x) v = some (A', v')) :
    ∃ S', (∀ b, S b → S' b) ∧ Inv C E.n S' A' a w ∧ RPs S' C.L w v' (a.eval x) ∧ v' ≠ .jk := by
  have hr := eval_opd h hx
  cases v with
  | pv y =>
    simp [frz] at hf
    obtain ⟨rfl, rfl⟩ := hf
    exact ⟨S, fun _ hb => hb, h, ⟨rfl, hr⟩, by simp⟩
  | sl c =>
    simp [frz] at hf
    obtain ⟨rfl, rfl⟩ := hf
    exact ⟨S, fun _ hb => hb, h, ⟨rfl, hr⟩, by simp⟩
  | nl e c =>
    simp [frz] at hf
    obtain ⟨rfl, rfl⟩ := hf
    exact ⟨S, fun _ hb => hb, h, ⟨rfl, hr⟩, by simp⟩
  | ls c =>
    simp [frz] at hf
    obtain ⟨rfl, rfl⟩ := hf
    exact ⟨S, fun _ hb => hb, h, ⟨rfl, hr⟩, by simp⟩
  | ow e c =>
    cases x with
    | tmp t =>
      simp [frz, otmp] at hf
      obtain ⟨rfl, rfl⟩ := hf
      obtain ⟨S', hS, hi, hro⟩ := h.frzSlot hx
      exact ⟨S', hS, hi, ⟨rfl, hro⟩, by simp⟩
    | _ => simp [frz, otmp] at hf
  | al s =>
    simp only [frz] at hf
    split at hf
    · rename_i e c hl
      cases x with
      | tmp t =>
        simp [otmp] at hf
        obtain ⟨rfl, rfl⟩ := hf
        obtain ⟨S', hS, hi, hro⟩ := h.frzSlot hl
        have he : rho a t = rho a s := hr
        rw [← he] at hro
        exact ⟨S', hS, hi.relabel hro, ⟨rfl, hro⟩, by simp⟩
      | _ => simp [otmp] at hf
    · simp at hf
  | af s f =>
    simp only [frz] at hf
    split at hf
    · rename_i l hl
      split at hf
      · rename_i e c hlf
        have hz : All2 Fz1 l (l.set f (.sl c)) := All2.set' (Fz.refl l) hlf (.inr (.inl ⟨e, c, rfl, rfl⟩))
        obtain ⟨S', hS, hi⟩ := h.frzBox hl hz
        suffices hro : Ro S' S' w c (a.eval x) by
          cases x with
          | tmp t =>
            simp [otmp] at hf
            obtain ⟨rfl, rfl⟩ := hf
            exact ⟨S', hS, hi.relabel hro, ⟨rfl, hro⟩, by simp⟩
          | _ => simp [otmp] at hf
        have hkk := nodup_upd h.keys s (.bx (l.set f (.sl c)))
        obtain ⟨b, e', cs, h1, h2, h3⟩ := hr
        obtain ⟨b2, e2, cs2, h4, h5, h6⟩ := hi.rel s _ (look_dropF' hkk (look_upd_same hl))
        have hb : b = b2 := by have := h1.symm.trans h4; simpa using this
        subst hb
        rw [h2] at h5
        simp at h5
        obtain ⟨rfl, rfl⟩ := h5
        have hlt : f < l.length := (List.getElem?_eq_some_iff.1 hlf).1
        obtain ⟨y, hy, hr⟩ := h6.get (i := f) (a := .sl c) (by simp [hlt])
        rw [h3] at hy
        cases hy
        exact hr
      · simp at hf
    · simp at hf
  | _ => simp [frz] at hf

theorem frzF1_rps {v : AV} {x : Value} (h : RP S C.L w v x) (hn : ∀ e c, v ≠ .ow e c) : RPs S C.L w (frzF1 v) x := by
  cases v with
  | pv y => exact ⟨rfl, h⟩
  | jk => exact ⟨rfl, trivial⟩
  | nl e c => exact ⟨rfl, by have h1 : x = .slice none 0 0 := h.1; rw [h1]; exact nl_ro h.2⟩
  | sl c => exact ⟨rfl, h⟩
  | ls c => exact ⟨rfl, h⟩
  | ow e c => exact (hn e c rfl).elim
  | _ => exact h.elim
theorem All2.part {l : List AV} {cs : List Value} {R : AV → Value → Prop} (h : All2 R l cs) (off m : Nat) : All2 R ((l.drop off).take m) ((cs.drop off).take m) :=
  (h.drop off).take m
theorem frzF_rps : ∀ {l : List AV} {cs : List Value}, All2 (RP S C.L w) l cs → anyOw l = false → All2 (RPs S C.L w) (frzF l) cs
  | [], [], _, _ => trivial
  | v :: l, x :: cs, h, hn => by
    have h1 : anyOw l = false := by
      simp only [anyOw, List.any_cons, Bool.or_eq_false_iff] at hn ⊢
      exact hn.2
    have h2 : ∀ e c, v ≠ .ow e c := by
      rintro e c rfl
      simp [anyOw] at hn
    exact ⟨frzF1_rps h.1 h2, frzF_rps h.2 h1⟩
theorem anyOw_frzF (l : List AV) : anyOw (frzF l) = false := by
  induction l with
  | nil => rfl
  | cons v l ih =>
    have : anyOw (frzF1 v :: frzF l) = false := by
      simp only [anyOw, List.any_cons, Bool.or_eq_false_iff] at ih ⊢
      exact ⟨by cases v <;> rfl, ih⟩
    exact this
theorem frzF_frzF (l : List AV) : frzF (frzF l) = frzF l := by
  simp only [frzF, List.map_map]
  congr 1
  funext v
  cases v <;> rfl
theorem cells_part {b : Nat} {e : TypeId} {fz : Nat × Nat} {cs : List Value} {off m : Nat} (h : w.heap[b]? = some (.cells cs.toArray e fz)) : ∀ i v, ((cs.drop off).take m)[i]? = some v → w.cell? ⟨b, off + i, none⟩ = some v := by
  intro i v hv
  rw [cell_row h]
  rw [List.getElem?_take] at hv
  split at hv
  · simpa using hv
  · cases hv

theorem loadBox_ok {T : TypeId} {x : Operand} {s b off : Nat} (hop : o.op = .load T x) (hte : teOK P E.te = true) (h : Inv C E.n S A a w) (hp : a.eval x = .pointer (some ⟨b, off, none⟩)) (hs : rho a s = .pointer (some ⟨b, 0, none⟩))
    (hK : aloadBox E A o.dst T s off K) (hn : Nx C E.n S K next) : RWP P o a w next := by
  have key : ∀ (y : Value) (S₁ : Nat → Prop) (A₁ : Fr) (v : AV), Reads P w (Instr.loadAt T (.pointer (some ⟨b, off, none⟩))) y → (∀ b, S b → S₁ b) → Inv C E.n S₁ A₁ a w →
      fin E.n o.dst A₁ v K → v.owner = false → RV S₁ C.L w (rho a) v y → RWP P o a w next := by
    intro y S₁ A₁ v hr hS hi hK hv hrv
    refine rwp_value (x := y) ?_ (fin_ok hi hK hrv (owned_non hv _ _) (hn.mono hS))
    intro w' hs
    rw [ex_load hop, hp, Sem.run_bind, hr w' hs]; rfl
  unfold aloadBox at hK
  split at hK
  · rename_i l hl
    obtain ⟨b', e, cs, hx, hh, hr⟩ := h.rel s _ hl
    have hb : b' = b := by have := (show rho a s = _ from hx).symm.trans hs; simpa using this
    subst hb
    split at hK
    · rename_i hsc
      have ld : ∀ y, cs[off]? = some y → Reads P w (Instr.loadAt T (.pointer (some ⟨b', off, none⟩))) y := fun y hy => run_load_sc hte hsc (by rw [cell_row hh]; exact hy)
      split at hK
      all_goals (try (exact hK.elim))
      · rename_i e' c hlo
        obtain ⟨y, hy, hry⟩ := hr.get hlo
        exact key y S A _ (ld y hy) (fun _ hb => hb) h hK rfl ⟨b', e, cs, hs, hh, hy⟩
      all_goals
        rename_i hlo
        obtain ⟨y, hy, hry⟩ := hr.get hlo
        exact key y S A _ (ld y hy) (fun _ hb => hb) h hK rfl hry
    · rename_i m hag
      split at hK
      · rename_i hlen
        have hlc : ((cs.drop off).take m).length = m := by
          have := hr.length
          simp; omega
        have ld : Reads P w (Instr.loadAt T (.pointer (some ⟨b', off, none⟩))) (.agg ((cs.drop off).take m).toArray) := run_load_agg hte hag hlc (cells_part hh)
        split at hK
        · have hz : All2 Fz1 l (l.take off ++ frzF ((l.drop off).take m) ++ l.drop (off + m)) := by
            have h1 : All2 Fz1 (l.take off ++ (l.drop off).take m ++ l.drop (off + m)) (l.take off ++ frzF ((l.drop off).take m) ++ l.drop (off + m)) :=
              ((Fz.refl _).append (Fz.frzF _)).append (Fz.refl _)
            have h2 : l.take off ++ (l.drop off).take m ++ l.drop (off + m) = l := by
              rw [List.append_assoc, ← List.drop_drop, List.take_append_drop, List.take_append_drop]
            rw [h2] at h1
            exact h1
          obtain ⟨S', hS, hi⟩ := h.frzBox hl hz
          have hkk := nodup_upd h.keys s (.bx (l.take off ++ frzF ((l.drop off).take m) ++ l.drop (off + m)))
          obtain ⟨b2, e2, cs2, h4, h5, h6⟩ := hi.rel s _ (look_dropF' hkk (look_upd_same hl))
          have hb : b' = b2 := by have := hs.symm.trans h4; simpa using this
          subst hb
          rw [hh] at h5
          simp at h5
          obtain ⟨rfl, rfl⟩ := h5
          refine key _ S' _ _ ld hS hi hK rfl ⟨_, rfl, ?_⟩
          have h7 := h6.part off m
          have h8 : ((l.take off ++ frzF ((l.drop off).take m) ++ l.drop (off + m)).drop off).take m = frzF ((l.drop off).take m) := by
            have e1 : (l.take off).length = off := by simp; omega
            have e2 : (frzF ((l.drop off).take m)).length = m := by simp [frzF]; omega
            rw [List.append_assoc, List.drop_append_of_le_length (by omega), List.drop_of_length_le (by omega), List.nil_append, List.take_append_of_le_length (by omega), List.take_of_length_le (by omega)]
          rw [h8] at h7
          have h9 := frzF_rps h7 (anyOw_frzF _)
          rw [frzF_frzF] at h9
          exact h9
        · rename_i ho
          exact key _ S A _ ld (fun _ hb => hb) h hK rfl ⟨_, rfl, frzF_rps (hr.part off m) (by simpa using ho)⟩
      · exact hK.elim
    · exact hK.elim
  · rename_i c hl
    obtain ⟨b', e, cs, hx, hh, hr⟩ := h.rel s _ hl
    have hb : b' = b := by have := (show rho a s = _ from hx).symm.trans hs; simpa using this
    subst hb
    split at hK
    · rename_i hsc
      obtain ⟨v, y, hy, hrp, hv, hK⟩ := get_ok (C := C) hr hK
      exact key y S A _ (run_load_sc hte hsc (by rw [cell_row hh]; exact hy)) (fun _ hb => hb) h hK hv hrp.rv
    · rename_i m hag
      obtain ⟨rfl, hm, hK⟩ := hK
      exact key _ S A _ (run_load_agg hte hag (hr.length.trans hm) (fun i v hv => by rw [cell_row hh, Nat.zero_add]; exact hv)) (fun _ hb => hb) h hK rfl ⟨cs, rfl, hr⟩
    · exact hK.elim
  · exact hK.elim

theorem load_ok {T : TypeId} {x : Operand} (hop : o.op = .load T x) (hE : EnvOK P E C) (h : Inv C E.n S A a w) (hK : aload E A o.dst T x K) (hn : Nx C E.n S K next) : RWP P o a w next := by
  have hte := hE.te
  have key : ∀ (p : Addr) (y : Value) (v : AV), a.eval x = .pointer (some p) → Reads P w (Instr.loadAt T (.pointer (some p))) y →
      fin E.n o.dst A v K → v.owner = false → RV S C.L w (rho a) v y → RWP P o a w next := by
    intro p y v hp hr hK hv hrv
    refine rwp_value (x := y) ?_ (fin_ok h hK hrv (owned_non hv _ _) hn)
    intro w' hs
    rw [ex_load hop, hp, Sem.run_bind, hr w' hs]; rfl
  unfold aload at hK
  split at hK
  · rename_i g
    split at hK
    · rename_i c m hg hag
      obtain ⟨hm, hK⟩ := hK
      obtain ⟨hS, e, fz, cs, hh, hc⟩ := hE.gl g c hg
      have hd := hE.dis g hS
      have hh' : w.heap[g]? = some (.cells cs.toArray e fz) := (h.ext.block g hd.2 hd.1).trans hh
      have hc' : Cells S w c cs := hc.keep (fun _ hb => hb.elim) (fun _ hb => hb.elim)
      exact key ⟨g, 0, none⟩ _ _ rfl (run_load_agg hte hag (hc'.length.trans hm) (fun i v hv => by rw [cell_row hh', Nat.zero_add]; exact hv)) hK rfl ⟨cs, rfl, hc'⟩
    · exact hK.elim
  · rename_i t
    have hev : a.eval (.tmp t) = rho a t := rfl
    split at hK
    · rename_i l hl
      obtain ⟨b, e, cs, hx, _⟩ := h.rel t _ hl
      exact loadBox_ok hop hte h (hev.trans hx) hx hK hn
    · rename_i l hl
      obtain ⟨b, e, cs, hx, _⟩ := h.rel t _ hl
      exact loadBox_ok hop hte h (hev.trans hx) hx hK hn
    · rename_i s off hl
      obtain ⟨b, hs, hx⟩ := h.rel t _ hl
      exact loadBox_ok hop hte h (hev.trans hx) hs hK hn
    · rename_i s i hl
      split at hK
      · rename_i e c hls hsc
        obtain ⟨b, len, cap, hs, hx⟩ := h.rel t _ hl
        have ho : Own S w e c (rho a s) := h.rel s _ hls
        obtain ⟨cs, hc, hcell⟩ := ho.cell hs
        obtain ⟨v, y, hy, hrp, hv, hK⟩ := get_ok (C := C) hc hK
        exact key _ y v (hev.trans hx) (run_load_sc hte hsc (hcell _ _ hy)) hK hv hrp.rv
      · exact hK.elim
    · rename_i s f i hl
      split at hK
      · rename_i l hls hsc
        split at hK
        · rename_i e c hlf
          obtain ⟨b, e1, b', len, cap, cs, hs, hh, hcf, hx⟩ := h.rel t _ hl
          obtain ⟨b2, e2, cs2, h4, h5, h6⟩ := h.rel s _ hls
          have hb : b = b2 := by have := hs.symm.trans h4; simpa using this
          subst hb
          rw [hh] at h5
          simp at h5
          obtain ⟨rfl, rfl⟩ := h5
          obtain ⟨y, hy, hr⟩ := h6.get hlf
          rw [hcf] at hy
          cases hy
          have ho : Own S w e c _ := hr
          obtain ⟨cs', hc, hcell⟩ := ho.cell rfl
          obtain ⟨v, y, hy, hrp, hv, hK⟩ := get_ok (C := C) hc hK
          exact key _ y v (hev.trans hx) (run_load_sc hte hsc (hcell _ _ hy)) hK hv hrp.rv
        · exact hK.elim
      · exact hK.elim
    · rename_i v hl
      split at hK
      · rename_i hsc
        obtain ⟨b, off, c, hx, hb, hc, hrp⟩ := h.rel t _ hl
        refine key _ c v (hev.trans hx) (run_load_sc hte hsc hc) hK ?_ hrp.rv
        have := hrp.1
        cases v <;> first | rfl | (simp [stat] at this)
      · exact hK.elim
    · rename_i l off hl
      obtain ⟨b, e, fz, cs, hx, hb, hh, hr⟩ := h.rel t _ hl
      split at hK
      · rename_i hsc
        split at hK
        all_goals (try (exact hK.elim))
        all_goals
          rename_i hlo
          obtain ⟨y, hy, hry⟩ := hr.get hlo
          exact key _ y _ (hev.trans hx) (run_load_sc hte hsc (by rw [cell_row hh]; exact hy)) hK rfl hry.rv
      · rename_i m hag
        split at hK
        · rename_i hlen
          have hlc : ((cs.drop off).take m).length = m := by
            have := hr.length
            simp; omega
          exact key _ _ _ (hev.trans hx) (run_load_agg hte hag hlc (cells_part hh)) hK rfl ⟨_, rfl, hr.part off m⟩
        · exact hK.elim
      · exact hK.elim
    · rename_i c off hl
      obtain ⟨b, e, fz, cs, hx, hb, hh, hr⟩ := h.rel t _ hl
      split at hK
      · rename_i hsc
        obtain ⟨v, y, hy, hrp, hv, hK⟩ := get_ok (C := C) hr hK
        exact key _ y v (hev.trans hx) (run_load_sc hte hsc (by rw [cell_row hh]; exact hy)) hK hv hrp.rv
      · rename_i m hag
        obtain ⟨rfl, hm, hK⟩ := hK
        exact key _ _ _ (hev.trans hx) (run_load_agg hte hag (hr.length.trans hm) (fun i v hv => by rw [cell_row hh, Nat.zero_add]; exact hv)) hK rfl ⟨cs, rfl, hr⟩
      · exact hK.elim
    · exact hK.elim
  · exact hK.elim
end
end Go.Gx

/-
  Gx12: parts of structs and arrays; a slot takes over something new.
  Conditions: none; laws for the machine's soundness.
-/
namespace Go.Gx
open Go

section
variable {P : Program} {C : Ctx} {E : Env} {S S' : Nat → Prop} {A : Fr} {a : Act} {w w' : World} {K : Fr → Prop} {next : Act → World → Prop} {Q : Exit → Act → World → Prop} {o : Oper}

theorem run_part_sc (hte : teOK P E.te = true) {T : TypeId} (h : aggOf E T = .sc) {cs : Array Value} {off : Nat} {y : Value} (hy : cs[off]? = some y) : (part T cs off).run P w = .ok y w := by
  simp [part, (agg_sc hte h).1, hy]
theorem run_part_agg (hte : teOK P E.te = true) {T : TypeId} {m : Nat} (h : aggOf E T = .agg m) (cs : List Value) (off : Nat) : (part T cs.toArray off).run P w = .ok (.agg ((cs.drop off).take m).toArray) w := by
  have : cs.toArray.extract off (off + m) = ((cs.drop off).take m).toArray := by
    apply Array.ext'
    simp
  simp only [part, Sem.run_bind, (agg_agg hte h).1, (agg_agg hte h).2, Result.andThen_ok, if_true, Sem.run_pure, this]
theorem ex_field {ρ : Operand → Value} {T : TypeId} {x : Operand} {f : Nat} (hop : o.op = .field T x f) :
    execOp ρ o = (do let r ← Instr.field T (ρ x) f; pure (Next.value r) : Sem Next) := by
  unfold execOp; rw [hop]
theorem ex_index {ρ : Operand → Value} {T : TypeId} {x i : Operand} (hop : o.op = .index T x i) :
    execOp ρ o = (do let r ← Instr.index T (ρ x) (ρ i); pure (Next.value r) : Sem Next) := by
  unfold execOp; rw [hop]
theorem field_ok {T : TypeId} {x : Operand} {f : Nat} (hop : o.op = .field T x f) (hte : teOK P E.te = true) (h : Inv C E.n S A a w) (hK : afield E A o.dst T x f K) (hn : Nx C E.n S K next) : PWP P o a w next := by
  unfold afield at hK
  split at hK
  · rename_i l fs n z hx hT
    split at hK
    · rename_i off ft sz hfs
      obtain ⟨fs', hu, hf, _⟩ := te_strct hte hT
      obtain ⟨fd, hfd, rfl, rfl, _⟩ := field_fact hf hfs
      obtain ⟨cs, hev, hr⟩ := eval_opd h hx
      have key : ∀ (y : Value) (v : AV), (∀ w', (part fd.type cs.toArray fd.offset).run P w' = .ok y w') → fin E.n o.dst A v K → v.owner = false → RV S C.L w (rho a) v y → PWP P o a w next := by
        intro y v hp hK hv hrv
        refine pwp_value (x := y) ?_ (fin_ok h hK hrv (owned_non hv _ _) hn)
        intro w'
        rw [ex_field hop, hev]
        simp [Instr.field, run_underlying hu, arr_get hfd, asAgg, hp]
      split at hK
      · exact hK.elim
      · rename_i hsc
        split at hK
        all_goals (try (exact hK.elim))
        all_goals
          rename_i hlo
          obtain ⟨y, hy, hry⟩ := hr.get hlo
          exact key y _ (fun _ => run_part_sc hte hsc (by simpa using hy)) hK rfl hry.rv
      · rename_i m hag
        split at hK
        · exact key _ _ (fun _ => run_part_agg hte hag cs fd.offset) hK rfl ⟨_, rfl, hr.part fd.offset m⟩
        · exact hK.elim
    · exact hK.elim
  · exact hK.elim
theorem Cells.part {c : Sq} {cs : List Value} (h : Cells S w c cs) (lo hi : Nat) : Cells S w (c.cut lo hi) ((cs.take hi).drop lo) := by
  cases c with
  | ints k l => simp only [Cells] at h ⊢; subst h; simp [Sq.cut]
  | bools l => simp only [Cells] at h ⊢; subst h; simp [Sq.cut]
  | rows l => exact (All2.take hi h).drop lo
  | rows2 l => exact (All2.take hi h).drop lo
theorem Cells.top {c : Sq} {cs : List Value} (h : Cells S w c cs) (hi : Nat) : Cells S w (c.top hi) (cs.take hi) := by
  cases c with
  | ints k l => simp only [Cells] at h ⊢; subst h; simp [Sq.top]
  | bools l => simp only [Cells] at h ⊢; subst h; simp [Sq.top]
  | rows l => exact All2.take hi h
  | rows2 l => exact All2.take hi h
theorem index_ok {T : TypeId} {x i : Operand} (hop : o.op = .index T x i) (hte : teOK P E.te = true) (h : Inv C E.n S A a w) (hK : aindex E A o.dst T x i K) (hn : Nx C E.n S K next) : PWP P o a w next := by
  unfold aindex at hK
  split at hK
  · rename_i k n m e es z c hi hT hx
    obtain ⟨hlen, h0, hlt, hK⟩ := hK
    obtain ⟨hu, hes, hes0, _⟩ := te_arr hte hT
    have ei := eval_pv h hi
    obtain ⟨cs, hev, hr⟩ := eval_opd h hx
    have hr : Cells S w c cs := hr
    have key : ∀ (y : Value) (v : AV), (∀ w', (part e cs.toArray (n.toNat * es)).run P w' = .ok y w') → fin E.n o.dst A v K → v.owner = false → RV S C.L w (rho a) v y → PWP P o a w next := by
      intro y v hp hK hv hrv
      refine pwp_value (x := y) ?_ (fin_ok h hK hrv (owned_non hv _ _) hn)
      intro w'
      rw [ex_index hop, hev, ei]
      simp [Instr.index, run_underlying hu, asIntOf, h0, hlt, cellsOf_run hes hes0, hp]
    split at hK
    · exact hK.elim
    · rename_i hsc
      obtain ⟨rfl, hK⟩ := hK
      obtain ⟨v, y, hy, hrp, hv, hK⟩ := get_ok (C := C) hr hK
      exact key y v (fun _ => run_part_sc hte hsc (by simpa using hy)) hK hv hrp.rv
    · rename_i k hag
      obtain ⟨rfl, hK⟩ := hK
      refine key _ _ (fun _ => run_part_agg hte hag cs _) hK rfl ⟨_, rfl, ?_⟩
      have := hr.part (n.toNat * k) (n.toNat * k + k)
      have e1 : (cs.take (n.toNat * k + k)).drop (n.toNat * k) = (cs.drop (n.toNat * k)).take k := by
        rw [List.take_drop]
      rw [e1] at this
      exact this
  · exact hK.elim

/-- A slot takes over what is new, or what untouched slots do not hold. -/
theorem Inv.own {n : Rg} (h : Inv C n S A a w) {d : Nat} {v : AV} {x : Value} (M G₀ : Nat → Prop) (A₁ : Fr) (hd : n.has d = true) (hm : Mod M w w') (hM : ∀ b, M b → mine A a w G₀ b)
    (hk : (A₁.map (·.1)).Nodup) (hbx : Bxs A₁)
    (hA : ∀ s u, look s A₁ = some u → look s A = some u ∧ ¬ G₀ s ∧ ∀ t, t ∈ u.fref → ¬ G₀ t)
    (hv : RV S C.L w' (rho a) v x) (hvo : v.owner = true) (hnd : (owned w' v x).Nodup) (hown : ∀ b, b ∈ owned w' v x → mine A a w G₀ b ∨ w.heap.size ≤ b) :
    Inv C n S (setd d v A₁) (a.put (some d) x) w' := by
  have hd' : d < a.tmps.size := by rw [h.size]; exact (Rg.has_ok hd).2
  have hrf : v.ref = [] := by cases v <;> first | rfl | (simp [AV.owner] at hvo)
  have hff : v.fref = [] := by cases v <;> first | rfl | (simp [AV.owner] at hvo)
  have hmine : ∀ b, mine A a w G₀ b → mine A a w (fun s => s = d ∨ G₀ s) b := fun b ⟨s, v, hg, hl, hb⟩ => ⟨s, v, .inr hg, hl, hb⟩
  refine h.step M (fun s => s = d ∨ G₀ s) hm (fun b hb => hmine b (hM b hb)) (by simp [h.size]) (fun i hi => rho_put_ne (by have := (Rg.has_ok hd).1; omega)) (by simp) (nodup_setd hk _ _) (hbx.setd hk (by rw [hrf]; simp) (by rw [hff]; simp))
    (fun _ hb => hb) (fun _ hb => .inl hb) ?_ ?_ ?_
  · intro s u hg hs
    rcases look_setd hk hs with ⟨e, _⟩ | ⟨h1, h2, h3⟩
    · exact (hg (.inl e)).elim
    · obtain ⟨h4, h5, h6⟩ := hA s u h2
      refine ⟨h4, rho_put_ne h1, fun t ht => rho_put_ne (fun e => h3 (e ▸ ht)), fun t ht hgt => ?_⟩
      rcases hgt with rfl | hgt
      · exact (h3 (fref_ref ht)).elim
      · exact (h6 t ht hgt).elim
  · intro s u hg hs
    rcases look_setd hk hs with ⟨rfl, rfl⟩ | ⟨h1, h2, h3⟩
    · have hx : rho (a.put (some s) x) s = x := by rw [rho_put hd']; simp
      rw [hx]
      refine ⟨RV.keep (fun _ hb => hb) (fun _ _ => rfl) hv (fun t ht => by rw [hrf] at ht; simp at ht) (fun _ _ => rfl), hnd, fun b hb => ⟨fun hS => ?_, ?_⟩⟩
      · rcases hown b hb with hb | hb
        · exact (h.mine_apart hb).1 hS
        · have := h.lt b (.inl hS); omega
      · exact (hown b hb).imp (hmine b) id
    · rcases hg with e | e
      · exact (h1 e).elim
      · exact ((hA s u h2).2.1 e).elim
  · intro s u k v' hs hk' hne hls hlk
    have only : ∀ {s : Nat} {u : AV}, (s = d ∨ G₀ s) → look s (setd d v A₁) = some u → s = d := by
      intro s u hg hs
      rcases look_setd hk hs with ⟨rfl, rfl⟩ | ⟨h1, h2, h3⟩
      · rfl
      · rcases hg with e | e
        · exact e
        · exact ((hA s u h2).2.1 e).elim
    exact (hne ((only hs hls).trans (only hk' hlk).symm)).elim
theorem fin1_ok {n : Rg} {dst : Option Nat} {v : AV} {A₁ : Fr} {x : Value} (hK : fin1 n dst A₁ v K) (hi : ∀ d, dst = some d → n.has d = true → ∃ S', (∀ b, S b → S' b) ∧ Inv C n S' (setd d v A₁) (a.put (some d) x) w') (hn : Nx C n S K next) : next (a.put dst x) w' := by
  cases dst with
  | none => exact hK.elim
  | some d =>
    simp only [fin1] at hK
    split at hK
    · rename_i hd
      obtain ⟨S', hS, hi⟩ := hi d rfl hd
      exact hn _ _ _ S' hi hS hK
    · exact hK.elim
end
end Go.Gx

/-
  Gx13: what makes something new keeps the invariant.
  Conditions: none; laws for the machine's soundness.
-/
namespace Go.Gx
open Go

section
variable {P : Program} {C : Ctx} {E : Env} {S S' : Nat → Prop} {A : Fr} {a : Act} {w w' : World} {K : Fr → Prop} {next : Act → World → Prop} {Q : Exit → Act → World → Prop} {o : Oper}

theorem RPs.ownF {v : AV} {x : Value} (h : RPs S C.L w v x) : ownF v x = [] := by
  have := h.1
  cases v <;> first | rfl | (simp [stat] at this) | (cases x <;> rfl)
theorem RPss.ownFs : ∀ {l : List AV} {cs : List Value}, All2 (RPs S C.L w) l cs → ownFs l cs = []
  | [], [], _ => rfl
  | _ :: _, _ :: _, h => by simp [Gx.ownFs, RPs.ownF (C := C) h.1, RPss.ownFs h.2]
theorem RP.cells {v : AV} {x : Value} (h : RP S C.L w v x) (hj : v ≠ .jk) : x.cells = #[x] := by
  have ro : ∀ Z c, Ro S Z w c x → x.cells = #[x] := by
    intro Z c h
    obtain ⟨a', cap, cs, rfl, _⟩ := h.seg
    rfl
  cases v with
  | pv y =>
    obtain ⟨rfl, hs⟩ := h
    cases x <;> first | rfl | (simp [scal] at hs)
  | jk => exact (hj rfl).elim
  | nl e c => rw [show x = .slice none 0 0 from h.1]; rfl
  | sl c => exact ro _ c h
  | ls c => exact ro _ c h
  | ow e c =>
    rcases Own.form h with ⟨hx, _⟩ | ⟨b, cap, cs, cur, hx, _⟩
    · rw [hx]; rfl
    · rw [hx]; rfl
  | _ => exact h.elim

theorem Inv.freshBx {n : Rg} (h : Inv C n S A a w) {d : Nat} {l : List AV} {cs : List Value} (e : TypeId) (hd : n.has d = true) (hr : All2 (RPs S C.L w) l cs) :
    Inv C n S (setd d (.bx l) A) (a.put (some d) (.pointer (some ⟨w.heap.size, 0, none⟩))) (w.alloc (.cells cs.toArray e)) := by
  have hh := heap_alloc_new w (.cells cs.toArray e)
  have hf := RPss.ownFs hr
  refine h.own (fun _ => False) (fun _ => False) A hd (Mod.alloc w _) (fun _ hb => hb.elim) h.keys h.bxs (fun s u hs => ⟨hs, fun hb => hb, fun _ _ hb => hb⟩) ⟨w.heap.size, e, cs, rfl, hh, ?_⟩ rfl ?_ ?_
  · exact All2.mono (fun _ _ h' => (RPs.keep (fun _ hb => hb) (fun b hb => heap_alloc_old w _ b (h.lt b hb)) h').2) hr
  · simp [owned, rowOf_eq hh, hf]
  · intro b hb
    simp [owned, rowOf_eq hh, hf] at hb
    exact .inr (by omega)
theorem Inv.freshBa {n : Rg} (h : Inv C n S A a w) {d : Nat} {c : Sq} {cs : List Value} (e : TypeId) (hd : n.has d = true) (hr : Cells S w c cs) :
    Inv C n S (setd d (.ba c) A) (a.put (some d) (.pointer (some ⟨w.heap.size, 0, none⟩))) (w.alloc (.cells cs.toArray e)) := by
  have hh := heap_alloc_new w (.cells cs.toArray e)
  refine h.own (fun _ => False) (fun _ => False) A hd (Mod.alloc w _) (fun _ hb => hb.elim) h.keys h.bxs (fun s u hs => ⟨hs, fun hb => hb, fun _ _ hb => hb⟩) ⟨w.heap.size, e, cs, rfl, hh, ?_⟩ rfl ?_ ?_
  · exact hr.keep (fun _ hb => hb) (fun b hb => heap_alloc_old w _ b (h.lt b (.inl hb)))
  · simp [owned]
  · intro b hb
    simp [owned] at hb
    exact .inr (by omega)
theorem mine_one {G : Nat → Prop} {s : Nat} {v : AV} {b : Nat} (hg : G s) (hl : look s A = some v) (hb : b ∈ owned w v (rho a s)) : mine A a w G b := ⟨s, v, hg, hl, hb⟩
theorem Own.owned {e : TypeId} {c : Sq} {x : Value} : ∀ b, b ∈ ownF (.ow e c) x → b ∈ Gx.owned w (.ow e c) x := by
  intro b hb
  revert hb
  cases x with
  | slice p _ _ => cases p <;> exact fun hb => hb
  | _ => exact fun hb => hb
theorem ownF_ow (e : TypeId) (c : Sq) (x : Value) : ownF (.ow e c) x = Gx.owned w (.ow e c) x := by
  cases x with
  | slice p _ _ => cases p <;> rfl
  | _ => rfl
theorem dropR_keep (h : Inv C E.n S A a w) (t : Nat) : ∀ s u, look s (dropR t A) = some u → look s A = some u ∧ ¬ s = t ∧ ∀ k, k ∈ u.fref → ¬ k = t := by
  intro s u hs
  obtain ⟨h1, h2, h3⟩ := look_dropR h.keys hs
  exact ⟨h1, h2, fun k hk e => h3 (e ▸ fref_ref hk)⟩
theorem Inv.freshOw (h : Inv C E.n S A a w) {d t : Nat} {e : TypeId} {c : Sq} (e' : TypeId) (hd : E.n.has d = true) (hl : look t A = some (.ow e c)) :
    Inv C E.n S (setd d (.bx [.ow e c]) (dropR t A)) (a.put (some d) (.pointer (some ⟨w.heap.size, 0, none⟩))) (w.alloc (.cells #[rho a t] e')) := by
  have hh : (w.alloc (.cells #[rho a t] e')).heap[w.heap.size]? = some (.cells [rho a t].toArray e' (0, 0)) := heap_alloc_new w (.cells #[rho a t] e')
  have ho : Own S w e c (rho a t) := h.rel t _ hl
  have hown : owned (w.alloc (.cells #[rho a t] e')) (.bx [.ow e c]) (.pointer (some ⟨w.heap.size, 0, none⟩)) = w.heap.size :: owned w (.ow e c) (rho a t) := by
    simp [owned, rowOf_eq hh, ownFs, ownF_ow (w := w)]
  have hnd := h.nd t _ hl
  have hlt := owned_lt (h.rel t _ hl)
  refine h.own (fun _ => False) (fun s => s = t) (dropR t A) hd (Mod.alloc w _) (fun _ hb => hb.elim) (nodup_dropR h.keys t) (h.bxs.dropR h.keys t) (dropR_keep h t) ⟨w.heap.size, e', [rho a t], rfl, hh, ?_, trivial⟩ rfl ?_ ?_
  · exact RP.keep (v := .ow e c) (L := C.L) (fun _ hb => hb) (fun b hb => heap_alloc_old w _ b (h.lt b hb)) ho (fun b hb => heap_alloc_old w _ b (hlt b (Own.owned b hb)))
  · rw [hown, List.nodup_cons]
    refine ⟨fun hb => ?_, hnd⟩
    have := hlt _ hb
    omega
  · intro b hb
    rw [hown] at hb
    rcases List.mem_cons.1 hb with rfl | hb
    · exact .inr (Nat.le_refl _)
    · exact .inl (mine_one rfl hl hb)

theorem run_newVar {T : TypeId} {x : Value} : (newVar T x).run P w = .ok ⟨w.heap.size, 0, none⟩ (w.alloc (.cells x.cells T)) := by
  simp [newVar, newRow]
theorem ex_box {ρ : Operand → Value} {T : TypeId} {x : Operand} (hop : o.op = .box T x) :
    (execOp ρ o).run P w = .ok (.value (.pointer (some ⟨w.heap.size, 0, none⟩))) (w.alloc (.cells (ρ x).cells T)) := by
  unfold execOp; rw [hop]
  simp [Instr.box, newVar, newRow]
theorem box_ok {T : TypeId} {x : Operand} (hop : o.op = .box T x) (h : Inv C E.n S A a w) (hK : abox E A o.dst x K) (hn : Nx C E.n S K next) : o.wp P a w next Q := by
  have one : ∀ v, opd A x = some v → stat v = true → v ≠ .jk → fin1 E.n o.dst A (.bx [v]) K → o.wp P a w next Q := by
    intro v hx hv hj hK
    have hr := eval_opd h hx
    have hrp : RPs S C.L w v (a.eval x) := ⟨hv, by cases v <;> first | exact hr | (simp [stat] at hv)⟩
    refine wp_value (ex_box hop) (fin1_ok hK (fun d _ hd => ⟨S, fun _ hb => hb, ?_⟩) hn)
    have hc : (a.eval x).cells = [a.eval x].toArray := RP.cells (C := C) hrp.2 hj
    rw [hc]
    exact h.freshBx T hd ⟨hrp, trivial⟩
  unfold abox at hK
  split at hK
  · rename_i v hx; exact one _ hx rfl (by simp) hK
  · rename_i v hx; exact one _ hx rfl (by simp) hK
  · rename_i v hx; exact one _ hx rfl (by simp) hK
  · rename_i e v hx; exact one _ hx rfl (by simp) hK
  · rename_i l hx
    obtain ⟨cs, hev, hr⟩ := eval_opd h hx
    refine wp_value (ex_box hop) (fin1_ok hK (fun d _ hd => ⟨S, fun _ hb => hb, ?_⟩) hn)
    rw [hev]
    exact h.freshBx T hd hr
  · rename_i c hx
    obtain ⟨cs, hev, hr⟩ := eval_opd h hx
    refine wp_value (ex_box hop) (fin1_ok hK (fun d _ hd => ⟨S, fun _ hb => hb, ?_⟩) hn)
    rw [hev]
    exact h.freshBa T hd hr
  · rename_i e c hx
    split at hK
    · rename_i t ht
      cases x with
      | tmp t' =>
        simp [otmp] at ht
        subst ht
        refine wp_value (ex_box hop) (fin1_ok hK (fun d _ hd => ⟨S, fun _ hb => hb, ?_⟩) hn)
        have ho : Own S w e c (rho a t') := h.rel t' _ hx
        have hc : (a.eval (.tmp t')).cells = #[rho a t'] := RP.cells (C := C) (v := .ow e c) ho (by simp)
        rw [hc]
        exact h.freshOw T hd hx
      | _ => simp [otmp] at ht
    · exact hK.elim
  · rename_i s hx
    split at hK
    · rename_i e c hl
      have hev : a.eval x = rho a s := eval_opd h hx
      refine wp_value (ex_box hop) (fin1_ok hK (fun d _ hd => ⟨S, fun _ hb => hb, ?_⟩) hn)
      have ho : Own S w e c (rho a s) := h.rel s _ hl
      have hc : (rho a s).cells = #[rho a s] := RP.cells (C := C) (v := .ow e c) ho (by simp)
      rw [hev, hc]
      exact h.freshOw T hd hl
    · exact hK.elim
  · exact hK.elim

theorem ex_alloc {ρ : Operand → Value} {T : TypeId} {i : TypeInfo} {z : Value} (hop : o.op = .alloc T) (hi : P.info? T = some i) (hz : i.zero = some z) :
    (execOp ρ o).run P w = .ok (.value (.pointer (some ⟨w.heap.size, 0, none⟩))) (w.alloc (.cells z.cells T)) := by
  unfold execOp; rw [hop]
  simp [Instr.alloc, newVar, newRow, zeroValue, typeInfo, hi, hz]
theorem eqI_eq {k : IntKind} : ∀ {l : List Int} {cs : List Value}, eqI k l cs = true → cs = l.map (.int k)
  | [], [], _ => rfl
  | n :: l, c :: r, h => by
    unfold eqI at h
    split at h
    · rename_i h1 h2; cases h1
    · rename_i n' l' k' m r' h1 h2
      cases h1; cases h2
      simp only [Bool.and_eq_true, beq_iff_eq] at h
      obtain ⟨⟨rfl, rfl⟩, h⟩ := h
      rw [eqI_eq h]; rfl
    · simp at h
  | [], _ :: _, h => by simp [eqI] at h
  | _ :: _, [], h => by simp [eqI] at h
theorem eqB_eq : ∀ {l : List Bool} {cs : List Value}, eqB l cs = true → cs = l.map .bool
  | [], [], _ => rfl
  | n :: l, c :: r, h => by
    unfold eqB at h
    split at h
    · rename_i h1 h2; cases h1
    · rename_i n' l' m r' h1 h2
      cases h1; cases h2
      simp only [Bool.and_eq_true, beq_iff_eq] at h
      obtain ⟨rfl, h⟩ := h
      rw [eqB_eq h]; rfl
    · simp at h
  | [], _ :: _, h => by simp [eqB] at h
  | _ :: _, [], h => by simp [eqB] at h
theorem eqSq_cells {c : Sq} {cs : List Value} (h : eqSq c cs = true) : Cells S w c cs := by
  cases c with
  | ints k l => exact eqI_eq h
  | bools l => exact eqB_eq h
  | _ => simp [eqSq] at h
theorem eqZ_rps : ∀ {l : List AV} {cs : List Value}, eqZ l cs = true → All2 (RPs S C.L w) l cs
  | [], [], _ => trivial
  | v :: l, c :: r, h => by
    unfold eqZ at h
    split at h
    · rename_i h1 h2; cases h1
    · rename_i k n l' k' m r' h1 h2
      cases h1; cases h2
      simp only [Bool.and_eq_true, beq_iff_eq] at h
      obtain ⟨⟨rfl, rfl⟩, h⟩ := h
      exact ⟨⟨rfl, rfl, rfl⟩, eqZ_rps h⟩
    · rename_i n l' m r' h1 h2
      cases h1; cases h2
      simp only [Bool.and_eq_true, beq_iff_eq] at h
      obtain ⟨rfl, h⟩ := h
      exact ⟨⟨rfl, rfl, rfl⟩, eqZ_rps h⟩
    · rename_i e c l' r' h1 h2
      cases h1; cases h2
      simp only [Bool.and_eq_true, beq_iff_eq] at h
      exact ⟨⟨rfl, rfl, h.1⟩, eqZ_rps h.2⟩
    · simp at h
  | [], _ :: _, h => by simp [eqZ] at h
  | _ :: _, [], h => by simp [eqZ] at h
theorem te_zero_int (hte : teOK P E.te = true) {T : TypeId} {k : IntKind} (hl : look T E.te = some (.int k)) : ∃ i, P.info? T = some i ∧ i.zero = some (.int k 0) := by
  have h := te_fact hte hl
  unfold tiOK at h
  split at h
  · rename_i d i hd hi
    simp only [Bool.and_eq_true] at h
    obtain ⟨⟨h1, h2⟩, h3⟩ := h
    split at h3
    · rename_i k' n hz
      simp at h3
      exact ⟨i, hi, by rw [hz, h3.1, h3.2]⟩
    · simp at h3
  · simp at h
theorem te_zero_bool (hte : teOK P E.te = true) {T : TypeId} (hl : look T E.te = some .bool) : ∃ i, P.info? T = some i ∧ i.zero = some (.bool false) := by
  have h := te_fact hte hl
  unfold tiOK at h
  split at h
  · rename_i d i hd hi
    simp only [Bool.and_eq_true] at h
    obtain ⟨⟨h1, h2⟩, h3⟩ := h
    split at h3
    · rename_i b hz
      simp at h3
      exact ⟨i, hi, by rw [hz, h3]⟩
    · simp at h3
  · simp at h
theorem alloc_ok {T : TypeId} (hop : o.op = .alloc T) (hte : teOK P E.te = true) (h : Inv C E.n S A a w) (hK : aop E A o K) (hn : Nx C E.n S K next) : o.wp P a w next Q := by
  unfold aop at hK
  rw [hop] at hK
  simp only at hK
  have bx : ∀ (l : List AV) (i : TypeInfo) (z : Value) (cs : List Value), P.info? T = some i → i.zero = some z → z.cells = cs.toArray → All2 (RPs S C.L w) l cs → fin1 E.n o.dst A (.bx l) K → o.wp P a w next Q := by
    intro l i z cs hi hz hc hr hK
    refine wp_value (ex_alloc hop hi hz) (fin1_ok hK (fun d _ hd => ⟨S, fun _ hb => hb, ?_⟩) hn)
    rw [hc]
    exact h.freshBx T hd hr
  have ba : ∀ (c : Sq) (i : TypeInfo) (cs : Array Value), P.info? T = some i → i.zero = some (.agg cs) → eqSq c cs.toList = true → fin1 E.n o.dst A (.ba c) K → o.wp P a w next Q := by
    intro c i cs hi hz hc hK
    refine wp_value (ex_alloc hop hi hz) (fin1_ok hK (fun d _ hd => ⟨S, fun _ hb => hb, ?_⟩) hn)
    have := h.freshBa (cs := cs.toList) T hd (eqSq_cells hc)
    simpa [Value.cells] using this
  split at hK
  · rename_i k hT
    obtain ⟨i, hi, hz⟩ := te_zero_int hte hT
    exact bx [.pv (.int k 0)] i _ [.int k 0] hi hz rfl ⟨⟨rfl, rfl, rfl⟩, trivial⟩ hK
  · rename_i hT
    obtain ⟨i, hi, hz⟩ := te_zero_bool hte hT
    exact bx [.pv (.bool false)] i _ [.bool false] hi hz rfl ⟨⟨rfl, rfl, rfl⟩, trivial⟩ hK
  · rename_i e c hT
    obtain ⟨_, ⟨i, hi, _, hz⟩, j, z, _, _, _, _, _, hez⟩ := te_slice hte hT
    exact bx [.nl e c] i _ [.slice none 0 0] hi hz rfl ⟨⟨rfl, rfl, elemZero_len hez⟩, trivial⟩ hK
  · rename_i n e es z hT
    obtain ⟨_, _, _, i, hi, _, cs, hz, hc⟩ := te_arr hte hT
    exact ba _ i cs hi hz hc hK
  · rename_i fs n z hT
    obtain ⟨_, _, _, i, hi, _, cs, hz, hc⟩ := te_flat hte hT
    exact ba _ i cs hi hz hc hK
  · rename_i fs n z hT
    obtain ⟨_, _, _, i, hi, _, _, cs, hz, hc⟩ := te_strct hte hT
    exact bx _ i _ cs.toList hi hz (by simp [Value.cells]) (eqZ_rps hc) hK
  · exact hK.elim
end
end Go.Gx

/-
  Gx14: struct, array and slice literals, made slices keep the invariant.
  Conditions: none; laws for the machine's soundness.
-/
namespace Go.Gx
open Go

section
variable {P : Program} {C : Ctx} {E : Env} {S S' : Nat → Prop} {A : Fr} {a : Act} {w w' : World} {K : Fr → Prop} {next : Act → World → Prop} {Q : Exit → Act → World → Prop} {o : Oper}

theorem fill_fold : ∀ (ds L : List Value) (off k : Nat), off + k + ds.length ≤ L.length →
    (ds.zipIdx k).foldl (fun cs x => cs.setIfInBounds (off + x.2) x.1) L.toArray = (L.take (off + k) ++ ds ++ L.drop (off + k + ds.length)).toArray
  | [], L, off, k, _ => by simp
  | d :: ds, L, off, k, h => by
    simp only [List.zipIdx_cons, List.foldl_cons]
    have e : L.toArray.setIfInBounds (off + k) d = (L.set (off + k) d).toArray := by simp
    rw [e, fill_fold ds (L.set (off + k) d) off (k + 1) (by simp at h ⊢; omega)]
    congr 1
    simp only [List.length_cons] at h ⊢
    have h1 : (L.set (off + k) d).take (off + (k + 1)) = L.take (off + k) ++ [d] := by
      rw [show off + (k + 1) = off + k + 1 by omega, List.take_add_one]
      rw [List.take_set_of_le (Nat.le_refl _)]
      simp [show off + k < L.length by omega]
    have h2 : (L.set (off + k) d).drop (off + (k + 1) + ds.length) = L.drop (off + k + (ds.length + 1)) := by
      rw [List.drop_set_of_lt (by omega)]
      congr 1
      omega
    rw [h1, h2]
    simp
theorem fill_step {place : Nat → Option (Nat × Nat)} {i off : Nat} {x : Value} {r : List (Nat × Value)} {L ds : List Value} (hp : place i = some (off, ds.length)) (hx : x.cells = ds.toArray) (hl : off + ds.length ≤ L.length) :
    Instr.fill place L.toArray ((i, x) :: r) = Instr.fill place (L.take off ++ ds ++ L.drop (off + ds.length)).toArray r := by
  have h1 : ¬ (ds.length ≠ ds.length ∨ L.length < off + ds.length) := by omega
  have h2 := fill_fold ds L off 0 (by omega)
  simp only [Nat.add_zero] at h2
  simp only [Instr.fill, hp, hx, List.size_toArray]
  rw [if_neg (by simpa using hl)]
  congr 1
  rw [← h2]
  simp

/-- A part of a literal: its cells. -/
def RB (S L : Nat → Prop) (w : World) (v : AV) (x : Value) : Prop := ∃ l ds, partsOf v = some l ∧ x.cells = List.toArray ds ∧ All2 (RPs S L w) l ds
theorem RB.keep {v : AV} {x : Value} (h : RB S C.L w v x) (hS : ∀ b, S b → S' b) : RB S' C.L w v x :=
  let ⟨l, ds, h1, h2, h3⟩ := h
  ⟨l, ds, h1, h2, All2.mono (fun _ _ h => RPs.keep hS (fun _ _ => rfl) h) h3⟩
theorem RPs.rb {v : AV} {x : Value} (h : RPs S C.L w v x) (hj : v ≠ .jk) : RB S C.L w v x := by
  have hc := RP.cells (C := C) h.2 hj
  have hs := h.1
  cases v with
  | pv y => exact ⟨_, [x], rfl, hc, h, trivial⟩
  | sl c => exact ⟨_, [x], rfl, hc, h, trivial⟩
  | ls c => exact ⟨_, [x], rfl, hc, h, trivial⟩
  | nl e c => exact ⟨_, [x], rfl, hc, h, trivial⟩
  | jk => exact (hj rfl).elim
  | _ => simp [stat] at hs
theorem frzV_ok : ∀ {xs : List Operand} {A A' : Fr} {vs : List AV} {S : Nat → Prop}, Inv C E.n S A a w → frzV A xs = some (A', vs) →
    ∃ S', (∀ b, S b → S' b) ∧ Inv C E.n S' A' a w ∧ All2 (RB S' C.L w) vs (xs.map a.eval)
  | [], A, A', vs, S, h, hf => by
    simp [frzV] at hf
    obtain ⟨rfl, rfl⟩ := hf
    exact ⟨S, fun _ hb => hb, h, trivial⟩
  | x :: xs, A, A', vs, S, h, hf => by
    unfold frzV at hf
    split at hf
    · rename_i l hx
      split at hf
      · rename_i A₁ vs' hr
        simp at hf
        obtain ⟨rfl, rfl⟩ := hf
        obtain ⟨S', hS, hi, ha⟩ := frzV_ok h hr
        obtain ⟨cs, hev, hcs⟩ := eval_opd h hx
        exact ⟨S', hS, hi, RB.keep ⟨l, cs, rfl, by rw [hev]; rfl, hcs⟩ hS, ha⟩
      · simp at hf
    · rename_i v _ hx
      split at hf
      · rename_i A₁ v' hz
        split at hf
        · rename_i A₂ vs' hr
          simp at hf
          obtain ⟨rfl, rfl⟩ := hf
          obtain ⟨S₁, hS₁, hi₁, hrp, hj⟩ := frz_ok h hx hz
          obtain ⟨S', hS, hi, ha⟩ := frzV_ok hi₁ hr
          exact ⟨S', fun b hb => hS b (hS₁ b hb), hi, RB.keep (RPs.rb hrp hj) hS, ha⟩
        · simp at hf
      · simp at hf
    · simp at hf
theorem place_ok {fs : List (Nat × TypeId × Nat)} {pl : Nat → Option (Nat × Nat)} (hpl : ∀ i o t s, fs[i]? = some (o, t, s) → pl i = some (o, s)) :
    ∀ {is : List Nat} {vs : List AV} {xs : List Value} {z : List AV} {cs : List Value} {l : List AV}, All2 (RB S C.L w) vs xs → All2 (RPs S C.L w) z cs → place fs z (is.zip vs) = some l →
    ∃ ds, Instr.fill pl cs.toArray (is.zip xs) = some (List.toArray ds) ∧ All2 (RPs S C.L w) l ds
  | [], vs, xs, z, cs, l, _, hz, h => by
    simp [place] at h
    subst h
    exact ⟨cs, by simp [Instr.fill], hz⟩
  | i :: is, [], [], z, cs, l, _, hz, h => by
    simp [place] at h
    subst h
    exact ⟨cs, by simp [Instr.fill], hz⟩
  | i :: is, v :: vs, x :: xs, z, cs, l, hv, hz, h => by
    simp only [List.zip_cons_cons, place] at h
    split at h
    · rename_i off t sz ls hf hp
      obtain ⟨l', ds, h1, h2, h3⟩ := hv.1
      rw [hp] at h1
      simp at h1
      subst h1
      split at h
      · rename_i hc
        simp only [Bool.and_eq_true, beq_iff_eq, decide_eq_true_eq] at hc
        obtain ⟨hsz, hfit⟩ := hc
        have hlen : ds.length = sz := h3.length.trans hsz
        have hzl := hz.length
        obtain ⟨es, he, hes⟩ := place_ok hpl (cs := cs.take off ++ ds ++ cs.drop (off + sz)) hv.2 (((hz.take off).append h3).append (hz.drop (off + sz))) h
        refine ⟨es, ?_, hes⟩
        rw [List.zip_cons_cons, fill_step (off := off) (ds := ds) (by rw [hpl i off t sz hf, hlen]) h2 (by omega), hlen]
        exact he
      · simp at h
    · simp at h
/-- What is built of one piece, for any reading of the parts. -/
def RBG (R : AV → Value → Prop) (v : AV) (x : Value) : Prop := ∃ l ds, partsOf v = some l ∧ x.cells = List.toArray ds ∧ All2 R l ds
theorem place_okG {R : AV → Value → Prop} {fs : List (Nat × TypeId × Nat)} {pl : Nat → Option (Nat × Nat)} (hpl : ∀ i o t s, fs[i]? = some (o, t, s) → pl i = some (o, s)) :
    ∀ {is : List Nat} {vs : List AV} {xs : List Value} {z : List AV} {cs : List Value} {l : List AV}, All2 (RBG R) vs xs → All2 R z cs → place fs z (is.zip vs) = some l →
    ∃ ds, Instr.fill pl cs.toArray (is.zip xs) = some (List.toArray ds) ∧ All2 R l ds
  | [], vs, xs, z, cs, l, _, hz, h => by
    simp [place] at h
    subst h
    exact ⟨cs, by simp [Instr.fill], hz⟩
  | i :: is, [], [], z, cs, l, _, hz, h => by
    simp [place] at h
    subst h
    exact ⟨cs, by simp [Instr.fill], hz⟩
  | i :: is, v :: vs, x :: xs, z, cs, l, hv, hz, h => by
    simp only [List.zip_cons_cons, place] at h
    split at h
    · rename_i off t sz ls hf hp
      obtain ⟨l', ds, h1, h2, h3⟩ := hv.1
      rw [hp] at h1
      simp at h1
      subst h1
      split at h
      · rename_i hc
        simp only [Bool.and_eq_true, beq_iff_eq, decide_eq_true_eq] at hc
        obtain ⟨hsz, hfit⟩ := hc
        have hlen : ds.length = sz := h3.length.trans hsz
        have hzl := hz.length
        obtain ⟨es, he, hes⟩ := place_okG hpl (cs := cs.take off ++ ds ++ cs.drop (off + sz)) hv.2 (((hz.take off).append h3).append (hz.drop (off + sz))) h
        refine ⟨es, ?_, hes⟩
        rw [List.zip_cons_cons, fill_step (off := off) (ds := ds) (by rw [hpl i off t sz hf, hlen]) h2 (by omega), hlen]
        exact he
      · simp at h
    · simp at h
theorem placeF_ok {off : Nat → Option Nat} {pl : Nat → Option (Nat × Nat)} (hpl : ∀ i o, off i = some o → pl i = some (o, 1)) :
    ∀ {is : List Nat} {vs : List AV} {xs : List Value} {z : Sq} {cs : List Value} {c : Sq}, All2 (RB S C.L w) vs xs → Cells S w z cs → placeF off z (is.zip vs) = some c →
    ∃ ds, Instr.fill pl cs.toArray (is.zip xs) = some (List.toArray ds) ∧ Cells S w c ds
  | [], vs, xs, z, cs, l, _, hz, h => by
    simp [placeF] at h
    subst h
    exact ⟨cs, by simp [Instr.fill], hz⟩
  | i :: is, [], [], z, cs, l, _, hz, h => by
    simp [placeF] at h
    subst h
    exact ⟨cs, by simp [Instr.fill], hz⟩
  | i :: is, v :: vs, x :: xs, z, cs, l, hv, hz, h => by
    obtain ⟨l', ds, h1, h2, h3⟩ := hv.1
    simp only [List.zip_cons_cons] at h
    have one : ∀ (y : Value) (o : Nat) (c' : Sq), l' = [.pv y] → off i = some o → o < cs.length → Cells S w c' (cs.set o y) → placeF off c' (is.zip vs) = some l →
        ∃ ds, Instr.fill pl cs.toArray ((i :: is).zip (x :: xs)) = some (List.toArray ds) ∧ Cells S w l ds := by
      intro y o c' hl ho hlt hc hp
      subst hl
      have h3l := h3.length
      match ds, h3l, h3, h2 with
      | [d], _, h3, h2 =>
        have hd : d = y := h3.1.2.1
        subst hd
        obtain ⟨es, he, hes⟩ := placeF_ok hpl hv.2 hc hp
        refine ⟨es, ?_, hes⟩
        rw [List.zip_cons_cons, fill_step (off := o) (ds := [d]) (hpl i o ho) h2 (by simp; omega)]
        rw [← he]
        congr 1
        rw [List.set_eq_take_append_cons_drop]
        simp [hlt]
    unfold placeF at h
    split at h
    · rename_i h0; cases h0
    · rename_i k l0 i' k' n r h0
      cases h0
      split at h
      · rename_i o ho
        split at h
        · rename_i hc
          simp only [Bool.and_eq_true, beq_iff_eq, decide_eq_true_eq] at hc
          obtain ⟨rfl, hlt⟩ := hc
          simp only [Cells] at hz
          subst hz
          exact one (.int k n) o _ (by simpa [partsOf] using h1.symm) ho (by simpa using hlt) (by simp [Cells, List.map_set]) h
        · simp at h
      · simp at h
    · rename_i l0 i' n r h0
      cases h0
      split at h
      · rename_i o ho
        split at h
        · rename_i hlt
          simp only [Cells] at hz
          subst hz
          exact one (.bool n) o _ (by simpa [partsOf] using h1.symm) ho (by simpa using hlt) (by simp [Cells, List.map_set]) h
        · simp at h
      · simp at h
    · simp at h
theorem parts_zip (parts : Array (Nat × Operand)) (ρ : Operand → Value) : (parts.map fun (i, x) => (i, ρ x)).toList = (parts.toList.map (·.1)).zip ((parts.toList.map (·.2)).map ρ) := by
  simp only [Array.toList_map]
  induction parts.toList with
  | nil => rfl
  | cons p l ih => simp [ih]
theorem places_run {fs' : List Field} : ∀ {fs : List (Nat × TypeId × Nat)}, fieldsOK P fs' fs = true → fs'.mapM (fun f => (P.info? f.type).map fun i => (f.offset, i.size)) = some (fs.map fun f => (f.1, f.2.2)) := by
  induction fs' with
  | nil => intro fs h; cases fs <;> simp_all [fieldsOK]
  | cons f r ih =>
    intro fs h
    cases fs with
    | nil => simp [fieldsOK] at h
    | cons g fs =>
      obtain ⟨o', t', s'⟩ := g
      simp only [fieldsOK, Bool.and_eq_true, beq_iff_eq, decide_eq_true_eq] at h
      obtain ⟨⟨⟨⟨h1, h2⟩, h3⟩, h4⟩, h5⟩ := h
      subst h1 h2
      have hi : ∃ i, P.info? f.type = some i ∧ i.size = s' := by
        unfold Program.cellsOf at h3
        cases hi : P.info? f.type with
        | none => simp [hi] at h3; omega
        | some i => exact ⟨i, rfl, by simpa [hi] using h3⟩
      obtain ⟨i, hi, hs⟩ := hi
      simp [List.mapM_cons, hi, ih h5, hs]
theorem ex_build {ρ : Operand → Value} {T : TypeId} {parts : Array (Nat × Operand)} (hop : o.op = .build T parts) :
    execOp ρ o = (do let r ← Instr.build T (parts.map fun (i, x) => (i, ρ x)); pure (Next.value r) : Sem Next) := by
  unfold execOp; rw [hop]
theorem build_ok {T : TypeId} {parts : Array (Nat × Operand)} (hop : o.op = .build T parts) (hte : teOK P E.te = true) (h : Inv C E.n S A a w) (hK : abuild E A o.dst T parts.toList K) (hn : Nx C E.n S K next) : o.wp P a w next Q := by
  unfold abuild at hK
  split at hK
  · exact hK.elim
  · rename_i A' vs hf
    obtain ⟨S', hS, hi, ha⟩ := frzV_ok h hf
    have key : ∀ (ds : List Value) (v : AV), P.built T ((parts.toList.map (·.1)).zip ((parts.toList.map (·.2)).map a.eval)) = some (List.toArray ds) → fin E.n o.dst A' v K → v.owner = false → RV S' C.L w (rho a) v (.agg ds.toArray) → o.wp P a w next Q := by
      intro ds v hb hK hv hrv
      refine wp_value (x := .agg ds.toArray) ?_ (fin_ok hi hK hrv (owned_non hv _ _) (hn.mono hS))
      rw [ex_build hop, Sem.run_bind, run_build w T _ ds.toArray (by rw [parts_zip]; exact hb)]
      rfl
    split at hK
    · rename_i fs n z hT
      split at hK
      · rename_i l hp
        obtain ⟨fs', hu, hfo, i, hi', _, _, cs, hz, hez⟩ := te_strct hte hT
        obtain ⟨ds, hd, hr⟩ := place_ok (S := S') (C := C) (w := w) (pl := (fun x => (fs.map fun f => (f.1, f.2.2)).toArray[x]?)) (cs := cs.toList) (fun i o t s hi => by simp [hi]) ha (eqZ_rps hez) hp
        refine key ds _ ?_ hK rfl ⟨ds, rfl, hr⟩
        simp only [Program.built, hi', hu, hz, places_run hfo, Value.cells]
        simpa using hd
      · exact hK.elim
    · rename_i fs n z hT
      split at hK
      · rename_i l hp
        obtain ⟨fs', hu, hfo, i, hi', _, cs, hz, hez⟩ := te_flat hte hT
        obtain ⟨ds, hd, hr⟩ := placeF_ok (S := S') (C := C) (w := w) (pl := (fun x => (fs.map fun f => (f.1, f.2.2)).toArray[x]?)) (cs := cs.toList) (fun i o hi => by
          unfold fieldAt1 at hi
          split at hi
          · rename_i o' t s hf
            split at hi
            · rename_i hs
              simp at hi hs
              simp [hf, hi, hs]
            · simp at hi
          · simp at hi) ha (eqSq_cells hez) hp
        refine key ds _ ?_ hK rfl ⟨ds, rfl, hr⟩
        simp only [Program.built, hi', hu, hz, places_run hfo, Value.cells]
        simpa using hd
      · exact hK.elim
    · rename_i m e es z hT
      split at hK
      · rename_i l hp
        obtain ⟨hu, hes, _, i, hi', _, cs, hz, hez⟩ := te_arr hte hT
        have hie : ∃ ie, P.info? e = some ie ∧ ie.size = es := by
          unfold Program.cellsOf at hes
          cases hi : P.info? e with
          | none => simp [hi] at hes; omega
          | some i => exact ⟨i, rfl, by simpa [hi] using hes⟩
        obtain ⟨ie, hie, h1⟩ := hie
        obtain ⟨ds, hd, hr⟩ := placeF_ok (S := S') (C := C) (w := w) (pl := (fun i => some (i * ie.size, ie.size))) (cs := cs.toList) (fun i o hi => by
          split at hi
          · rename_i he
            simp at hi he
            simp [hi, h1, he]
          · simp at hi) ha (eqSq_cells hez) hp
        refine key ds _ ?_ hK rfl ⟨ds, rfl, hr⟩
        simp only [Program.built, hi', hu, hz, hie, Value.cells]
        simpa using hd
      · exact hK.elim
    · exact hK.elim
end
end Go.Gx

/-
  Gx15: slice literals, made slices, append keep the invariant.
  Conditions: none; laws for the machine's soundness.
-/
namespace Go.Gx
open Go

section
variable {P : Program} {C : Ctx} {E : Env} {S S' : Nat → Prop} {A : Fr} {a : Act} {w w' : World} {K : Fr → Prop} {next : Act → World → Prop} {Q : Exit → Act → World → Prop} {o : Oper}

theorem frzAll_ok : ∀ {xs : List Operand} {A A' : Fr} {vs : List AV} {S : Nat → Prop}, Inv C E.n S A a w → frzAll A xs = some (A', vs) →
    ∃ S', (∀ b, S b → S' b) ∧ Inv C E.n S' A' a w ∧ All2 (fun v x => RPs S' C.L w v x ∧ v ≠ .jk) vs (xs.map a.eval)
  | [], A, A', vs, S, h, hf => by
    simp [frzAll] at hf
    obtain ⟨rfl, rfl⟩ := hf
    exact ⟨S, fun _ hb => hb, h, trivial⟩
  | x :: xs, A, A', vs, S, h, hf => by
    unfold frzAll at hf
    split at hf
    · rename_i A₁ v' hz
      split at hf
      · rename_i A₂ vs' hr
        simp at hf
        obtain ⟨rfl, rfl⟩ := hf
        unfold frzO at hz
        cases hx : opd A x with
        | none => simp [hx] at hz
        | some v =>
          simp [hx] at hz
          obtain ⟨S₁, hS₁, hi₁, hrp, hj⟩ := frz_ok h hx hz
          obtain ⟨S', hS, hi, ha⟩ := frzAll_ok hi₁ hr
          exact ⟨S', fun b hb => hS b (hS₁ b hb), hi, ⟨RPs.keep hS (fun _ _ => rfl) hrp, hj⟩, ha⟩
      · simp at hf
    · simp at hf
theorem ro_row {l : List Int} {x : Value} (h : Ro S S w (.ints .i64 l) x) : Row S w l x := by
  obtain ⟨cs, hc, hs⟩ := h
  simp only [Cells] at hc
  subst hc
  exact hs
theorem len0_row {l : List Int} (h : (Sq.ints .i64 l).len = 0) : Row S w l (.slice none 0 0) := by
  simp [Sq.len] at h
  subst h
  exact ⟨none, 0, rfl, by simp, .inl rfl⟩
theorem mk_ok : ∀ {vs : List AV} {xs : List Value} {c c' : Sq} {cs : List Value}, Cells S w c cs → All2 (fun v x => RPs S C.L w v x ∧ v ≠ .jk) vs xs → Sq.mk c vs = some c' → Cells S w c' (cs ++ xs)
  | [], [], c, c', cs, hc, _, h => by
    simp [Sq.mk] at h
    subst h
    simpa using hc
  | v :: vs, x :: xs, c, c', cs, hc, hr, h => by
    have next : ∀ c₁, Cells S w c₁ (cs ++ [x]) → Sq.mk c₁ vs = some c' → Cells S w c' (cs ++ x :: xs) := by
      intro c₁ h1 h2
      have := mk_ok h1 hr.2 h2
      simpa using this
    have hrp := hr.1.1.2
    unfold Sq.mk at h
    split at h
    · rename_i h0; cases h0
    · rename_i k l k' n r h0
      cases h0
      split at h
      · rename_i hk
        simp at hk
        subst hk
        simp only [Cells] at hc
        subst hc
        exact next _ (by simp [Cells, show x = .int k n from hrp.1]) h
      · simp at h
    · rename_i l n r h0
      cases h0
      simp only [Cells] at hc
      subst hc
      exact next _ (by simp [Cells, show x = .bool n from hrp.1]) h
    · rename_i l x' r h0
      cases h0
      exact next (.rows (l ++ [x'])) (All2.append (as' := [x']) (bs' := [x]) hc ⟨ro_row hrp, trivial⟩) h
    · rename_i l e x' r h0
      cases h0
      refine next (.rows (l ++ [x'])) (All2.append (as' := [x']) (bs' := [x]) hc ⟨?_, trivial⟩) h
      rw [show x = .slice none 0 0 from hrp.1]
      exact len0_row hrp.2
    · rename_i l x' r h0
      cases h0
      exact next (.rows2 (l ++ [x'])) (All2.append (as' := [x']) (bs' := [x]) hc ⟨hrp, trivial⟩) h
    · simp at h
theorem fill_dense {pl : Nat → Option (Nat × Nat)} (hpl : ∀ i, pl i = some (i, 1)) : ∀ (xs L : List Value) (k : Nat), (∀ x, x ∈ xs → x.cells = #[x]) → k + xs.length ≤ L.length →
    Instr.fill pl L.toArray ((List.range' k xs.length).zip xs) = some (L.take k ++ xs ++ L.drop (k + xs.length)).toArray
  | [], L, k, _, _ => by simp [Instr.fill]
  | x :: xs, L, k, hx, hl => by
    simp only [List.length_cons, List.range'_succ, List.zip_cons_cons] at hl ⊢
    rw [fill_step (off := k) (ds := [x]) (hpl k) (hx x (List.mem_cons_self ..)) (by simp; omega)]
    have := fill_dense hpl xs (L.take k ++ [x] ++ L.drop (k + [x].length)) (k + 1) (fun y hy => hx y (List.mem_cons_of_mem _ hy)) (by simp; omega)
    rw [this]
    congr 2
    have h1 : (L.take k ++ [x] ++ L.drop (k + [x].length)).take (k + 1) = L.take k ++ [x] := by
      rw [List.take_append_of_le_length (by simp; omega), List.take_of_length_le (by simp; omega)]
    have h2 : (L.take k ++ [x] ++ L.drop (k + [x].length)).drop (k + 1 + xs.length) = L.drop (k + (xs.length + 1)) := by
      rw [List.drop_append, List.drop_of_length_le (by simp; omega)]
      simp
      congr 1
      omega
    rw [h1, h2]
    simp

/-- A new row for a slot. -/
theorem Inv.freshRow {n : Rg} (h : Inv C n S A a w) {d : Nat} {c : Sq} {cs : List Value} (w₁ : World) (hw : Mod (fun _ => False) w w₁) (e : TypeId) (len cap : Nat) (cur : Array Value) (hd : n.has d = true)
    (hc : Cells S w c cs) (hr : (w₁.alloc (.cells cur e)).ownsRow 0 e 1 (.slice (some ⟨w.heap.size, 0, none⟩) len cap) cs.length cs) :
    Inv C n S (setd d (.ow e c) A) (a.put (some d) (.slice (some ⟨w.heap.size, 0, none⟩) len cap)) (w₁.alloc (.cells cur e)) := by
  have hm : Mod (fun _ => False) w (w₁.alloc (.cells cur e)) := Mod.trans hw (Mod.alloc w₁ _) (fun _ _ hb => hb)
  refine h.own (fun _ => False) (fun _ => False) A hd hm (fun _ hb => hb.elim) h.keys h.bxs (fun s u hs => ⟨hs, fun hb => hb, fun _ _ hb => hb⟩) ?_ rfl ?_ ?_
  · exact ⟨cs, hc.keep (fun _ hb => hb) (fun b hb => hm.block b (h.lt b (.inl hb)) (fun h => h)), hr⟩
  · simp [owned]
  · intro b hb
    simp [owned] at hb
    exact .inr (by omega)

theorem ex_buildSlice {ρ : Operand → Value} {T : TypeId} {len : Nat} {parts : Array (Nat × Operand)} (hop : o.op = .buildSlice T len parts) :
    execOp ρ o = (do let r ← Instr.buildSlice T len (parts.map fun (i, x) => (i, ρ x)); pure (Next.value r) : Sem Next) := by
  unfold execOp; rw [hop]
theorem cells_nil {c : Sq} {z : Value} (h : elemZero c z = true) : Cells S w c [] := by
  have := elemZero_len h
  cases c with
  | ints k l => simp [Sq.len] at this; subst this; rfl
  | bools l => simp [Sq.len] at this; subst this; rfl
  | rows l => simp [Sq.len] at this; subst this; trivial
  | rows2 l => simp [Sq.len] at this; subst this; trivial
theorem run_buildSlice' {T e : TypeId} {len : Nat} {parts : Array (Nat × Value)} {j : TypeInfo} {z : Value} {xs : List Value} (hu : P.underlying T = some (.slice e)) (hj : P.info? e = some j) (h1 : j.size = 1) (hz : j.zero = some z) (hl : len < 1000000)
    (hp : parts.toList = (List.range len).zip xs) (hx : ∀ x, x ∈ xs → x.cells = #[x]) (hlen : xs.length = len) :
    (Instr.buildSlice T len parts).run P w = .ok (.slice (some ⟨w.heap.size, 0, none⟩) len len) (w.alloc (.cells xs.toArray e)) := by
  by_cases h0 : len = 0
  · subst h0
    have : xs = [] := List.eq_nil_of_length_eq_zero hlen
    subst this
    simp at hp
    simp [Instr.buildSlice, run_underlying hu, sizeOf, typeInfo, hj, hp, Instr.fill, newRow, Array.range_zero']
  · refine run_buildSlice w T e len parts xs.toArray j z hu hj hz (by rw [h1]; omega) (by rw [h1]; omega) ?_
    rw [h1, hp]
    have hd := fill_dense (pl := fun i => some (i * 1, 1)) (fun i => by simp) xs ((Array.range (len * 1)).map (z.cells[· % z.cells.size]!)).toList 0 hx (by simp [hlen])
    rw [hlen, ← List.range_eq_range'] at hd
    simp only [Array.toArray_toList] at hd
    rw [hd]
    simp
theorem buildS_ok {T : TypeId} {len : Nat} {parts : Array (Nat × Operand)} (hop : o.op = .buildSlice T len parts) (hte : teOK P E.te = true) (h : Inv C E.n S A a w) (hK : abuildS E A o.dst T len parts.toList K) (hn : Nx C E.n S K next) : o.wp P a w next Q := by
  unfold abuildS at hK
  split at hK
  · rename_i e c hT
    obtain ⟨hu, _, j, z, hj, hj1, _, _, hz, hez⟩ := te_slice hte hT
    split at hK
    · rename_i hlen
      simp only [Bool.and_eq_true, beq_iff_eq, decide_eq_true_eq] at hlen
      obtain ⟨hidx, hlt⟩ := hlen
      split at hK
      · rename_i A' vs hf
        split at hK
        · rename_i c' hmk
          obtain ⟨S', hS, hi, ha⟩ := frzAll_ok h hf
          have hcs : Cells S' w c' ((parts.toList.map (·.2)).map a.eval) := by
            have := mk_ok (cells_nil hez) ha hmk
            simpa using this
          have hxl : ((parts.toList.map (·.2)).map a.eval).length = len := by
            have := congrArg List.length hidx
            simpa using this
          have hx1 : ∀ x, x ∈ (parts.toList.map (·.2)).map a.eval → x.cells = #[x] := by
            intro x hx
            obtain ⟨i, hi'⟩ := List.getElem?_of_mem hx
            obtain ⟨v, _, hrp, hj⟩ := ha.get' hi'
            exact RP.cells (C := C) hrp.2 hj
          have hrun := run_buildSlice' (w := w) (parts := parts.map fun (i, x) => (i, a.eval x)) hu hj hj1 hz hlt (by rw [parts_zip, hidx]) hx1 hxl
          refine wp_value (x := .slice (some ⟨w.heap.size, 0, none⟩) len len) (by rw [ex_buildSlice hop, Sem.run_bind, hrun]; rfl) (fin1_ok hK (fun d _ hd => ⟨S', fun _ hb => hb, ?_⟩) (hn.mono hS))
          refine hi.freshRow w (Mod.refl _ _) e len len _ hd hcs ?_
          have := World.ownsRow_lit (base := 0) (e := e) (size := 1) w ((parts.toList.map (·.2)).map a.eval).toArray len (Nat.zero_le _) (by simp [maxLen]; omega) (by simp only [List.size_toArray, hxl]; omega)
          rw [hxl]
          exact this
        · exact hK.elim
      · exact hK.elim
    · exact hK.elim
  · exact hK.elim

theorem ex_makeSlice {ρ : Operand → Value} {T : TypeId} {l c : Operand} (hop : o.op = .makeSlice T l c) :
    execOp ρ o = (do let r ← Instr.makeSlice T (ρ l) (ρ c); pure (Next.value r) : Sem Next) := by
  unfold execOp; rw [hop]
theorem zeros_cells {c c' : Sq} {z : Value} {n : Nat} (hz : elemZero c z = true) (h : c.zeros n = some c') : Cells S w c' (List.replicate n z) ∧ z.cells = #[z] := by
  cases c with
  | ints k l =>
    simp [Sq.zeros] at h
    subst h
    cases z <;> simp [elemZero] at hz
    obtain ⟨⟨_, rfl⟩, rfl⟩ := hz
    exact ⟨by simp [Cells], rfl⟩
  | bools l =>
    simp [Sq.zeros] at h
    subst h
    cases z <;> simp [elemZero] at hz
    obtain ⟨_, rfl⟩ := hz
    exact ⟨by simp [Cells], rfl⟩
  | _ => simp [Sq.zeros] at h
theorem makeSlice_ok {T e : TypeId} {l c : Operand} {n m : Int} {z z' : Sq} (hop : o.op = .makeSlice T l c) (hte : teOK P E.te = true) (h : Inv C E.n S A a w) (hT : look T E.te = some (.slice e z)) (hl : opd A l = some (.pv (.int .i64 n))) (hc : opd A c = some (.pv (.int .i64 m)))
    (hz : z.zeros n.toNat = some z') (hK : n = m ∧ 0 ≤ n ∧ n < 2 ^ 40 ∧ fin1 E.n o.dst A (.ow e z') K) (hn : Nx C E.n S K next) : o.wp P a w next Q := by
  obtain ⟨rfl, h0, hlt, hK⟩ := hK
  obtain ⟨hu, _, j, zv, hj, hj1, hb0, hb1, hzv, hez⟩ := te_slice hte hT
  obtain ⟨hcs, hzc⟩ := zeros_cells (S := S) (w := w) hez hz
  have hn' : ((n.toNat : Nat) : Int) = n := Int.toNat_of_nonneg h0
  have hlt' : n.toNat < 2 ^ 40 := by omega
  have hbytes : (j.bytes : Int) * n ≤ 281474976710656 := by
    have h1 : j.bytes * n.toNat ≤ 64 * 2 ^ 40 := Nat.mul_le_mul hb1 (by omega)
    have h2 : ((j.bytes * n.toNat : Nat) : Int) ≤ ((64 * 2 ^ 40 : Nat) : Int) := by omega
    rw [Int.natCast_mul, hn'] at h2
    exact Int.le_trans h2 (by decide)
  have hr := run_make (P := P) w T e j zv hu hj hzv .i64 .i64 n n h0 (Int.le_refl _) hbytes (by omega)
  refine wp_value (x := .slice (some ⟨w.heap.size, 0, none⟩) n.toNat n.toNat) (by rw [ex_makeSlice hop, eval_pv h hl, eval_pv h hc, Sem.run_bind, hr]; rfl) (fin1_ok hK (fun d _ hd => ⟨S, fun _ hb => hb, ?_⟩) hn)
  refine h.freshRow w (Mod.refl _ _) e n.toNat n.toNat _ hd hcs ?_
  have := World.ownsRow_lit (base := 0) (e := e) (size := 1) w (madeCells zv.cells (n.toNat * j.size)) n.toNat (Nat.zero_le _) (by simp only [maxLen]; omega) (by rw [size_madeCells, hj1])
  rw [List.length_replicate]
  have e1 : (madeCells zv.cells (n.toNat * j.size)).toList = List.replicate n.toNat zv := by rw [hzc, toList_madeCells_one, hj1, Nat.mul_one]
  rw [e1] at this
  exact this
end
end Go.Gx

/-
  Gx16: append and slicing keep the invariant.
  Conditions: none; laws for the machine's soundness.
-/
namespace Go.Gx
open Go

section
variable {P : Program} {C : Ctx} {E : Env} {S S' : Nat → Prop} {A : Fr} {a : Act} {w w' : World} {K : Fr → Prop} {next : Act → World → Prop} {Q : Exit → Act → World → Prop} {o : Oper}

/-- A box's own slice goes over to a slot. -/
theorem Inv.giveF {n : Rg} (h : Inv C n S A a w) {s f d : Nat} {l : List AV} {e : TypeId} {c : Sq} (hd : n.has d = true) (hl : look s A = some (.bx l)) (hf : l[f]? = some (.ow e c)) {x : Value} {b : Nat} {e' : TypeId} {cs : List Value}
    (hs : rho a s = .pointer (some ⟨b, 0, none⟩)) (hh : w.heap[b]? = some (.cells cs.toArray e' (0, 0))) (hx : cs[f]? = some x) :
    Inv C n S (setd d (.ow e c) (dropF s (upd s (.bx (l.set f .jk)) A))) (a.put (some d) x) w := by
  have hd' : d < a.tmps.size := by rw [h.size]; exact (Rg.has_ok hd).2
  obtain ⟨b2, e2, cs2, h4, h5, hr⟩ := h.rel s _ hl
  have hb : b = b2 := by have := hs.symm.trans h4; simpa using this
  subst hb
  rw [hh] at h5
  simp at h5
  obtain ⟨rfl, rfl⟩ := h5
  obtain ⟨y, hy, hry⟩ := hr.get hf
  rw [hx] at hy
  cases hy
  have ho : Own S w e c x := hry
  have hkk := nodup_upd h.keys s (.bx (l.set f .jk))
  have hkf := nodup_dropF hkk s
  have how : owned w (.bx l) (rho a s) = b :: ownFs l cs := by rw [hs]; simp [owned, rowOf_eq hh]
  have how' : owned w (.bx (l.set f .jk)) (rho a s) = b :: ownFs (l.set f .jk) cs := by rw [hs]; simp [owned, rowOf_eq hh]
  have hnd : (b :: ownFs l cs).Nodup := by rw [← how]; exact h.nd s _ hl
  have hz : All2 Fz1 l (l.set f .jk) := All2.set' (Fz.refl l) hf (.inr (.inr (.inr rfl)))
  have hsub := Fz.sub (cs := cs) hz
  have hfo : ∀ k, k ∈ owned w (.ow e c) x → k ∈ ownFs l cs := fun k hk => ownFs_mem hf hx (by rw [ownF_ow (w := w)]; exact hk)
  have hxd : rho (a.put (some d) x) d = x := by rw [rho_put hd']; simp
  have hlk : ∀ k u, look k (setd d (.ow e c) (dropF s (upd s (.bx (l.set f .jk)) A))) = some u → (k = d ∧ u = .ow e c) ∨ (k ≠ d ∧ d ∉ u.ref ∧ ((k = s ∧ u = .bx (l.set f .jk)) ∨ (k ≠ s ∧ look k A = some u))) := by
    intro k u hk
    rcases look_setd hkf hk with h1 | ⟨h1, h2, h3⟩
    · exact .inl h1
    · rcases look_upd (look_dropF hkk h2) with ⟨h4, h5, _⟩ | h4
      · exact .inr ⟨h1, h3, .inl ⟨h4, h5⟩⟩
      · exact .inr ⟨h1, h3, .inr h4⟩
  have hsp : ∀ k, k ≠ d → rho (a.put (some d) x) k = rho a k := fun k hk => rho_put_ne hk
  refine h.step (fun _ => False) (fun k => k = d ∨ k = s) (Mod.refl _ _) (fun _ hb => hb.elim) (by simp [h.size]) (fun i hi => rho_put_ne (by have := (Rg.has_ok hd).1; omega)) (by simp) (nodup_setd hkf _ _)
    (((h.bxs.upd (by simp [AV.fref]) (fun _ _ => ⟨_, rfl⟩)).dropF hkk s).setd hkf (by simp [AV.ref]) (by simp [AV.fref])) (fun _ hb => hb) (fun _ hb => .inl hb) ?_ ?_ ?_
  · intro k u hg hk
    rcases hlk k u hk with ⟨e, _⟩ | ⟨h1, h2, ⟨h3, _⟩ | ⟨h3, h4⟩⟩
    · exact (hg (.inl e)).elim
    · exact (hg (.inr h3)).elim
    · exact ⟨h4, hsp k h1, fun t ht => hsp t (fun e => h2 (e ▸ ht)), fun _ _ _ _ _ hb => hb⟩
  · intro k u hg hk
    rcases hlk k u hk with ⟨rfl, rfl⟩ | ⟨h1, h2, ⟨rfl, rfl⟩ | ⟨h3, h4⟩⟩
    · rw [hxd]
      refine ⟨ho, ?_, fun k' hk' => ⟨(h.apart s _ hl k' ?_).1, .inl (mine_one (.inr rfl) hl ?_)⟩⟩
      · cases x with
        | slice p _ _ => cases p <;> simp [owned]
        | _ => simp [owned]
      · rw [how]; exact List.mem_cons_of_mem _ (hfo k' hk')
      · rw [how]; exact List.mem_cons_of_mem _ (hfo k' hk')
    · rw [hsp k h1, how']
      refine ⟨⟨b, e', cs, ?_, hh, ?_⟩, hnd.sublist (hsub.cons_cons b), fun k' hk' => ?_⟩
      · exact hs
      · have hlt : f < l.length := (List.getElem?_eq_some_iff.1 hf).1
        refine All2.of_get (fun i v' hv' => ?_) (by have := hr.length; simp; omega)
        rw [List.getElem?_set] at hv'
        split at hv'
        · rename_i hi
          subst hi
          simp [hlt] at hv'
          subst hv'
          exact ⟨x, hx, trivial⟩
        · exact hr.get hv'
      · have hm : k' ∈ owned w (.bx l) (rho a k) := by rw [how]; exact (hsub.cons_cons b).subset hk'
        exact ⟨(h.apart k _ hl k' hm).1, .inl (mine_one (.inr rfl) hl hm)⟩
    · rcases hg with e | e
      · exact (h1 e).elim
      · exact (h3 e).elim
  · have disj : ∀ k', k' ∈ owned w (.ow e c) x → k' ∉ b :: ownFs (l.set f .jk) cs := by
      intro k' hk' hm
      rcases List.mem_cons.1 hm with rfl | hm
      · exact (List.nodup_cons.1 hnd).1 (hfo _ hk')
      · obtain ⟨j, u, y, hu, hy, hb⟩ := mem_ownFs hm
        by_cases hj : f = j
        · subst hj
          have hlt : f < l.length := (List.getElem?_eq_some_iff.1 hf).1
          rw [List.getElem?_set] at hu
          simp [hlt] at hu
          subst hu
          simp [ownF] at hb
        · rw [List.getElem?_set, if_neg hj] at hu
          exact ownFs_disj (List.nodup_cons.1 hnd).2 hf hx hu hy hj (by rw [ownF_ow (w := w)]; exact hk') hb
    intro k u t v hg hg' hne hk ht k' hk' hm
    rcases hlk k u hk with ⟨rfl, rfl⟩ | ⟨h1, h2, ⟨rfl, rfl⟩ | ⟨h3, h4⟩⟩
    · rcases hlk t v ht with ⟨rfl, rfl⟩ | ⟨h1, h2, ⟨rfl, rfl⟩ | ⟨h3, h4⟩⟩
      · exact hne rfl
      · rw [hxd] at hk'
        rw [hsp t h1, how'] at hm
        exact disj k' hk' hm
      · rcases hg' with e | e
        · exact h1 e
        · exact h3 e
    · rcases hlk t v ht with ⟨rfl, rfl⟩ | ⟨h1', h2', ⟨rfl, rfl⟩ | ⟨h3, h4⟩⟩
      · rw [hxd] at hm
        rw [hsp k h1, how'] at hk'
        exact disj k' hm hk'
      · exact hne rfl
      · rcases hg' with e | e
        · exact h1' e
        · exact h3 e
    · rcases hg with e | e
      · exact h1 e
      · exact h3 e

/-- What a slot owns goes on, changed, in the same slot. -/
theorem Inv.turn {n : Rg} {d : Nat} {v v' : AV} {x x' : Value} {M : Nat → Prop} (hd : n.has d = true) (h : Inv C n S (setd d v A) (a.put (some d) x) w) (hsz : a.tmps.size = n.hi) (hm : Mod M w w') (hM : ∀ b, M b → b ∈ owned w v x)
    (hv : RV S C.L w' (rho (a.put (some d) x)) v' x') (hvo : v'.owner = true) (hnd : (owned w' v' x').Nodup) (hown : ∀ b, b ∈ owned w' v' x' → b ∈ owned w v x ∨ w.heap.size ≤ b) :
    Inv C n S (setd d v' A) (a.put (some d) x') w' := by
  have hx : rho (a.put (some d) x) d = x := by rw [rho_put (by rw [hsz]; exact (Rg.has_ok hd).2)]; simp
  have hmine : ∀ b, b ∈ owned w v x → mine (setd d v A) (a.put (some d) x) w (fun s => s = d) b := fun b hb => ⟨d, v, rfl, look_setd_same, by rw [hx]; exact hb⟩
  have h1 := h.own M (fun s => s = d) (dropR d (setd d v A)) hd hm (fun b hb => hmine b (hM b hb)) (nodup_dropR h.keys d) (h.bxs.dropR h.keys d)
    (fun s u hs => let ⟨h1, h2, h3⟩ := look_dropR h.keys hs; ⟨h1, h2, fun t ht e => h3 (e ▸ fref_ref ht)⟩) hv hvo hnd (fun b hb => (hown b hb).imp (hmine b) id)
  have e1 : (a.put (some d) x).put (some d) x' = a.put (some d) x' := by simp [Act.put]
  have e2 : setd d v' (dropR d (setd d v A)) = setd d v' A := by
    simp only [setd, dropR, List.filter_cons, beq_self_eq_true, Bool.not_true, Bool.false_and, Bool.false_eq_true, if_false, List.filter_filter, Bool.and_self]
  rw [e1, e2] at h1
  exact h1
end
end Go.Gx

/-
  Gx17: append keeps the invariant.
  Conditions: none; laws for the machine's soundness.
-/
namespace Go.Gx
open Go

section
variable {P : Program} {C : Ctx} {E : Env} {S S' : Nat → Prop} {A : Fr} {a : Act} {w w' : World} {K : Fr → Prop} {next : Act → World → Prop} {Q : Exit → Act → World → Prop} {o : Oper}

theorem owned_ow {e : TypeId} {c : Sq} {x : Value} {b : Nat} : b ∈ owned w (.ow e c) x ↔ x.ownBlock = some b := by
  cases x with
  | slice p _ _ => cases p <;> simp [owned, Value.ownBlock, eq_comm]
  | _ => simp [owned, Value.ownBlock]
theorem Cells.cat {c d c' : Sq} {cs ds : List Value} (h : Cells S w c cs) (h' : Cells S w d ds) (hc : c.cat d = some c') : Cells S w c' (cs ++ ds) := by
  cases c with
  | ints k l => cases d <;> simp [Sq.cat] at hc; obtain ⟨rfl, rfl⟩ := hc; simp only [Cells] at h h' ⊢; simp [h, h']
  | bools l => cases d <;> simp [Sq.cat] at hc; subst hc; simp only [Cells] at h h' ⊢; simp [h, h']
  | rows l => cases d <;> simp [Sq.cat] at hc; subst hc; exact All2.append h h'
  | rows2 l => cases d <;> simp [Sq.cat] at hc; subst hc; exact All2.append h h'
theorem Cells.one {c : Sq} {cs : List Value} (h : Cells S w c cs) : ∀ u, u ∈ cs → u.oneCell' = true := by
  intro u hu
  cases c with
  | ints k l => simp only [Cells] at h; subst h; obtain ⟨n, _, rfl⟩ := List.mem_map.1 hu; rfl
  | bools l => simp only [Cells] at h; subst h; obtain ⟨n, _, rfl⟩ := List.mem_map.1 hu; rfl
  | rows l =>
    obtain ⟨i, hi⟩ := List.getElem?_of_mem hu
    obtain ⟨r, _, a, cap, rfl, _⟩ := All2.get' h hi
    rfl
  | rows2 l =>
    obtain ⟨i, hi⟩ := List.getElem?_of_mem hu
    obtain ⟨r, _, cs', _, a, cap, rfl, _⟩ := All2.get' h hi
    rfl
/-- What append reads. -/
structure News (w : World) (y : Value) (S : Nat → Prop) (c : Sq) (cs : List Value) : Prop where
  cells : Cells S w c cs
  form : ∃ p cap, y = .slice p c.len cap ∧ (cs = [] ∨ ∃ ad, p = some ad ∧ ∀ j v, cs[j]? = some v → w.cell? (Addr.add ad j) = some v)
theorem src_news {y : Operand} {v : AV} {src : Src} {c : Sq} (h : Inv C E.n S A a w) (hx : opd A y = some v) (hs : srcOf A (otmp y) v = some (src, c)) : ∃ cs, News w (a.eval y) S c cs := by
  have own : ∀ e, Own S w e c (a.eval y) → ∃ cs, News w (a.eval y) S c cs := by
    intro e ho
    obtain ⟨cs₀, hc₀, _⟩ := id ho
    rcases ho.form with ⟨hx', hz⟩ | ⟨b, cap, cs, cur, hx', hg, hc, hl, _, _, _, ht⟩
    · have : cs₀ = [] := List.eq_nil_of_length_eq_zero (hc₀.length.trans hz)
      subst this
      exact ⟨[], hc₀, none, 0, by rw [hx', hz], .inl rfl⟩
    · refine ⟨cs, hc, _, cap, hx', .inr ⟨_, rfl, fun j v hv => ?_⟩⟩
      rw [Addr.add_lit, Nat.zero_add, cell_row' hg]
      rw [← ht, List.getElem?_take] at hv
      split at hv
      · simpa using hv
      · cases hv
  have hr := srcOf_rel h hx hs
  cases src with
  | slot s => obtain ⟨e, _, _, ho⟩ := hr; exact own e ho
  | field s f => obtain ⟨e, _, _, _, _, _, _, _, _, _, ho⟩ := hr; exact own e ho
  | ro p =>
    rcases hr with ⟨cs, hc, p, cap, hx', _, hf⟩ | ⟨e, rfl, hx', hz⟩
    · refine ⟨cs, hc, p, cap, by rw [hx', hc.length], hf.imp id ?_⟩
      rintro ⟨b, off, rfl, _, hcell⟩
      exact ⟨_, rfl, fun j v hv => by rw [Addr.add_lit]; exact hcell j v hv⟩
    · obtain ⟨cs, hc, _⟩ := nl_ro (S := S) (Z := S) (w := w) hz
      have : cs = [] := List.eq_nil_of_length_eq_zero (hc.length.trans hz)
      subst this
      exact ⟨[], hc, none, 0, by rw [hx', hz], .inl rfl⟩
theorem Inv.kept (h : Inv C E.n S A a w) {M : Nat → Prop} (hm : Mod M w w') (hM : ∀ b, M b → ¬ S b) : ∀ b, S b → w'.heap[b]? = w.heap[b]? :=
  fun b hb => hm.block b (h.lt b (.inl hb)) (fun hb' => hM b hb' hb)
theorem size_zeros {z : Value} (hz : z.cells.size = 1) (n : Nat) : (Builtin.zeroCells z.cells n).size = n := by simp [Builtin.zeroCells, hz]
theorem append_run {T e ty : TypeId} {c₀ cx cy c' : Sq} {x y : Value} {ds : List Value} (hte : teOK P E.te = true) (hT : look T E.te = some (.slice e c₀)) (ho : Own S w e cx x) (hy : News w y S cy ds) (hcat : cx.cat cy = some c') (hlen : c'.len < 2 ^ 40)
    (hlt : ∀ b, S b → b < w.heap.size) (hx : ∀ b, x.ownBlock = some b → ¬ S b) :
    ∃ v' w', (Builtin.append_ #[T, T] ty #[x, y]).run P w = .ok v' w' ∧ Mod (fun b => x.ownBlock = some b) w w' ∧ Own S w' e c' v' ∧ (∀ b, v'.ownBlock = some b → x.ownBlock = some b ∨ w.heap.size ≤ b) := by
  obtain ⟨hu, _, j, z, hj, hj1, hb0, hb1, hz, hez⟩ := te_slice hte hT
  have hzc : z.cells.size = 1 := by
    unfold elemZero at hez
    split at hez <;> first | rfl | (simp at hez)
  obtain ⟨cs, hc, hrow⟩ := ho
  obtain ⟨hds, p, cap, hyv, hf⟩ := hy
  have hdl := hds.length
  have hcl := (hc.cat hds hcat).length
  rw [List.length_append] at hcl
  have h1 := hds.one
  have fin : ∀ (v' : Value) (w' : World) (k : Nat), Mod (fun b => x.ownBlock = some b) w w' → k = (cs ++ ds).length → w'.ownsRow 0 e 1 v' k (cs ++ ds) → Own S w' e c' v' := by
    intro v' w' k hm hk ho
    subst hk
    exact ⟨cs ++ ds, (hc.cat hds hcat).keep (fun _ hb => hb) (fun b hb => hm.block b (hlt b hb) (fun hb' => hx b hb' hb)), ho⟩
  have bound : ∀ n : Nat, n ≤ c'.len → n * j.bytes ≤ 140737488355328 := by
    intro n hn
    have h1 : n * j.bytes ≤ 2 ^ 40 * 64 := Nat.mul_le_mul (by omega) hb1
    have h2 : (2 : Nat) ^ 40 * 64 ≤ 140737488355328 := by decide
    omega
  subst hyv
  rcases hf with rfl | ⟨ad, rfl, hcell⟩
  · have h0 : cy.len = 0 := hdl.symm
    have hr : (Builtin.append_ #[T, T] ty #[x, .slice p cy.len cap]).run P w = .ok x w := by
      rw [h0]
      rcases hrow.2 with ⟨rfl, _⟩ | ⟨g, cap', cur, rfl, _, _, hnc, _⟩
      · cases p <;> simp [Builtin.append_, run_underlying hu, sizeOf, typeInfo, hj, Builtin.lenOf, Builtin.firstCells, loadCells, loadCellsFrom]
      · cases p <;> simp [Builtin.append_, run_underlying hu, sizeOf, typeInfo, hj, Builtin.lenOf, Builtin.firstCells, hnc, storeCells, loadCells, loadCellsFrom]
    exact ⟨x, w, hr, Mod.refl _ _, fin x w _ (Mod.refl _ _) rfl (by simpa using hrow), fun b hb => .inl hb⟩
  · rw [← hdl]
    by_cases hm0 : ds.length = 0
    · have : ds = [] := List.eq_nil_of_length_eq_zero hm0
      subst this
      have hr : (Builtin.append_ #[T, T] ty #[x, .slice (some ad) 0 cap]).run P w = .ok x w := by
        rcases hrow.2 with ⟨rfl, _⟩ | ⟨g, cap', cur, rfl, _, _, hnc, _⟩
        · simp [Builtin.append_, run_underlying hu, sizeOf, typeInfo, hj, Builtin.lenOf, Builtin.firstCells, loadCells, loadCellsFrom]
        · simp [Builtin.append_, run_underlying hu, sizeOf, typeInfo, hj, Builtin.lenOf, Builtin.firstCells, hnc, storeCells, loadCells, loadCellsFrom]
      exact ⟨x, w, hr, Mod.refl _ _, fin x w _ (Mod.refl _ _) rfl (by simpa using hrow), fun b hb => .inl hb⟩
    · have hl1 : ds.length = ds.length * j.size := by rw [hj1, Nat.mul_one]
      have fresh : ∀ (row : Array Value) (n cap' : Nat), row.size = cap' → n ≤ cap' → cap' ≤ maxLen → n = (cs ++ ds).length → row.toList.take n = cs ++ ds →
          Mod (fun b => x.ownBlock = some b) w (w.drew.alloc (.cells row e)) ∧ Own S (w.drew.alloc (.cells row e)) e c' (.slice (some ⟨w.heap.size, 0, none⟩) n cap') := by
        intro row n cap' h1 h2 h3 h4 h5
        have hm : Mod (fun b => x.ownBlock = some b) w (w.drew.alloc (.cells row e)) := ⟨rfl, rfl, rfl, by simp, fun k hk _ => heap_alloc_old w.drew _ k hk, Nat.le_succ _⟩
        exact ⟨hm, fin _ _ n hm h4 ⟨by omega, .inr ⟨w.heap.size, cap', row, rfl, Nat.zero_le _, heap_alloc_new w.drew _, h2, h3, by omega, by rw [Nat.mul_one]; exact h5⟩⟩⟩
      have hml : c'.len ≤ maxLen := by simp only [maxLen]; omega
      rcases hrow.2 with ⟨rfl, hn⟩ | ⟨g, cap', cur, rfl, _, hg, hnc, hcm, hcs, htake⟩
      · have hcs0 : cs = [] := List.eq_nil_of_length_eq_zero hn
        subst hcs0
        simp only [List.length_nil, Nat.zero_add] at hcl
        have hr := run_append_nil (P := P) w T ty e j z hu hj hz ad ds.length cap ds hl1 hcell (by omega) (by omega) (by have := bound ds.length (by omega); omega)
        have hge := grownCap_ge w ds.length 0 e
        have hcm : grownCap w ds.length 0 e ≤ maxLen := grownCap_le_maxLen w ds.length 0 e (by omega)
        obtain ⟨hm, hown⟩ := fresh (ds.toArray ++ Builtin.zeroCells z.cells (grownCap w ds.length 0 e - ds.length)) ds.length (grownCap w ds.length 0 e)
          (by rw [Array.size_append, size_zeros hzc]; simp; omega) hge hcm (by simp) (by simp)
        exact ⟨_, _, hr, hm, hown, fun b hb => .inr (by simp [Value.ownBlock] at hb; omega)⟩
      · simp only [Nat.mul_one] at hcs htake
        by_cases hroom : cs.length + ds.length ≤ cap'
        · have hr := run_append_room (P := P) w T ty e j hu hj g cs.length cap' cur hg ad ds.length cap ds hl1 hcell h1 hroom (by rw [hj1]; omega)
          rw [hj1, Nat.mul_one] at hr
          have hm : Mod (fun b => (Value.slice (some ⟨g, 0, none⟩) cs.length cap').ownBlock = some b) w (w.setRow g (cur.toList.take cs.length ++ ds ++ cur.toList.drop (cs.length + ds.length)).toArray) :=
            ⟨rfl, rfl, rfl, by simp, fun k _ hk => setRow_other w g k _ (fun e => hk (by simp [Value.ownBlock, e])), Nat.le_refl _⟩
          refine ⟨_, _, hr, hm, fin _ _ (cs.length + ds.length) hm (by simp) ⟨by simp, .inr ⟨g, cap', _, rfl, Nat.zero_le _, setRow_heap w g cur _ e _ hg, hroom, hcm, ?_, ?_⟩⟩, fun b hb => .inl (by simpa [Value.ownBlock] using hb)⟩
          · simp only [List.size_toArray, List.length_append, List.length_take, List.length_drop, Array.length_toList]
            omega
          · rw [htake, Nat.mul_one]
            have : cs.length + ds.length = (cs ++ ds).length := by simp
            rw [this]
            exact List.take_left
        · have holds : ∀ k u, cs[k]? = some u → w.cell? ((⟨g, 0, none⟩ : Addr).add k) = some u := hrow.cells (g := g) rfl
          have hr := run_append_grow (P := P) w T ty e j z hu hj hz ⟨g, 0, none⟩ cs.length cap' cs (by rw [hj1, Nat.mul_one]) holds ad ds.length cap ds hl1 hcell (by omega) (by omega) (growslice_fits (by omega) (bound _ (by omega)))
          have hge := grownCap_ge w (cs.length + ds.length) cap' e
          have hcm : grownCap w (cs.length + ds.length) cap' e ≤ maxLen := grownCap_le_maxLen w _ cap' e (by omega)
          obtain ⟨hm, hown⟩ := fresh (cs.toArray ++ ds.toArray ++ Builtin.zeroCells z.cells (grownCap w (cs.length + ds.length) cap' e - (cs.length + ds.length))) (cs.length + ds.length) (grownCap w (cs.length + ds.length) cap' e)
            (by rw [Array.size_append, size_zeros hzc]; simp; omega) hge hcm (by simp) (by
              simp only [Array.toList_append, List.append_assoc]
              rw [← List.append_assoc, ← List.length_append]
              exact List.take_left)
          exact ⟨_, _, hr, hm, hown, fun b hb => .inr (by simp [Value.ownBlock] at hb; omega)⟩

theorem ex_append {ρ : Operand → Value} {x y : Operand} {T : TypeId} (hop : o.op = .call { callee := .builtin .append, args := #[x, y], argTypes := #[T, T] }) :
    execOp ρ o = (do let r ← Builtin.append_ #[T, T] o.type #[ρ x, ρ y]; pure (Next.value r) : Sem Next) := by
  rw [ex_builtin hop]; simp [builtin]
theorem append_ok {x y : Operand} {T : TypeId} (hop : o.op = .call { callee := .builtin .append, args := #[x, y], argTypes := #[T, T] }) (hte : teOK P E.te = true) (h : Inv C E.n S A a w) (hK : aappend E A o.dst T x y K) (hn : Nx C E.n S K next) : o.wp P a w next Q := by
  unfold aappend at hK
  split at hK
  · rename_i e c₀ vx vy hT hx hy
    split at hK
    · rename_i src cy hs
      obtain ⟨ds, hnews⟩ := src_news h hy hs
      have hltS : ∀ b, S b → b < w.heap.size := fun b hb => h.lt b (.inl hb)
      -- a slot's own row
      have slot : ∀ (t : Nat) (cx c' : Sq), look t A = some (.ow e cx) → a.eval x = rho a t → cx.cat cy = some c' → c'.len < 2 ^ 40 → fin1 E.n o.dst (dropR t A) (.ow e c') K → o.wp P a w next Q := by
        intro t cx c' hl hev hcat hlen hK
        have ho : Own S w e cx (rho a t) := h.rel t _ hl
        obtain ⟨v', w', hr, hm, hown, hb⟩ := append_run (ty := o.type) hte hT ho hnews hcat hlen hltS (fun b hb => (h.apart t _ hl b (owned_ow.2 hb)).1)
        refine wp_value (x := v') (w' := w') (by rw [ex_append hop, hev, Sem.run_bind, hr]; rfl) (fin1_ok hK (fun d _ hd => ⟨S, fun _ hb => hb, ?_⟩) hn)
        refine h.own (fun b => (rho a t).ownBlock = some b) (fun s => s = t) (dropR t A) hd hm (fun b hb => mine_one rfl hl (owned_ow.2 hb)) (nodup_dropR h.keys t) (h.bxs.dropR h.keys t) (dropR_keep h t) hown rfl ?_ ?_
        · cases v' with
          | slice p _ _ => cases p <;> simp [owned]
          | _ => simp [owned]
        · intro b hb'
          exact (hb b (owned_ow.1 hb')).imp (fun hb => mine_one rfl hl (owned_ow.2 hb)) id
      split at hK
      · rename_i e' cx
        split at hK
        · rename_i c' hcat
          obtain ⟨hlen, hK⟩ := hK
          have hev : a.eval x = .slice none 0 0 := (eval_opd h hx).1
          have hz : cx.len = 0 := (eval_opd h hx).2
          obtain ⟨cs, hc, _⟩ := nl_ro (S := S) (Z := S) (w := w) hz
          have hcs : cs = [] := List.eq_nil_of_length_eq_zero (hc.length.trans hz)
          subst hcs
          have ho : Own S w e cx (.slice none 0 0) := ⟨[], hc, World.ownsRow_nil w 0 e 1⟩
          obtain ⟨v', w', hr, hm, hown, hb⟩ := append_run (ty := o.type) hte hT ho hnews hcat hlen hltS (fun b hb => by simp [Value.ownBlock] at hb)
          refine wp_value (x := v') (w' := w') (by rw [ex_append hop, hev, Sem.run_bind, hr]; rfl) (fin1_ok hK (fun d _ hd => ⟨S, fun _ hb => hb, ?_⟩) hn)
          refine h.own (fun _ => False) (fun _ => False) A hd ?_ (fun _ hb => hb.elim) h.keys h.bxs (fun s u hs => ⟨hs, fun hb => hb, fun _ _ hb => hb⟩) hown rfl ?_ ?_
          · exact ⟨hm.os, hm.tape, hm.output, hm.size, fun b hb _ => hm.block b hb (by simp [Value.ownBlock]), hm.drawn⟩
          · cases v' with
            | slice p _ _ => cases p <;> simp [owned]
            | _ => simp [owned]
          · intro b hb'
            rcases hb b (owned_ow.1 hb') with hb | hb
            · simp [Value.ownBlock] at hb
            · exact .inr hb
        · exact hK.elim
      · rename_i e' cx t ht
        split at hK
        · rename_i c' hcat
          obtain ⟨rfl, hlen, hK⟩ := hK
          cases x with
          | tmp t' =>
            simp [otmp] at ht
            subst ht
            exact slot t' cx c' hx rfl hcat hlen hK
          | _ => simp [otmp] at ht
        · exact hK.elim
      · rename_i s
        split at hK
        · rename_i e' cx hl
          split at hK
          · rename_i c' hcat
            obtain ⟨rfl, hlen, hK⟩ := hK
            exact slot s cx c' hl (eval_opd h hx) hcat hlen hK
          · exact hK.elim
        · exact hK.elim
      · rename_i s f
        split at hK
        · rename_i l hl
          split at hK
          · rename_i e' cx hlf
            split at hK
            · rename_i c' hcat
              obtain ⟨rfl, hlen, hK⟩ := hK
              obtain ⟨b, e2, cs, hs1, hh, hcf⟩ := eval_opd h hx
              obtain ⟨b2, e3, cs2, h4, h5, h6⟩ := h.rel s _ hl
              have hb : b = b2 := by have := hs1.symm.trans h4; simpa using this
              subst hb
              rw [hh] at h5
              simp at h5
              obtain ⟨rfl, rfl⟩ := h5
              obtain ⟨y', hy', hr6⟩ := h6.get hlf
              rw [hcf] at hy'
              cases hy'
              have ho : Own S w e' cx (a.eval x) := hr6
              have how : ∀ b', (a.eval x).ownBlock = some b' → b' ∈ owned w (.bx l) (rho a s) := by
                intro b' hb'
                rw [show rho a s = _ from hs1]
                simp only [owned, rowOf_eq hh]
                exact List.mem_cons_of_mem _ (ownFs_mem hlf hcf (by rw [ownF_ow (w := w)]; exact owned_ow.2 hb'))
              obtain ⟨v', w', hr, hm, hown, hb⟩ := append_run (ty := o.type) hte hT ho hnews hcat hlen hltS (fun b hb => (h.apart s _ hl b (how b hb)).1)
              refine wp_value (x := v') (w' := w') (by rw [ex_append hop, Sem.run_bind, hr]; rfl) (fin1_ok hK (fun d _ hd => ⟨S, fun _ hb => hb, ?_⟩) hn)
              have h1 := h.giveF hd hl hlf hs1 hh hcf
              refine Inv.turn hd h1 h.size hm (fun b hb => owned_ow.2 hb) hown rfl ?_ ?_
              · cases v' with
                | slice p _ _ => cases p <;> simp [owned]
                | _ => simp [owned]
              · intro b hb'
                exact (hb b (owned_ow.1 hb')).imp (fun hb => owned_ow.2 hb) id
            · exact hK.elim
          · exact hK.elim
        · exact hK.elim
      · exact hK.elim
    · exact hK.elim
  · exact hK.elim
end
end Go.Gx

/-
  Gx18: slicing keeps the invariant.
  Conditions: none; laws for the machine's soundness.
-/
namespace Go.Gx
open Go

section
variable {P : Program} {C : Ctx} {E : Env} {S S' : Nat → Prop} {A : Fr} {a : Act} {w w' : World} {K : Fr → Prop} {next : Act → World → Prop} {Q : Exit → Act → World → Prop} {o : Oper}

theorem anum_ok {x : Option Operand} {d : Int} {F : Int → Prop} (h : Inv C E.n S A a w) (hK : anum A x d F) : ∃ n, F n ∧ ((x.map a.eval = none ∧ n = d) ∨ ∃ k, x.map a.eval = some (.int k n)) := by
  unfold anum at hK
  split at hK
  · exact ⟨d, hK, .inl ⟨rfl, rfl⟩⟩
  · split at hK
    · rename_i y k n hx
      exact ⟨n, hK, .inr ⟨k, by simp [eval_pv h hx]⟩⟩
    · exact hK.elim
theorem run_sl {T e : TypeId} {j : TypeInfo} (hu : P.underlying T = some (.slice e)) (hj : P.info? e = some j) (h1 : j.size = 1) {lo hi : Option Value} {l h : Int} {p : Option Addr} {len cap : Nat}
    (hlo : (lo = none ∧ l = 0) ∨ ∃ k, lo = some (.int k l)) (hhi : (hi = none ∧ h = len) ∨ ∃ k, hi = some (.int k h)) (h0 : 0 ≤ l) (hlh : l ≤ h) (hh : h ≤ cap) :
    (Instr.sliceAt T (.slice p len cap) lo hi none).run P w = .ok (sliced p l.toNat h.toNat cap 1) w := by
  have hs : (sizeOf e).run P w = .ok 1 w := by rw [sizeOf_run hj, h1]
  rcases hlo with ⟨rfl, rfl⟩ | ⟨k, rfl⟩ <;> rcases hhi with ⟨rfl, rfl⟩ | ⟨k', rfl⟩
  · simp [Instr.sliceAt, Instr.slice, run_underlying hu, Instr.sliceBounds, sliced, hs]
  · simp [Instr.sliceAt, Instr.slice, run_underlying hu, Instr.sliceBounds, run_sliceBound, sliced, hs, hlh, hh]
  · simp [Instr.sliceAt, Instr.slice, run_underlying hu, Instr.sliceBounds, run_sliceBound, sliced, hs, hlh, h0]
  · have e1 : (h.toNat : Int) = h := Int.toNat_of_nonneg (by omega)
    simp [Instr.sliceAt, Instr.slice, run_underlying hu, Instr.sliceBounds, run_sliceBound, sliced, hs, hlh, h0, hh, e1, show 0 ≤ h by omega]
theorem Ro.cut {Z : Nat → Prop} {c : Sq} {p : Option Addr} {cap l h : Nat} (hr : Ro S Z w c (.slice p c.len cap)) (hlh : l ≤ h) (hh : h ≤ c.len) : Ro S Z w (c.cut l h) (sliced p l h cap 1) := by
  obtain ⟨cs, hc, a', cap', hx, hle, hf⟩ := hr
  simp only [Value.slice.injEq] at hx
  obtain ⟨rfl, _, rfl⟩ := hx
  have hcl := hc.length
  refine ⟨(cs.take h).drop l, hc.part l h, (if cap = l then p else p.map (·.add (l * 1))), cap - l, ?_, ?_, ?_⟩
  · simp only [sliced, List.length_drop, List.length_take]
    rw [Nat.min_eq_left (by omega)]
  · simp only [List.length_drop, List.length_take]; omega
  · by_cases he : (cs.take h).drop l = []
    · exact .inl he
    · rcases hf with rfl | ⟨b, off, rfl, hb, hcell⟩
      · simp at he
      · have hlt : l < cap := by
          rcases Nat.lt_or_ge l cap with h' | h'
          · exact h'
          · exact (he (List.drop_of_length_le (by simp; omega))).elim
        refine .inr ⟨b, off + l, ?_, hb, fun i v hv => ?_⟩
        · rw [if_neg (by omega)]; simp [Addr.add_lit]
        · rw [List.getElem?_drop, List.getElem?_take] at hv
          split at hv
          · rw [Nat.add_assoc]
            exact hcell (l + i) v hv
          · cases hv
theorem cut_zero (c : Sq) (h : Nat) : c.cut 0 h = c.top h := by cases c <;> simp [Sq.cut, Sq.top]
theorem cutOf_eq {lo : Option Operand} {c : Sq} {l : Int} {h : Nat} (hlo : (lo.map a.eval = none ∧ l = 0) ∨ ∃ k, lo.map a.eval = some (.int k l)) : cutOf lo c l.toNat h = c.cut l.toNat h := by
  cases lo with
  | none =>
    rcases hlo with ⟨_, rfl⟩ | ⟨k, hk⟩
    · rw [Int.toNat_zero, cut_zero]; rfl
    · cases hk
  | some _ => rfl
theorem view_ok {T e : TypeId} {c₀ : Sq} {x : Operand} {lo hi : Option Operand} {c : Sq} {mk : Sq → AV} {Z : Nat → Prop} {A' : Fr} (hop : o.op = .slice T x lo hi none) (hte : teOK P E.te = true) (hT : look T E.te = some (.slice e c₀)) (h₀ : Inv C E.n S A a w) (h : Inv C E.n S' A' a w) (hS : ∀ b, S b → S' b)
    (hr : Ro S' Z w c (a.eval x)) (hmk : ∀ c' y, Ro S' Z w c' y → RV S' C.L w (rho a) (mk c') y) (hmo : ∀ c', (mk c').owner = false) (hK : aview E A A' o.dst lo hi c mk K) (hn : Nx C E.n S K next) : PWP P o a w next := by
  obtain ⟨l, hK, hlo⟩ := anum_ok h₀ hK
  obtain ⟨h', ⟨h0, hlh, hh, hK⟩, hhi⟩ := anum_ok h₀ hK
  obtain ⟨hu, _, j, z, hj, hj1, _⟩ := te_slice hte hT
  obtain ⟨p, cap, cs, hx, hle, _⟩ := hr.seg
  rw [hx] at hr
  have hrun := fun w' : World => run_sl (P := P) (w := w') hu hj hj1 (p := p) (len := c.len) (cap := cap) hlo hhi h0 hlh (by omega)
  have hcut := hr.cut (l := l.toNat) (h := h'.toNat) (by omega) (by omega)
  have hcc : cutOf lo c l.toNat h'.toNat = c.cut l.toNat h'.toNat := cutOf_eq hlo
  rw [hcc] at hK
  refine pwp_value (x := sliced p l.toNat h'.toNat cap 1) ?_ (fin_ok h hK (hmk _ _ hcut) (owned_non (hmo _) _ _) (hn.mono hS))
  intro w'
  unfold execOp; rw [hop]
  simp only [Sem.run_bind, hx, Option.map_none, hrun, Result.andThen_ok, Sem.run_pure]

theorem Own.top {e : TypeId} {c : Sq} {p : Option Addr} {len cap h : Nat} (ho : Own S w e c (.slice p len cap)) (hh : h ≤ c.len) : len = c.len ∧ c.len ≤ cap ∧ Own S w e (c.top h) (sliced p 0 h cap 1) := by
  rcases ho.form with ⟨hx, hz⟩ | ⟨b, cap', cs, cur, hx, hg, hc, hl, h1, h2, h3, ht⟩
  · cases hx
    have : h = 0 := by omega
    subst this
    obtain ⟨cs, hc, _⟩ := ho
    have h0 : cs = [] := List.eq_nil_of_length_eq_zero (hc.length.trans hz)
    subst h0
    exact ⟨by omega, by omega, [], by simpa using hc.top 0, by simpa [sliced] using World.ownsRow_nil w 0 e 1⟩
  · cases hx
    refine ⟨rfl, h1, cs.take h, hc.top h, ?_⟩
    have hlen : (cs.take h).length = h := by simp; omega
    refine ⟨by simp, .inr ⟨b, cap, cur, ?_, Nat.zero_le _, hg, by omega, h2, by simpa using h3, ?_⟩⟩
    · simp only [sliced, hlen]
      by_cases hc0 : cap = 0
      · simp [hc0]
      · simp [Addr.add_lit]
    · rw [hlen, Nat.mul_one, ← ht, List.take_take, Nat.min_eq_left hh]
theorem ownBlock_sliced {p : Option Addr} {l h cap : Nat} {len : Nat} {b : Nat} (hb : (sliced p l h cap 1).ownBlock = some b) : (Value.slice p len cap).ownBlock = some b := by
  unfold sliced at hb
  split at hb
  · cases p <;> simp_all [Value.ownBlock]
  · cases p with
    | none => simp [Value.ownBlock] at hb
    | some ad =>
      simp only [Option.map_some, Value.ownBlock, Addr.add, Option.some.injEq] at hb ⊢
      split at hb <;> exact hb
theorem Inv.frzArr {n : Rg} (h : Inv C n S A a w) {s : Nat} {c : Sq} (hl : look s A = some (.ba c)) :
    ∃ S', (∀ b, S b → S' b) ∧ Inv C n S' (setd s (.la c 0) A) a w ∧ ∃ b e, ∃ cs : List Value, rho a s = .pointer (some ⟨b, 0, none⟩) ∧ S' b ∧ w.heap[b]? = some (.cells cs.toArray e (0, 0)) ∧ Cells S' w c cs := by
  obtain ⟨b, e, cs, hx, hh, hc⟩ := h.rel s _ hl
  have hx' : rho a s = .pointer (some ⟨b, 0, none⟩) := hx
  have how : owned w (.ba c) (rho a s) = [b] := by rw [hx']; rfl
  let S' : Nat → Prop := fun k => S k ∨ k = b
  have hc' : Cells S' w c cs := hc.keep (fun _ hb => .inl hb) (fun _ _ => rfl)
  refine ⟨S', fun _ hb => .inl hb, ?_, b, e, cs, hx', .inr rfl, hh, hc'⟩
  refine h.step (fun _ => False) (fun k => k = s) (Mod.refl _ _) (fun _ hb => hb.elim) h.size (fun _ _ => rfl) rfl (nodup_setd h.keys _ _) (h.bxs.setd h.keys (by simp [AV.ref]) (by simp [AV.fref]))
    (fun _ hb => .inl hb) ?_ ?_ ?_ ?_
  · intro k hk
    rcases hk with hk | rfl
    · exact .inl hk
    · exact .inr ⟨.inl (mine_one rfl hl (by rw [how]; simp)), heap_lt hh⟩
  · intro k u hg hs
    rcases look_setd h.keys hs with ⟨e, _⟩ | ⟨_, h2, _⟩
    · exact (hg e).elim
    · exact ⟨h2, rfl, fun _ _ => rfl, fun _ _ _ _ _ hb => hb⟩
  · intro k u hg hs
    rcases look_setd h.keys hs with ⟨rfl, rfl⟩ | ⟨h1, _⟩
    · exact ⟨⟨b, e, (0, 0), cs, hx', .inl (.inr rfl), hh, hc'⟩, by simp [owned], by simp [owned]⟩
    · exact (h1 hg).elim
  · intro s' v k u hs hk hne
    exact (hne (hs.trans hk.symm)).elim

theorem slice_ok {T : TypeId} {x : Operand} {lo hi : Option Operand} (hop : o.op = .slice T x lo hi none) (hte : teOK P E.te = true) (h : Inv C E.n S A a w) (hK : aslice E A o.dst T x lo hi K) (hn : Nx C E.n S K next) : PWP P o a w next := by
  unfold aslice at hK
  split at hK
  · exact hK.elim
  · rename_i v hx
    split at hK
    · rename_i e c₀ hT
      obtain ⟨hu, _, j, z, hj, hj1, _⟩ := te_slice hte hT
      split at hK
      · split at hK
        · exact hK.elim
        · -- an own row is cut
          have cutrun : ∀ (c : Sq) (e' : TypeId) (h' : Int) (k : Option IntKind), Own S w e' c (a.eval x) → 0 ≤ h' → h' ≤ c.len → ((hi.map a.eval = none ∧ h' = c.len) ∨ ∃ k, hi.map a.eval = some (.int k h')) →
              ∃ y, (∀ w', (execOp a.eval o).run P w' = .ok (.value y) w') ∧ Own S w e' (c.top h'.toNat) y ∧ ∀ b, y.ownBlock = some b → (a.eval x).ownBlock = some b := by
            intro c e' h' _ ho h0 hh hhi
            have hform : ∃ p cap, a.eval x = .slice p c.len cap := by
              rcases ho.form with ⟨hx', hz⟩ | ⟨b, cap, cs, cur, hx', _⟩
              · exact ⟨none, 0, by rw [hx', hz]⟩
              · exact ⟨_, cap, hx'⟩
            obtain ⟨p, cap, hev⟩ := hform
            rw [hev] at ho
            obtain ⟨_, hle, ho'⟩ := ho.top (h := h'.toNat) (by omega)
            have hrun := fun w' : World => run_sl (P := P) (w := w') hu hj hj1 (lo := none) (l := 0) (p := p) (len := c.len) (cap := cap) (.inl ⟨rfl, rfl⟩) hhi (Int.le_refl _) h0 (by omega)
            refine ⟨_, ?_, ho', fun b hb => ?_⟩
            · intro w'
              unfold execOp; rw [hop]
              simp only [Sem.run_bind, hev, Option.map_none, hrun, Result.andThen_ok, Sem.run_pure, Int.toNat_zero]
            · rw [hev]; exact ownBlock_sliced hb
          have nd : ∀ (e' : TypeId) (c : Sq) (y : Value), (owned w (.ow e' c) y).Nodup := by
            intro e' c y
            cases y with
            | slice p _ _ => cases p <;> simp [owned]
            | _ => simp [owned]
          have slot : ∀ (t : Nat) (e' : TypeId) (c : Sq), look t A = some (.ow e' c) → a.eval x = rho a t → (anum A hi c.len fun h => 0 ≤ h ∧ h ≤ c.len ∧ fin1 E.n o.dst (dropR t A) (.ow e' (c.top h.toNat)) K) → PWP P o a w next := by
            intro t e' c hl hev hK
            obtain ⟨h', ⟨h0, hh, hK⟩, hhi⟩ := anum_ok h hK
            obtain ⟨y, hr, ho, hb⟩ := cutrun c e' h' none (by rw [hev]; exact h.rel t _ hl) h0 hh hhi
            refine pwp_value hr (fin1_ok hK (fun d _ hd => ⟨S, fun _ hb => hb, ?_⟩) hn)
            refine h.own (fun _ => False) (fun s => s = t) (dropR t A) hd (Mod.refl _ _) (fun _ hb => hb.elim) (nodup_dropR h.keys t) (h.bxs.dropR h.keys t) (dropR_keep h t) ho rfl (nd _ _ _) ?_
            intro b hb'
            exact .inl (mine_one rfl hl (owned_ow.2 (by rw [← hev]; exact hb b (owned_ow.1 hb'))))
          split at hK
          · rename_i e' c t ht
            cases x with
            | tmp t' =>
              simp [otmp] at ht
              subst ht
              exact slot t' e' c hx rfl hK
            | _ => simp [otmp] at ht
          · rename_i s
            split at hK
            · rename_i e' c hl
              exact slot s e' c hl (eval_opd h hx) hK
            · exact hK.elim
          · rename_i s f
            split at hK
            · rename_i l hl
              split at hK
              · rename_i e' c hlf
                obtain ⟨h', ⟨h0, hh, hK⟩, hhi⟩ := anum_ok h hK
                obtain ⟨b, e2, cs, hs1, hh1, hcf⟩ := eval_opd h hx
                obtain ⟨b2, e3, cs2, h4, h5, h6⟩ := h.rel s _ hl
                have hb : b = b2 := by have := hs1.symm.trans h4; simpa using this
                subst hb
                rw [hh1] at h5
                simp at h5
                obtain ⟨rfl, rfl⟩ := h5
                obtain ⟨y', hy', hr6⟩ := h6.get hlf
                rw [hcf] at hy'
                cases hy'
                obtain ⟨y, hr, ho, hb⟩ := cutrun c e' h' none hr6 h0 hh hhi
                refine pwp_value hr (fin1_ok hK (fun d _ hd => ⟨S, fun _ hb => hb, ?_⟩) hn)
                have h1 := h.giveF hd hl hlf hs1 hh1 hcf
                refine Inv.turn hd h1 h.size (M := fun _ => False) (Mod.refl _ _) (fun _ hb => hb.elim) ho rfl (nd _ _ _) ?_
                intro b' hb'
                exact .inl (owned_ow.2 (hb b' (owned_ow.1 hb')))
              · exact hK.elim
            · exact hK.elim
          · exact hK.elim
      · split at hK
        · rename_i c
          exact view_ok (mk := AV.ls) (Z := fun b => S b ∨ C.L b) hop hte hT h h (fun _ hb => hb) (eval_opd h hx) (fun _ _ hr => hr) (fun _ => rfl) hK hn
        · split at hK
          · rename_i A' c hf
            obtain ⟨S', hS, hi', hrp, _⟩ := frz_ok h hx hf
            exact view_ok (mk := AV.sl) (Z := S') hop hte hT h hi' hS hrp.2 (fun _ _ hr => hr) (fun _ => rfl) hK hn
          · rename_i A' e' c hf
            obtain ⟨S', hS, hi', hrp, _⟩ := frz_ok h hx hf
            have h1 : a.eval x = .slice none 0 0 := hrp.2.1
            exact view_ok (mk := AV.sl) (Z := S') hop hte hT h hi' hS (by rw [h1]; exact nl_ro hrp.2.2) (fun _ _ hr => hr) (fun _ => rfl) hK hn
          · exact hK.elim
    · rename_i m e zz hT
      split at hK
      · rename_i s off hpt
        split at hK
        · rename_i c hl
          obtain ⟨rfl, hm, hK⟩ := hK
          obtain ⟨hu, hes, hes0, _⟩ := te_arr hte hT
          have hpp : ∃ b, rho a s = .pointer (some ⟨b, 0, none⟩) ∧ a.eval x = .pointer (some ⟨b, 0, none⟩) := by
            unfold ptOf at hpt
            cases x with
            | tmp t =>
              split at hpt
              · simp [otmp] at hpt
                subst hpt
                obtain ⟨b, e, cs, hx', _⟩ := eval_opd h hx
                exact ⟨b, hx', hx'⟩
              · simp [otmp] at hpt
                subst hpt
                obtain ⟨b, e, cs, hx', _⟩ := eval_opd h hx
                exact ⟨b, hx', hx'⟩
              · simp at hpt
                obtain ⟨rfl, rfl⟩ := hpt
                exact eval_opd h hx
              · cases hpt
            | _ =>
              split at hpt
              · simp [otmp] at hpt
              · simp [otmp] at hpt
              · simp at hpt
                obtain ⟨rfl, rfl⟩ := hpt
                exact eval_opd h hx
              · cases hpt
          obtain ⟨b, hs, hev⟩ := hpp
          obtain ⟨S', hS, hi', b2, e2, cs, hs2, hSb, hh, hc⟩ := h.frzArr hl
          have hb : b = b2 := by have := hs.symm.trans hs2; simpa using this
          subst hb
          obtain ⟨l, hK, hlo⟩ := anum_ok h hK
          obtain ⟨h', ⟨h0, hlh, hh', hK⟩, hhi⟩ := anum_ok h hK
          have hro : Ro S' S' w c (.slice (some ⟨b, 0, none⟩) c.len m) := by
            refine ⟨cs, hc, _, m, by rw [hc.length], by rw [hc.length]; omega, .inr ⟨b, 0, rfl, hSb, fun i v hv => ?_⟩⟩
            rw [Nat.zero_add, cell_row hh]; exact hv
          have hcut := hro.cut (l := l.toNat) (h := h'.toNat) (by omega) (by omega)
          have hcc : cutOf lo c l.toNat h'.toNat = c.cut l.toNat h'.toNat := cutOf_eq hlo
          rw [hcc] at hK
          have hrun : ∀ w', (Instr.sliceAt T (.pointer (some ⟨b, 0, none⟩)) (lo.map a.eval) (hi.map a.eval) none).run P w' = .ok (sliced (some ⟨b, 0, none⟩) l.toNat h'.toNat m 1) w' := by
            intro w'
            have hsz : (sizeOf e).run P w' = .ok 1 w' := cellsOf_run hes hes0
            have e1 : (h'.toNat : Int) = h' := Int.toNat_of_nonneg (by omega)
            have hhm : h' ≤ m := by omega
            have hh0 : 0 ≤ h' := by omega
            rcases hlo with ⟨hlo, rfl⟩ | ⟨k, hlo⟩ <;> rcases hhi with ⟨hhi, rfl⟩ | ⟨k', hhi⟩
            · simp [Instr.sliceAt, Instr.sureAddr, hlo, hhi, run_underlying hu, Instr.sliceBounds, sliced, hsz, hm]
              split <;> rfl
            · simp [Instr.sliceAt, Instr.sureAddr, hlo, hhi, run_underlying hu, Instr.sliceBounds, run_sliceBound, sliced, hsz, hhm, hh0]
              split <;> rfl
            · have hlm : l ≤ m := by omega
              simp [Instr.sliceAt, Instr.sureAddr, hlo, hhi, run_underlying hu, Instr.sliceBounds, run_sliceBound, sliced, hsz, h0, hm, hlm]
              split <;> rfl
            · simp [Instr.sliceAt, Instr.sureAddr, hlo, hhi, run_underlying hu, Instr.sliceBounds, run_sliceBound, sliced, hsz, h0, hlh, hhm, hh0, e1]
              split <;> rfl
          refine pwp_value (x := sliced (some ⟨b, 0, none⟩) l.toNat h'.toNat m 1) ?_ (fin_ok hi' hK hcut rfl (hn.mono hS))
          intro w'
          unfold execOp; rw [hop]
          have hev' : a.eval x = .pointer (some ⟨b, 0, none⟩) := hev
          simp only [Sem.run_bind, hev', Option.map_none, hrun, Result.andThen_ok, Sem.run_pure]
        · exact hK.elim
      · exact hK.elim
    · exact hK.elim
end
end Go.Gx

/-
  Gx19: stores keep the invariant.
  Conditions: none; laws for the machine's soundness.
-/
namespace Go.Gx
open Go

section
variable {P : Program} {C : Ctx} {E : Env} {S S' : Nat → Prop} {A : Fr} {a : Act} {w w' : World} {K : Fr → Prop} {next : Act → World → Prop} {Q : Exit → Act → World → Prop} {o : Oper}

theorem run_storeAt {T : TypeId} {b off : Nat} {cur : Array Value} {e : TypeId} {x : Value} {vs : List Value} (hh : w.heap[b]? = some (.cells cur e (0, 0))) (hx : x.cells = vs.toArray) (hsz : (sizeOf T).run P w = .ok vs.length w)
    (h1 : ∀ v, v ∈ vs → v.oneCell' = true) (hfit : off + vs.length ≤ cur.size) :
    (Instr.storeAt T (.pointer (some ⟨b, off, none⟩)) x).run P w = .ok () (w.setRow b (cur.toList.take off ++ vs ++ cur.toList.drop (off + vs.length)).toArray) := by
  have hst := run_storeCells_at P b off e vs 0 cur w hh (by simpa using hfit) h1
  simp only [Nat.add_zero] at hst
  simp [Instr.storeAt, Instr.sureAddr, storeVar, hx, hsz, hst]
theorem ex_store {ρ : Operand → Value} {T : TypeId} {x y : Operand} (hop : o.op = .store T x y) :
    execOp ρ o = (do Instr.storeAt T (ρ x) (ρ y); pure Next.skip : Sem Next) := by
  unfold execOp; rw [hop]
theorem Mod.setRow (w : World) (b : Nat) (cs : Array Value) : Mod (fun k => k = b) w (w.setRow b cs) :=
  ⟨rfl, rfl, rfl, by simp, fun k _ hk => setRow_other w b k cs hk, Nat.le_refl _⟩
theorem put_none (a : Act) (x : Value) : a.put none x = a := rfl
theorem set_mid {α : Type} (l : List α) (i : Nat) (x : α) (h : i < l.length) : l.take i ++ [x] ++ l.drop (i + 1) = l.set i x := by
  rw [List.set_eq_take_append_cons_drop, if_pos h]; simp

/-- Another content for a box. -/
theorem Inv.putBx {n : Rg} (h : Inv C n S A a w) {s b : Nat} {l l' : List AV} {cs' : List Value} {e' : TypeId} (G₀ : Nat → Prop) (A₁ : Fr) (hk : (A₁.map (·.1)).Nodup) (hbx : Bxs A₁)
    (hA : ∀ k u, look k A₁ = some u → look k A = some u ∧ ¬ G₀ k ∧ ∀ t, t ∈ u.fref → ¬ G₀ t)
    (hl : look s A₁ = some (.bx l)) (hs : rho a s = .pointer (some ⟨b, 0, none⟩)) (hm : Mod (fun k => k = b) w w') (hh : w'.heap[b]? = some (.cells cs'.toArray e' (0, 0)))
    (hr : All2 (RP S C.L w) l' cs') (hnd : (b :: ownFs l' cs').Nodup) (hown : ∀ k, k ∈ ownFs l' cs' → k ∈ owned w (.bx l) (rho a s) ∨ mine A a w G₀ k) :
    Inv C n S (dropF s (upd s (.bx l') A₁)) a w' := by
  obtain ⟨hlA, hgs, _⟩ := hA s _ hl
  have hb : b ∈ owned w (.bx l) (rho a s) := by rw [hs]; simp [owned]
  have hap := h.apart s _ hlA b hb
  have hkk := nodup_upd hk s (.bx l')
  have hmine : ∀ k, mine A a w G₀ k → mine A a w (fun k => k = s ∨ G₀ k) k := fun k ⟨t, v, hg, hl, hb⟩ => ⟨t, v, .inr hg, hl, hb⟩
  have hmine' : ∀ k, k ∈ owned w (.bx l) (rho a s) ∨ mine A a w G₀ k → mine A a w (fun k => k = s ∨ G₀ k) k := by
    rintro k (hk | hk)
    · exact mine_one (.inl rfl) hlA hk
    · exact hmine k hk
  have hblk : ∀ k, k < w.heap.size → k ≠ b → w'.heap[k]? = w.heap[k]? := fun k hk hne => hm.block k hk hne
  refine h.step (fun k => k = b) (fun k => k = s ∨ G₀ k) hm (fun k hk => by subst hk; exact mine_one (.inl rfl) hlA hb) h.size (fun _ _ => rfl) rfl (nodup_dropF hkk s) ((hbx.upd (by simp [AV.fref]) (fun _ _ => ⟨_, rfl⟩)).dropF hkk s)
    (fun _ hb => hb) (fun _ hb => .inl hb) ?_ ?_ ?_
  · intro k u hg hku
    have hnf := look_dropF_fref hkk hku
    rcases look_upd (look_dropF hkk hku) with ⟨e, _⟩ | ⟨h1, h2⟩
    · exact (hg (.inl e)).elim
    · obtain ⟨h3, h4, h5⟩ := hA k u h2
      refine ⟨h3, rfl, fun _ _ => rfl, fun t ht hgt => ?_⟩
      rcases hgt with rfl | hgt
      · exact (hnf ht).elim
      · exact (h5 t ht hgt).elim
  · intro k u hg hku
    rcases look_upd (look_dropF hkk hku) with ⟨rfl, rfl, _⟩ | ⟨h1, h2⟩
    · have hrow : owned w' (.bx l') (rho a k) = b :: ownFs l' cs' := by rw [hs]; simp [owned, rowOf_eq hh]
      refine ⟨⟨b, e', cs', hs, hh, ?_⟩, by rw [hrow]; exact hnd, ?_⟩
      · refine All2.of_get (fun i v hv => ?_) hr.length
        obtain ⟨x, hx, hrp⟩ := hr.get hv
        refine ⟨x, hx, RP.keep (fun _ hb => hb) (fun k hk => hblk k (h.lt k hk) ?_) hrp (fun k hk => hblk k (ownF_lt hrp k hk) ?_)⟩
        · rintro rfl
          rcases hk with hk | hk
          · exact hap.1 hk
          · exact hap.2.1 hk
        · rintro rfl
          exact (List.nodup_cons.1 hnd).1 (ownFs_mem hv hx hk)
      · intro k' hk'
        rw [hrow] at hk'
        have : k' ∈ owned w (.bx l) (rho a k) ∨ mine A a w G₀ k' := by
          rcases List.mem_cons.1 hk' with rfl | hk'
          · exact .inl hb
          · exact hown k' hk'
        refine ⟨?_, .inl (hmine' k' this)⟩
        rcases this with h1 | h1
        · exact (h.apart k _ hlA k' h1).1
        · exact (h.mine_apart h1).1
    · rcases hg with e | e
      · exact (h1 e).elim
      · exact ((hA k u h2).2.1 e).elim
  · intro k u t v hgk hgt hne hku htv
    have only : ∀ {k : Nat} {u : AV}, (k = s ∨ G₀ k) → look k (dropF s (upd s (.bx l') A₁)) = some u → k = s := by
      intro k u hg hku
      rcases look_upd (look_dropF hkk hku) with ⟨rfl, rfl, _⟩ | ⟨h1, h2⟩
      · rfl
      · rcases hg with e | e
        · exact e
        · exact ((hA k u h2).2.1 e).elim
    exact (hne ((only hgk hku).trans (only hgt htv).symm)).elim

/-- Another content for a box of one array, in its place. -/
theorem Inv.putBa {n : Rg} (h : Inv C n S A a w) {s b : Nat} {c c' : Sq} {cs' : List Value} {e' : TypeId} (hl : look s A = some (.ba c)) (hs : rho a s = .pointer (some ⟨b, 0, none⟩)) (hm : Mod (fun k => k = b) w w')
    (hh : w'.heap[b]? = some (.cells cs'.toArray e' (0, 0))) (hr : Cells S w c' cs') : Inv C n S (upd s (.ba c') A) a w' := by
  have hb : b ∈ owned w (.ba c) (rho a s) := by rw [hs]; simp [owned]
  have hap := h.apart s _ hl b hb
  have nb : ∀ t, t = s → ¬ ∃ l, look t A = some (.bx l) := by rintro t rfl ⟨l, hl'⟩; rw [hl] at hl'; cases hl'
  refine h.step (fun k => k = b) (fun k => k = s) hm (fun k hk => by subst hk; exact mine_one rfl hl hb) h.size (fun _ _ => rfl) rfl (nodup_upd h.keys s _) (h.bxs.upd (by simp [AV.fref]) (fun l hl' => by rw [hl] at hl'; cases hl'))
    (fun _ hb => hb) (fun _ hb => .inl hb) ?_ ?_ ?_
  · intro k u hg hku
    rcases look_upd hku with ⟨e, _⟩ | ⟨h1, h2⟩
    · exact (hg e).elim
    · exact ⟨h2, rfl, fun _ _ => rfl, fun t ht hgt => (nb t hgt (h.bxs k u t h2 ht)).elim⟩
  · intro k u hg hku
    rcases look_upd hku with ⟨rfl, rfl, _⟩ | ⟨h1, h2⟩
    · have hrow : owned w' (.ba c') (rho a k) = [b] := by rw [hs]; rfl
      refine ⟨⟨b, e', cs', hs, hh, hr.keep (fun _ hb => hb) (fun k hk => hm.block k (h.lt k (.inl hk)) (fun e => hap.1 (e ▸ hk)))⟩, by rw [hrow]; simp, ?_⟩
      intro k' hk'
      rw [hrow] at hk'
      simp at hk'
      subst hk'
      exact ⟨hap.1, .inl (mine_one rfl hl hb)⟩
    · exact (h1 hg).elim
  · intro k u t v hgk hgt hne
    exact (hne (hgk.trans hgt.symm)).elim
/-- Another content for an own row, in its place. -/
theorem Inv.putOw {n : Rg} (h : Inv C n S A a w) {s b : Nat} {e e' : TypeId} {c c' : Sq} (hl : look s A = some (.ow e c)) (hb : (rho a s).ownBlock = some b) (hm : Mod (fun k => k = b) w w')
    (hr : Own S w' e' c' (rho a s)) : Inv C n S (upd s (.ow e' c') A) a w' := by
  have hb' : b ∈ owned w (.ow e c) (rho a s) := owned_ow.2 hb
  have hap := h.apart s _ hl b hb'
  have nb : ∀ t, t = s → ¬ ∃ l, look t A = some (.bx l) := by rintro t rfl ⟨l, hl'⟩; rw [hl] at hl'; cases hl'
  refine h.step (fun k => k = b) (fun k => k = s) hm (fun k hk => by subst hk; exact mine_one rfl hl hb') h.size (fun _ _ => rfl) rfl (nodup_upd h.keys s _) (h.bxs.upd (by simp [AV.fref]) (fun l hl' => by rw [hl] at hl'; cases hl'))
    (fun _ hb => hb) (fun _ hb => .inl hb) ?_ ?_ ?_
  · intro k u hg hku
    rcases look_upd hku with ⟨e, _⟩ | ⟨h1, h2⟩
    · exact (hg e).elim
    · exact ⟨h2, rfl, fun _ _ => rfl, fun t ht hgt => (nb t hgt (h.bxs k u t h2 ht)).elim⟩
  · intro k u hg hku
    rcases look_upd hku with ⟨rfl, rfl, _⟩ | ⟨h1, h2⟩
    · refine ⟨hr, ?_, ?_⟩
      · cases rho a k with
        | slice p _ _ => cases p <;> simp [owned]
        | _ => simp [owned]
      · intro k' hk'
        have := owned_ow.1 hk'
        rw [hb] at this
        cases this
        exact ⟨hap.1, .inl (mine_one rfl hl hb')⟩
    · exact (h1 hg).elim
  · intro k u t v hgk hgt hne
    exact (hne (hgk.trans hgt.symm)).elim
theorem ownF_any (e e' : TypeId) (c c' : Sq) (y : Value) : ownF (.ow e c) y = ownF (.ow e' c') y := by
  cases y with
  | slice p _ _ => cases p <;> rfl
  | _ => rfl
theorem ownFs_set {u u' : AV} {y : Value} (hu : ownF u' y = ownF u y) : ∀ {l : List AV} {cs : List Value} {f : Nat}, l[f]? = some u → cs[f]? = some y → ownFs (l.set f u') cs = ownFs l cs
  | [], _, _, h, _ => by simp at h
  | _ :: _, [], _, _, h => by simp at h
  | _ :: _, _ :: _, 0, h, h' => by
    simp at h h'
    subst h; subst h'
    simp [ownFs, hu]
  | _ :: _, _ :: _, f + 1, h, h' => by
    simp at h h'
    simp [ownFs, ownFs_set hu h h']
/-- Another content for a box's own row, in its place. -/
theorem Inv.putOf {n : Rg} (h : Inv C n S A a w) {s f b r : Nat} {l : List AV} {e e' e₁ : TypeId} {c c' : Sq} {cs : List Value} {y : Value} (hl : look s A = some (.bx l)) (hs : rho a s = .pointer (some ⟨b, 0, none⟩)) (hh : w.heap[b]? = some (.cells cs.toArray e₁ (0, 0)))
    (hf : l[f]? = some (.ow e c)) (hy : cs[f]? = some y) (hb : y.ownBlock = some r) (hm : Mod (fun k => k = r) w w') (hr : Own S w' e' c' y) : Inv C n S (upd s (.bx (l.set f (.ow e' c'))) A) a w' := by
  obtain ⟨b2, e2, cs2, h4, h5, hrp⟩ := h.rel s _ hl
  have hbb : b = b2 := by have := hs.symm.trans h4; simpa using this
  subst hbb
  rw [hh] at h5
  simp at h5
  obtain ⟨rfl, rfl⟩ := h5
  have how : owned w (.bx l) (rho a s) = b :: ownFs l cs := by rw [hs]; simp [owned, rowOf_eq hh]
  have hrf : r ∈ ownF (.ow e c) y := by rw [ownF_ow (w := w)]; exact owned_ow.2 hb
  have hrm : r ∈ ownFs l cs := ownFs_mem hf hy hrf
  have hro : r ∈ owned w (.bx l) (rho a s) := by rw [how]; exact List.mem_cons_of_mem _ hrm
  have hnd : (b :: ownFs l cs).Nodup := by rw [← how]; exact h.nd s _ hl
  have hbr : b ≠ r := fun e => (List.nodup_cons.1 hnd).1 (e ▸ hrm)
  have hap := h.apart s _ hl r hro
  have hh' : w'.heap[b]? = some (.cells cs.toArray e₁ (0, 0)) := (hm.block b (heap_lt hh) hbr).trans hh
  have hset : ownFs (l.set f (.ow e' c')) cs = ownFs l cs := ownFs_set (ownF_any e' e c' c y) hf hy
  refine h.step (fun k => k = r) (fun k => k = s) hm (fun k hk => by subst hk; exact mine_one rfl hl hro) h.size (fun _ _ => rfl) rfl (nodup_upd h.keys s _) (h.bxs.upd (by simp [AV.fref]) (fun _ _ => ⟨_, rfl⟩))
    (fun _ hb => hb) (fun _ hb => .inl hb) ?_ ?_ ?_
  · intro k u hg hku
    rcases look_upd hku with ⟨e, _⟩ | ⟨h1, h2⟩
    · exact (hg e).elim
    · refine ⟨h2, rfl, fun _ _ => rfl, fun t ht hgt k' hk' e => ?_⟩
      subst hgt
      have : k' = b := by
        cases u <;> simp [AV.fref] at ht <;> subst ht <;> simpa [dep, hs] using hk'
      exact hbr (this.symm.trans e)
  · intro k u hg hku
    rcases look_upd hku with ⟨rfl, rfl, _⟩ | ⟨h1, h2⟩
    · have hrow : owned w' (.bx (l.set f (.ow e' c'))) (rho a k) = b :: ownFs l cs := by rw [hs]; simp [owned, rowOf_eq hh', hset]
      refine ⟨⟨b, e₁, cs, hs, hh', ?_⟩, by rw [hrow]; exact hnd, ?_⟩
      · have hlt : f < l.length := (List.getElem?_eq_some_iff.1 hf).1
        refine All2.of_get (fun i v hv => ?_) (by have := hrp.length; simp; omega)
        rw [List.getElem?_set] at hv
        split at hv
        · rename_i hi
          subst hi
          simp [hlt] at hv
          subst hv
          exact ⟨y, hy, hr⟩
        · rename_i hi
          obtain ⟨x, hx, hx'⟩ := hrp.get hv
          refine ⟨x, hx, RP.keep (fun _ hb => hb) (fun k hk => hm.block k (h.lt k hk) ?_) hx' (fun k hk => hm.block k (ownF_lt hx' k hk) ?_)⟩
          · rintro rfl
            rcases hk with hk | hk
            · exact hap.1 hk
            · exact hap.2.1 hk
          · rintro rfl
            exact ownFs_disj (List.nodup_cons.1 hnd).2 hf hy hv hx hi hrf hk
      · intro k' hk'
        rw [hrow, ← how] at hk'
        exact ⟨(h.apart k _ hl k' hk').1, .inl (mine_one rfl hl hk')⟩
    · exact (h1 hg).elim
  · intro k u t v hgk hgt hne
    exact (hne (hgk.trans hgt.symm)).elim
end
end Go.Gx

/-
  Gx20: the operation 'store' keeps the invariant.
  Conditions: none; laws for the machine's soundness.
-/
namespace Go.Gx
open Go

section
variable {P : Program} {C : Ctx} {E : Env} {S S' : Nat → Prop} {A : Fr} {a : Act} {w w' : World} {K : Fr → Prop} {next : Act → World → Prop} {Q : Exit → Act → World → Prop} {o : Oper}

theorem RP.one {v : AV} {x : Value} (h : RP S C.L w v x) (hj : v ≠ .jk) : x.oneCell' = true := by
  have ro : ∀ Z c, Ro S Z w c x → x.oneCell' = true := by
    intro Z c h
    obtain ⟨a', cap, cs, rfl, _⟩ := h.seg
    rfl
  cases v with
  | pv y =>
    obtain ⟨rfl, hs⟩ := h
    cases x <;> first | rfl | (simp [scal] at hs)
  | jk => exact (hj rfl).elim
  | nl e c => rw [show x = .slice none 0 0 from h.1]; rfl
  | sl c => exact ro _ c h
  | ls c => exact ro _ c h
  | ow e c =>
    rcases Own.form h with ⟨hx, _⟩ | ⟨b, cap, cs, cur, hx, _⟩
    · rw [hx]; rfl
    · rw [hx]; rfl
  | _ => exact h.elim
theorem set_ok {c : Sq} {cs : List Value} {i : Nat} {v : AV} {x : Value} {F : Sq → Prop} (hc : Cells S w c cs) (hv : RP S C.L w v x) (hg : c.set i v F) :
    ∃ c', F c' ∧ i < c.len ∧ c'.len = c.len ∧ Cells S w c' (cs.set i x) ∧ x.oneCell' = true ∧ x.cells = #[x] := by
  have h2 : v ≠ .jk := by rintro rfl; cases c <;> simp [Sq.set] at hg
  have h3 := RP.one hv h2
  have h4 := RP.cells (C := C) hv h2
  unfold Sq.set at hg
  split at hg
  · rename_i k l k' n
    split at hg
    · rename_i hk
      subst hk
      obtain ⟨hlt, hF⟩ := hg
      simp only [Cells] at hc
      subst hc
      exact ⟨_, hF, hlt, by simp [Sq.len], by simp [Cells, List.map_set, show x = .int k n from hv.1], h3, h4⟩
    · exact hg.elim
  · rename_i l n
    obtain ⟨hlt, hF⟩ := hg
    simp only [Cells] at hc
    subst hc
    exact ⟨_, hF, hlt, by simp [Sq.len], by simp [Cells, List.map_set, show x = .bool n from hv.1], h3, h4⟩
  · rename_i l r
    obtain ⟨hlt, hF⟩ := hg
    exact ⟨_, hF, hlt, by simp [Sq.len], All2.set (ro_row hv) i hc, h3, h4⟩
  · rename_i l r
    obtain ⟨hlt, hF⟩ := hg
    exact ⟨_, hF, hlt, by simp [Sq.len], All2.set (R := Row2 S w) hv i hc, h3, h4⟩
  · exact hg.elim
/-- What is given to a box's part. -/
theorem giveTo_ok {y : Operand} {v : AV} {A₁ : Fr} (h : Inv C E.n S A a w) (hg : giveTo A y = some (A₁, v)) :
    ∃ G₀ : Nat → Prop, (A₁.map (·.1)).Nodup ∧ Bxs A₁ ∧ (∀ k u, look k A₁ = some u → look k A = some u ∧ ¬ G₀ k ∧ ∀ t, t ∈ u.fref → ¬ G₀ t) ∧ RP S C.L w v (a.eval y) ∧ v ≠ .jk ∧ (ownF v (a.eval y)).Nodup ∧ (∀ k, k ∈ ownF v (a.eval y) → mine A a w G₀ k) ∧
      ((A₁ = A ∧ stat v = true) ∨ ∃ e c, v = .ow e c) := by
  have same : ∀ v, opd A y = some v → stat v = true → v ≠ .jk → ∃ G₀ : Nat → Prop, (A.map (·.1)).Nodup ∧ Bxs A ∧ (∀ k u, look k A = some u → look k A = some u ∧ ¬ G₀ k ∧ ∀ t, t ∈ u.fref → ¬ G₀ t) ∧ RP S C.L w v (a.eval y) ∧ v ≠ .jk ∧ (ownF v (a.eval y)).Nodup ∧ (∀ k, k ∈ ownF v (a.eval y) → mine A a w G₀ k) ∧
      ((A = A ∧ stat v = true) ∨ ∃ e c, v = .ow e c) := by
    intro v hy hv hj
    have hr := eval_opd h hy
    have hrp : RPs S C.L w v (a.eval y) := ⟨hv, by cases v <;> first | exact hr | (simp [stat] at hv)⟩
    have ho := RPs.ownF (C := C) hrp
    exact ⟨fun _ => False, h.keys, h.bxs, fun k u hk => ⟨hk, fun hb => hb, fun _ _ hb => hb⟩, hrp.2, hj, by rw [ho]; simp, by rw [ho]; simp, .inl ⟨rfl, hv⟩⟩
  have give : ∀ t e c, look t A = some (.ow e c) → a.eval y = rho a t → ∃ G₀ : Nat → Prop, ((dropR t A).map (·.1)).Nodup ∧ Bxs (dropR t A) ∧ (∀ k u, look k (dropR t A) = some u → look k A = some u ∧ ¬ G₀ k ∧ ∀ t, t ∈ u.fref → ¬ G₀ t) ∧ RP S C.L w (.ow e c) (a.eval y) ∧ AV.ow e c ≠ .jk ∧ (ownF (.ow e c) (a.eval y)).Nodup ∧ (∀ k, k ∈ ownF (.ow e c) (a.eval y) → mine A a w G₀ k) ∧
      ((dropR t A = A ∧ stat (.ow e c) = true) ∨ ∃ e' c', AV.ow e c = .ow e' c') := by
    intro t e c hl hev
    rw [hev]
    exact ⟨fun k => k = t, nodup_dropR h.keys t, h.bxs.dropR h.keys t, dropR_keep h t, h.rel t _ hl, by simp, by rw [ownF_ow (w := w)]; exact h.nd t _ hl, fun k hk => mine_one rfl hl (by rw [← ownF_ow]; exact hk), .inr ⟨e, c, rfl⟩⟩
  unfold giveTo at hg
  split at hg
  · rename_i x hy; simp at hg; obtain ⟨rfl, rfl⟩ := hg; exact same _ hy rfl (by simp)
  · rename_i x hy; simp at hg; obtain ⟨rfl, rfl⟩ := hg; exact same _ hy rfl (by simp)
  · rename_i x hy; simp at hg; obtain ⟨rfl, rfl⟩ := hg; exact same _ hy rfl (by simp)
  · rename_i e x hy; simp at hg; obtain ⟨rfl, rfl⟩ := hg; exact same _ hy rfl (by simp)
  · rename_i e c hy
    cases y with
    | tmp t =>
      simp [otmp] at hg
      obtain ⟨rfl, rfl⟩ := hg
      exact give t e c hy rfl
    | _ => simp [otmp] at hg
  · rename_i s hy
    split at hg
    · rename_i e c hl
      simp at hg
      obtain ⟨rfl, rfl⟩ := hg
      exact give s e c hl (eval_opd h hy)
    · simp at hg
  · simp at hg

theorem ownFs_setm {v : AV} {x : Value} : ∀ {l : List AV} {cs : List Value} {i k : Nat}, k ∈ ownFs (l.set i v) (cs.set i x) → k ∈ ownF v x ∨ k ∈ ownFs l cs
  | [], _, _, _, h => .inr h
  | _ :: _, [], i, _, h => by cases i <;> simp [ownFs] at h
  | _ :: _, _ :: _, 0, k, h => by
    simp only [List.set_cons_zero, ownFs, List.mem_append] at h ⊢
    exact h.imp id .inr
  | _ :: _, _ :: _, i + 1, k, h => by
    simp only [List.set_cons_succ, ownFs, List.mem_append] at h ⊢
    rcases h with h | h
    · exact .inr (.inl h)
    · exact (ownFs_setm h).imp id .inr
theorem ownFs_setn {v : AV} {x : Value} (hv : (ownF v x).Nodup) : ∀ {l : List AV} {cs : List Value} {i : Nat}, (ownFs l cs).Nodup → (∀ k, k ∈ ownF v x → k ∉ ownFs l cs) → (ownFs (l.set i v) (cs.set i x)).Nodup
  | [], _, _, h, _ => h
  | _ :: _, [], i, _, _ => by cases i <;> simp [ownFs]
  | _ :: _, _ :: _, 0, h, hd => by
    simp only [List.set_cons_zero, ownFs, List.nodup_append, List.mem_append] at h hd ⊢
    exact ⟨hv, h.2.1, fun a ha b hb e => hd a ha (.inr (e ▸ hb))⟩
  | _ :: _, _ :: _, i + 1, h, hd => by
    simp only [List.set_cons_succ, ownFs, List.nodup_append, List.mem_append] at h hd ⊢
    refine ⟨h.1, ownFs_setn hv h.2.1 (fun k hk hk' => hd k hk (.inr hk')), fun a ha b hb e => ?_⟩
    rcases ownFs_setm hb with hb | hb
    · exact hd b hb (.inl (e ▸ ha))
    · exact h.2.2 a ha b hb e
theorem ownFs_app : ∀ {l l' : List AV} {cs cs' : List Value}, cs.length = l.length → ownFs (l ++ l') (cs ++ cs') = ownFs l cs ++ ownFs l' cs'
  | [], _, [], _, _ => rfl
  | _ :: _, _, _ :: _, _, h => by simp only [List.cons_append, ownFs, List.append_assoc]; rw [ownFs_app (by simpa using h)]
  | [], _, _ :: _, _, h => by simp at h
  | _ :: _, _, [], _, h => by simp at h
theorem ownFs_part (l : List AV) (cs : List Value) (h : cs.length = l.length) (off m : Nat) : (ownFs (l.take off) (cs.take off) ++ ownFs (l.drop (off + m)) (cs.drop (off + m))).Sublist (ownFs l cs) := by
  have e1 : l = l.take off ++ ((l.drop off).take m ++ l.drop (off + m)) := by
    rw [← List.drop_drop, List.take_append_drop, List.take_append_drop]
  have e2 : cs = cs.take off ++ ((cs.drop off).take m ++ cs.drop (off + m)) := by
    rw [← List.drop_drop, List.take_append_drop, List.take_append_drop]
  have : ownFs l cs = ownFs (l.take off) (cs.take off) ++ (ownFs ((l.drop off).take m) ((cs.drop off).take m) ++ ownFs (l.drop (off + m)) (cs.drop (off + m))) := by
    conv => lhs; rw [e1, e2]
    rw [ownFs_app (by simp; omega), ownFs_app (by simp; omega)]
  rw [this]
  exact List.Sublist.append (List.Sublist.refl _) (List.sublist_append_right _ _)

theorem store_fin {T : TypeId} {x y : Operand} (hop : o.op = .store T x y) (hd : o.dst = none) {b off : Nat} {cs vs : List Value} {e : TypeId} (hx : a.eval x = .pointer (some ⟨b, off, none⟩)) (hh : w.heap[b]? = some (.cells cs.toArray e (0, 0))) (hy : (a.eval y).cells = vs.toArray)
    (hsz : (sizeOf T).run P w = .ok vs.length w) (h1 : ∀ v, v ∈ vs → v.oneCell' = true) (hfit : off + vs.length ≤ cs.length)
    (hn : ∀ w', Mod (fun k => k = b) w w' → w'.heap[b]? = some (.cells (cs.take off ++ vs ++ cs.drop (off + vs.length)).toArray e (0, 0)) → next a w') : o.wp P a w next Q := by
  have hr := run_storeAt (P := P) (T := T) hh hy hsz h1 (by simpa using hfit)
  refine wp_unit (w' := w.setRow b (cs.take off ++ vs ++ cs.drop (off + vs.length)).toArray) ?_ ?_
  · rw [ex_store hop, hx, Sem.run_bind, hr]; rfl
  · rw [hd, put_none]
    exact hn _ (Mod.setRow w b _) (setRow_heap w b _ _ e _ hh)
theorem storeBox_ok {T : TypeId} {x y : Operand} {s b off : Nat} (hop : o.op = .store T x y) (hd : o.dst = none) (hte : teOK P E.te = true) (h : Inv C E.n S A a w) (hp : a.eval x = .pointer (some ⟨b, off, none⟩)) (hs : rho a s = .pointer (some ⟨b, 0, none⟩))
    (hK : astoreBox E A T s off y K) (hn : Nx C E.n S K next) : o.wp P a w next Q := by
  unfold astoreBox at hK
  split at hK
  · exact hK.elim
  · rename_i hsc
    have hsz := (agg_sc (P := P) (w := w) hte hsc).2
    split at hK
    · rename_i A₁ v hg
      obtain ⟨G₀, hk, hbx, hA, hrp, hj, hnd, hmi, hst⟩ := giveTo_ok h hg
      split at hK
      · rename_i l hl
        split at hK
        · rename_i hlt
          obtain ⟨hlA, hgs, _⟩ := hA s _ hl
          obtain ⟨b2, e, cs, hx, hh, hr⟩ := h.rel s _ hlA
          have hb : b = b2 := by have := hs.symm.trans hx; simpa using this
          subst hb
          have hcl := hr.length
          refine store_fin hop hd hp hh (vs := [a.eval y]) (RP.cells (C := C) hrp hj) hsz (by simpa using RP.one hrp hj) (by simp; omega) ?_
          intro w' hm hh'
          simp only [List.length_singleton] at hh'
          rw [set_mid cs off _ (by omega)] at hh'
          have how : owned w (.bx l) (rho a s) = b :: ownFs l cs := by rw [hs]; simp [owned, rowOf_eq hh]
          have hnd0 : (b :: ownFs l cs).Nodup := by rw [← how]; exact h.nd s _ hlA
          have hdis : ∀ k, k ∈ ownF v (a.eval y) → k ∉ b :: ownFs l cs := fun k hk => by rw [← how]; exact h.mine_not (hmi k hk) hgs hlA
          refine hn _ _ _ S (h.putBx G₀ A₁ hk hbx hA hl hs hm hh' (All2.set hrp off hr) ?_ ?_) (fun _ hb => hb) hK
          · rw [List.nodup_cons] at hnd0 ⊢
            refine ⟨fun hm => ?_, ownFs_setn hnd hnd0.2 (fun k hk hk' => hdis k hk (List.mem_cons_of_mem _ hk'))⟩
            rcases ownFs_setm hm with hm | hm
            · exact hdis b hm (List.mem_cons_self ..)
            · exact hnd0.1 hm
          · intro k hk
            rcases ownFs_setm hk with hk | hk
            · exact .inr (hmi k hk)
            · exact .inl (by rw [how]; exact List.mem_cons_of_mem _ hk)
        · exact hK.elim
      · rename_i c hl
        rcases hst with ⟨rfl, hst⟩ | ⟨e', c', rfl⟩
        · obtain ⟨b2, e, cs, hx, hh, hr⟩ := h.rel s _ hl
          have hb : b = b2 := by have := hs.symm.trans hx; simpa using this
          subst hb
          obtain ⟨c', hK, hlt, _, hr', h1, hc1⟩ := set_ok hr hrp hK
          have hcl : cs.length = c.len := Cells.length hr
          refine store_fin hop hd hp hh (vs := [a.eval y]) hc1 hsz (by simpa using h1) (by simp; omega) ?_
          intro w' hm hh'
          simp only [List.length_singleton] at hh'
          rw [set_mid cs off _ (by omega)] at hh'
          exact hn _ _ _ S (h.putBa hl hs hm hh' hr') (fun _ hb => hb) hK
        · cases c <;> simp [Sq.set] at hK
      · exact hK.elim
    · exact hK.elim
  · rename_i m hag
    have hsz := (agg_agg (P := P) (w := w) hte hag).2
    split at hK
    · rename_i v hy
      split at hK
      · rename_i l hl
        split at hK
        · rename_i hlen
          simp only [Bool.and_eq_true, decide_eq_true_eq, beq_iff_eq] at hlen
          obtain ⟨hfit, hvl, hvk⟩ := hlen
          obtain ⟨b2, e, cs, hx, hh, hr⟩ := h.rel s _ hl
          have hb : b = b2 := by have := hs.symm.trans hx; simpa using this
          subst hb
          obtain ⟨ds, hev, hds⟩ := eval_opd h hy
          have hcl := hr.length
          have hdl := hds.length
          have hnj : ∀ u, u ∈ ds → u.oneCell' = true := by
            intro u hu
            obtain ⟨i, hi⟩ := List.getElem?_of_mem hu
            obtain ⟨v', hv', hrp⟩ := hds.get' hi
            refine RP.one hrp.2 ?_
            rintro rfl
            have := List.all_eq_true.1 hvk _ (List.mem_of_getElem? hv')
            simp [AV.known] at this
          refine store_fin hop hd hp hh (vs := ds) (by rw [hev]; rfl) (by rw [hsz, hdl, hvl]) hnj (by omega) ?_
          intro w' hm hh'
          have how : owned w (.bx l) (rho a s) = b :: ownFs l cs := by rw [hs]; simp [owned, rowOf_eq hh]
          have hnd0 : (b :: ownFs l cs).Nodup := by rw [← how]; exact h.nd s _ hl
          have hdm : ds.length = m := by omega
          rw [hdm] at hh'
          have hfs : ownFs (l.take off ++ v ++ l.drop (off + m)) (cs.take off ++ ds ++ cs.drop (off + m)) = ownFs (l.take off) (cs.take off) ++ ownFs (l.drop (off + m)) (cs.drop (off + m)) := by
            rw [ownFs_app (by simp; omega), ownFs_app (by simp; omega), RPss.ownFs hds, List.append_nil]
          have hsub := ownFs_part l cs hcl off m
          refine hn _ _ _ S (h.putBx (fun _ => False) A h.keys h.bxs (fun k u hk => ⟨hk, fun hb => hb, fun _ _ hb => hb⟩) hl hs hm hh' (((hr.take off).append (All2.mono (fun _ _ h => h.2) hds)).append (hr.drop (off + m))) ?_ ?_) (fun _ hb => hb) hK
          · rw [hfs]; exact hnd0.sublist (hsub.cons_cons b)
          · intro k hk
            rw [hfs] at hk
            exact .inl (by rw [how]; exact List.mem_cons_of_mem _ (hsub.subset hk))
        · exact hK.elim
      · exact hK.elim
    · rename_i c hy
      split at hK
      · rename_i d hl
        obtain ⟨rfl, hcm, hdm, hK⟩ := hK
        obtain ⟨b2, e, cs, hx, hh, hr⟩ := h.rel s _ hl
        have hb : b = b2 := by have := hs.symm.trans hx; simpa using this
        subst hb
        obtain ⟨ds, hev, hds⟩ := eval_opd h hy
        have hds : Cells S w c ds := hds
        have hr : Cells S w d cs := hr
        have hcl := hr.length
        have hdl := hds.length
        refine store_fin hop hd hp hh (vs := ds) (by rw [hev]; rfl) (by rw [hsz, hdl, hcm]) hds.one (by omega) ?_
        intro w' hm hh'
        rw [List.take_zero, List.nil_append, List.drop_of_length_le (by omega), List.append_nil] at hh'
        exact hn _ _ _ S (h.putBa hl hs hm hh' hds) (fun _ hb => hb) hK
      · exact hK.elim
    · exact hK.elim

theorem Own.set {e : TypeId} {c c' : Sq} {x : Value} {b i : Nat} {v : Value} {cur : Array Value} {cap len : Nat} (hx : x = .slice (some ⟨b, 0, none⟩) len cap) (hlen : len = c.len) (hcap : len ≤ cap) (hcm : cap ≤ maxLen) (hcs : cur.size = cap) (hi : i < c.len) (hcl : c'.len = c.len)
    (hh : w'.heap[b]? = some (.cells (cur.toList.take i ++ [v] ++ cur.toList.drop (i + 1)).toArray e (0, 0))) (hc : Cells S w' c' ((cur.toList.take c.len).set i v)) : Own S w' e c' x := by
  subst hlen
  have hsz : i < cur.toList.length := by simp; omega
  rw [set_mid _ _ _ hsz] at hh
  have hl : ((cur.toList.take c.len).set i v).length = c.len := by simp; omega
  refine ⟨_, hc, by simp, .inr ⟨b, cap, _, by rw [hx, hl], Nat.zero_le _, hh, by omega, hcm, by simp; omega, ?_⟩⟩
  rw [hl, Nat.mul_one, List.take_set]
theorem store_ok {T : TypeId} {x y : Operand} (hop : o.op = .store T x y) (hd : o.dst = none) (hte : teOK P E.te = true) (h : Inv C E.n S A a w) (hK : astore E A T x y K) (hn : Nx C E.n S K next) : o.wp P a w next Q := by
  unfold astore at hK
  split at hK
  · rename_i t
    have hev : a.eval (.tmp t) = rho a t := rfl
    split at hK
    · rename_i l hl
      obtain ⟨b, e, cs, hx, _⟩ := h.rel t _ hl
      exact storeBox_ok hop hd hte h (hev.trans hx) hx hK hn
    · rename_i l hl
      obtain ⟨b, e, cs, hx, _⟩ := h.rel t _ hl
      exact storeBox_ok hop hd hte h (hev.trans hx) hx hK hn
    · rename_i s off hl
      obtain ⟨b, hs, hx⟩ := h.rel t _ hl
      exact storeBox_ok hop hd hte h (hev.trans hx) hs hK hn
    · rename_i s i hl
      split at hK
      · rename_i A₁ v hf hsc
        have hsz := (agg_sc (P := P) (w := w) hte hsc).2
        obtain ⟨b, len, cap, hs, hx⟩ := h.rel t _ hl
        unfold frzO at hf
        cases hy : opd A y with
        | none => simp [hy] at hf
        | some u =>
          simp [hy] at hf
          obtain ⟨S₁, hS, hi, hrp, hj⟩ := frz_ok h hy hf
          split at hK
          · rename_i e c hls
            have ho : Own S₁ w e c (rho a s) := hi.rel s _ hls
            rcases ho.form with ⟨hx', hz⟩ | ⟨b', cap', cs, cur, hx', hg, hc, hcl, hle, hcm, hcs, ht⟩
            · rw [hs] at hx'; cases hx'
            · rw [hs] at hx'
              simp only [Value.slice.injEq, Option.some.injEq, Addr.mk.injEq, and_true] at hx'
              obtain ⟨rfl, rfl, rfl⟩ := hx'
              obtain ⟨c', hK, hlt, hcl', hr', h1, hc1⟩ := set_ok hc hrp.2 hK
              refine store_fin hop hd (cs := cur.toList) (hev.trans hx) (by simpa using hg) (vs := [a.eval y]) hc1 hsz (by simpa using h1) (by simp; omega) ?_
              intro w' hm hh'
              simp only [List.length_singleton] at hh'
              have hap := hi.apart s _ hls b (owned_ow.2 (by rw [hs]; rfl))
              have hkeep : ∀ k, S₁ k → w'.heap[k]? = w.heap[k]? := fun k hk => hm.block k (hi.lt k (.inl hk)) (fun e => hap.1 (e ▸ hk))
              exact hn _ _ _ S₁ (hi.putOw hls (b := b) (by rw [hs]; rfl) hm (Own.set (v := a.eval y) hs rfl hle hcm hcs hlt hcl' hh' (by rw [ht]; exact hr'.keep (fun _ hb => hb) hkeep))) hS hK
          · exact hK.elim
      · exact hK.elim
    · rename_i s f i hl
      split at hK
      · rename_i A₁ v hf hsc
        have hsz := (agg_sc (P := P) (w := w) hte hsc).2
        obtain ⟨b, e1, b', len, cap, cs, hs, hh, hcf, hx⟩ := h.rel t _ hl
        unfold frzO at hf
        cases hy : opd A y with
        | none => simp [hy] at hf
        | some u =>
          simp [hy] at hf
          obtain ⟨S₁, hS, hi, hrp, hj⟩ := frz_ok h hy hf
          split at hK
          · rename_i l hls
            split at hK
            · rename_i e c hlf
              obtain ⟨b2, e2, cs2, h4, h5, h6⟩ := hi.rel s _ hls
              have hb : b = b2 := by have := hs.symm.trans h4; simpa using this
              subst hb
              rw [hh] at h5
              simp at h5
              obtain ⟨rfl, rfl⟩ := h5
              obtain ⟨y', hy', hr6⟩ := h6.get hlf
              rw [hcf] at hy'
              cases hy'
              have ho : Own S₁ w e c _ := hr6
              rcases ho.form with ⟨hx', hz⟩ | ⟨b3, cap', cs', cur, hx', hg, hc, hcl, hle, hcm, hcs, ht⟩
              · cases hx'
              · simp only [Value.slice.injEq, Option.some.injEq, Addr.mk.injEq, and_true] at hx'
                obtain ⟨rfl, rfl, rfl⟩ := hx'
                obtain ⟨c', hK, hlt, hcl', hr', h1, hc1⟩ := set_ok hc hrp.2 hK
                refine store_fin hop hd (cs := cur.toList) (hev.trans hx) (by simpa using hg) (vs := [a.eval y]) hc1 hsz (by simpa using h1) (by simp; omega) ?_
                intro w' hm hh'
                simp only [List.length_singleton] at hh'
                have hin : b' ∈ owned w (.bx l) (rho a s) := by
                  rw [show rho a s = _ from hs]
                  simp only [owned, rowOf_eq hh]
                  exact List.mem_cons_of_mem _ (ownFs_mem hlf hcf (by simp [ownF]))
                have hap := hi.apart s _ hls b' hin
                have hkeep : ∀ k, S₁ k → w'.heap[k]? = w.heap[k]? := fun k hk => hm.block k (hi.lt k (.inl hk)) (fun e => hap.1 (e ▸ hk))
                exact hn _ _ _ S₁ (hi.putOf hls hs hh hlf hcf (r := b') rfl hm (Own.set (v := a.eval y) rfl rfl hle hcm hcs hlt hcl' hh' (by rw [ht]; exact hr'.keep (fun _ hb => hb) hkeep))) hS hK
            · exact hK.elim
          · exact hK.elim
      · exact hK.elim
    · exact hK.elim
  · exact hK.elim
end
end Go.Gx
