/- The symbolic executor, part a: its words (abstract values and states, one operation's effect, the conditions of a piece of code). Plain definitions; nothing of a program in them. -/
import Derived.WalkKit
import Derived.WalkLawsBesides
namespace Go.Proofs.YtggappbiedkopaaGreat.SX
open Go Go.RowKit

/-- Read-only data, a cell: a value; a slice of n elements of sz cells each, cell (i, j) being f i j; a pointer to m cells. -/
inductive L where
  | lit (x : Value)
  | sl (sz n : Nat) (f : Nat → Nat → L)
  | pt (m : Nat) (g : Nat → L)

/-- What is known of a cell. -/
inductive C where
  | any
  | k (x : Value)
  | v (x : Value)
  | p (i off : Nat)
  | s (i cnt : Nat)
  | h (i : Nat)
  | sl (fr : Bool) (sz n : Nat) (f : Nat → Nat → L)
  | ep (fr : Bool) (m : Nat) (g : Nat → L)
  | eh (i sz idx j : Nat)
  | f (g : Nat) (caps : List Nat)

/-- What is known of a temporary: one cell, an aggregate, a tuple. -/
inductive SV where
  | o (c : C)
  | a (cs : List C)
  | t (vs : List (Bool × List C))

/-- A slice that the call itself made: element type, cells per element, length, content. -/
structure OR where
  T : Nat
  sz : Nat
  n : Nat
  f : Nat → Nat → L
  fr : Bool

structure SS where
  tm : Nat → SV
  bl : Nat → Option (Nat × List C)
  ow : Nat → Option OR
  nx : Nat
  nt : Nat

def upd {α : Type} (g : Nat → α) (i : Nat) (x : α) : Nat → α := fun j => bif Nat.beq j i then x else g j
theorem upd_same {α : Type} (g : Nat → α) (i : Nat) (x : α) : upd g i x i = x := by
  unfold upd
  rw [Nat.beq_refl]
  rfl
theorem upd_ne {α : Type} (g : Nat → α) {i j : Nat} (x : α) (h : j ≠ i) : upd g i x j = g j := by
  unfold upd
  cases hb : Nat.beq j i
  · rfl
  · exact absurd (Nat.eq_of_beq_eq_true hb) h

inductive TK where
  | sc
  | str
  | bl
  | pt (e : Nat)
  | int (k : IntKind)
  | st (fs : List (Nat × Nat))
  | ar (n e : Nat)
  | sl (e : Nat)

/-- kinds of cells that '==' of a struct compares -/
inductive EK where
  | int (k : IntKind)
  | bool
  | str

structure TI where
  sz : Nat
  byt : Nat
  z : List Value
  kd : TK
  eq : Option (List EK) := none

abbrev Res := List (Bool × List L)
abbrev Spec := Res → Option (Prop × Res)

/-- a captured variable: data; or one cell, that holds a row of the caller's own (of elements of type T, sz cells each) -/
inductive CK where
  | dat
  | row (T sz : Nat)
inductive CV where
  | d (ls : List L)
  | r (r : OR)
/-- a closure that writes what it captured: arguments, what the captured variables hold ↦ premise, result, what they hold then -/
structure ClSpec where
  ks : List CK
  f : Res → List CV → Option (Prop × Res × List CV)

/-- memory by local names: blocks, rows, the next name -/
structure LM where
  bs : List (Nat × Nat × List C)
  os : List (Nat × OR)
  nx : Nat

structure Env where
  tt : Nat → Option TI
  ct : Nat → Option Spec
  cl : Nat → Option ClSpec
  call : Nat → Res → Res → Prop := fun _ _ _ => False
  kd : Nat → Option (List CK) := fun _ => none
  clo : Nat → Res → List CV → Res → List CV → Prop := fun _ _ _ _ _ => False
  ix : Option Nat := none
  lit : Nat → Option Bool := fun _ => none
  isHv : Nat → Bool := fun _ => false
  hv : Nat → List SV → LM → SV → LM → Prop := fun _ _ _ _ _ => False
  sq : Nat → Nat → List Value → (ι : Type) → (ι → List Value) → (List ι → Prop) → Nat → Prop := fun _ _ _ _ _ _ _ => False
  isAp : Nat → Bool := fun _ => false
  apR : Nat → OR → Res → OR → Prop := fun _ _ _ _ => False
  ap : Nat → Option (OR → Res → Option OR) := fun _ => none
  old : Nat → Bool := fun _ => false

def TI.agg (t : TI) : Bool := match t.kd with
  | .st _ => true
  | .ar _ _ => true
  | _ => false

/-! ### values of operands -/
def one (x : Value) : Bool := match x with
  | .agg _ => false
  | .tuple _ => false
  | _ => true

def allOne (xs : List Value) : Bool := match xs with
  | [] => true
  | x :: xs => match one x with
    | true => allOne xs
    | false => false

def constSV (x : Value) : SV := match x with
  | .agg cs => match allOne cs.toList with
    | true => .a (cs.toList.map .k)
    | false => .o .any
  | .tuple _ => .o .any
  | x => .o (.k x)

def opv (s : SS) (x : Operand) : SV := match x with
  | .tmp t => s.tm t
  | .const x => constSV x
  | .func g => .o (.f g [])
  | .global _ => .o .any

/-- a function of the text that captured nothing, as data -/
def normF (x : SV) : SV := match x with
  | .o (.v (.func (.func g) a b)) => match a.toList with
    | [] => match b.toList with
      | [] => .o (.f g [])
      | _ => x
    | _ => x
  | x => x
def okC (c : C) : Bool := match c with
  | .any => false
  | .k x => one x
  | _ => true

def SV.cells (x : SV) : Option (List C) := match x with
  | .o c => match okC c with
    | true => some [c]
    | false => none
  | .a cs => some cs
  | .t _ => none

/-! ### arithmetic -/
def eq1 (x y : Value) : Bool := match x, y with
  | .int _ a, .int _ b => a == b
  | .bool a, .bool b => a == b
  | .string a, .string b => a.toList == b.toList
  | _, _ => false
def eqL (xs ys : List Value) : Bool := match xs, ys with
  | [], [] => true
  | x :: xs, y :: ys => eq1 x y && eqL xs ys
  | _, _ => false

/-- an integer operation: an obligation, and the value -/
def intOp (op : BinOp) (k : IntKind) (a b : Int) : Option (Option Prop × Value) := match op with
  | .add => some (none, .int k (k.wrap (a + b)))
  | .sub => some (none, .int k (k.wrap (a - b)))
  | .mul => some (none, .int k (k.wrap (a * b)))
  | .quo => some (some (b ≠ 0), .int k (k.wrap (a.tdiv b)))
  | .rem => some (some (b ≠ 0), .int k (a.tmod b))
  | .eql => some (none, .bool (a == b))
  | .neq => some (none, .bool (a != b))
  | .lss => some (none, .bool (decide (a < b)))
  | .leq => some (none, .bool (decide (a ≤ b)))
  | .gtr => some (none, .bool (decide (a > b)))
  | .geq => some (none, .bool (decide (a ≥ b)))
  | .shl => some (some (0 ≤ b ∧ b ≤ k.bits), .int k (k.wrap (a * 2 ^ b.toNat)))
  | .shr => some (some (0 ≤ b ∧ b ≤ k.bits), .int k (a.fdiv (2 ^ b.toNat)))
  | .and => some (none, .int k (k.wrap (BitVec.ofInt k.bits a &&& BitVec.ofInt k.bits b).toNat))
  | .or => some (none, .int k (k.wrap (BitVec.ofInt k.bits a ||| BitVec.ofInt k.bits b).toNat))
  | .xor => some (none, .int k (k.wrap (BitVec.ofInt k.bits a ^^^ BitVec.ofInt k.bits b).toNat))
  | .andNot => none

def isShift (op : BinOp) : Bool := match op with
  | .shl => true
  | .shr => true
  | _ => false

/-- a number of the text: computed, so that tests over it are decided -/
def normI (n : Int) : Int := match n with
  | .ofNat m => .ofNat m
  | .negSucc m => .negSucc m

def litV (x : Value) : Value := match x with
  | .int k n => .int k (normI n)
  | .bool b => .bool (match b with | true => true | false => false)
  | x => x

/-- an obligation that the numbers of the text decide -/
def litOb (op : BinOp) (b : Int) : Bool := match op with
  | .quo => !(b == 0)
  | .rem => !(b == 0)
  | .shl => decide (0 ≤ b ∧ b ≤ 8)
  | .shr => decide (0 ≤ b ∧ b ≤ 8)
  | _ => false

def binInt (op : BinOp) (lx ly : Bool) (k k' : IntKind) (a b : Int) : Option (Option Prop × C) :=
  if k = k' ∨ isShift op = true then
    match intOp op k a b with
    | some (ob, x) => some ((if ly && litOb op b then none else ob), if lx && ly then .k (litV x) else .v x)
    | none => none
  else none

def bin (op : BinOp) (x y : C) : Option (Option Prop × C) := match x with
  | .k (.int k a) => match y with
    | .k (.int k' b) => binInt op true true k k' a b
    | .v (.int k' b) => binInt op false false k k' a b
    | _ => none
  | .v (.int k a) => match y with
    | .k (.int k' b) => binInt op false true k k' a b
    | .v (.int k' b) => binInt op false false k k' a b
    | _ => none
  | .v (.bool a) => match y with
    | .v (.bool b) => match op with
      | .eql => some (none, .v (.bool (a == b)))
      | .neq => some (none, .v (.bool (!(a == b))))
      | _ => none
    | .k (.bool b) => match op with
      | .eql => some (none, .v (.bool (a == b)))
      | .neq => some (none, .v (.bool (!(a == b))))
      | _ => none
    | _ => none
  | .k (.bool a) => match y with
    | .v (.bool b) => match op with
      | .eql => some (none, .v (.bool (a == b)))
      | .neq => some (none, .v (.bool (!(a == b))))
      | _ => none
    | .k (.bool b) => match op with
      | .eql => some (none, .v (.bool (a == b)))
      | .neq => some (none, .v (.bool (!(a == b))))
      | _ => none
    | _ => none
  | .v (.string a) => match y with
    | .v (.string b) => match op with
      | .eql => some (none, .v (.bool (a.toList == b.toList)))
      | .neq => some (none, .v (.bool (!(a.toList == b.toList))))
      | _ => none
    | .k (.string b) => match op with
      | .eql => some (none, .v (.bool (a.toList == b.toList)))
      | .neq => some (none, .v (.bool (!(a.toList == b.toList))))
      | _ => none
    | _ => none
  | .k (.string a) => match y with
    | .v (.string b) => match op with
      | .eql => some (none, .v (.bool (a.toList == b.toList)))
      | .neq => some (none, .v (.bool (!(a.toList == b.toList))))
      | _ => none
    | .k (.string b) => match op with
      | .eql => some (none, .v (.bool (a.toList == b.toList)))
      | .neq => some (none, .v (.bool (!(a.toList == b.toList))))
      | _ => none
    | _ => none
  | .p _ _ => match y with
    | .k (.pointer none) => match op with
      | .eql => some (none, .k (.bool false))
      | .neq => some (none, .k (.bool true))
      | _ => none
    | _ => none
  | .ep _ _ _ => match y with
    | .k (.pointer none) => match op with
      | .eql => some (none, .k (.bool false))
      | .neq => some (none, .k (.bool true))
      | _ => none
    | _ => none
  | .v (.pointer none) => match y with
    | .k (.pointer none) => match op with
      | .eql => some (none, .k (.bool true))
      | .neq => some (none, .k (.bool false))
      | _ => none
    | _ => none
  | .k (.pointer none) => match y with
    | .k (.pointer none) => match op with
      | .eql => some (none, .k (.bool true))
      | .neq => some (none, .k (.bool false))
      | _ => none
    | _ => none
  | _ => none

def valOf (c : C) : Option Value := match c with
  | .k x => some x
  | .v x => some x
  | _ => none
def valsOf (cs : List C) : Option (List Value) := match cs with
  | [] => some []
  | c :: cs => match valOf c with
    | some x => match valsOf cs with
      | some xs => some (x :: xs)
      | none => none
    | none => none

def ekOK (e : EK) (x : Value) : Bool := match e, x with
  | .int k, .int k' _ => decide (k = k')
  | .bool, .bool _ => true
  | .str, .string _ => true
  | _, _ => false
def eksOK (es : List EK) (xs : List Value) : Bool := match es, xs with
  | [], [] => true
  | e :: es, x :: xs => match ekOK e x with
    | true => eksOK es xs
    | false => false
  | _, _ => false

/-- bools and pointers are compared at their own types -/
def binT (tt : Nat → Option TI) (T : Nat) (c : C) : Bool :=
  let isB : Bool := match tt T with
    | some ti => match ti.kd with
      | .bl => true
      | _ => false
    | none => false
  let isP : Bool := match tt T with
    | some ti => match ti.kd with
      | .pt _ => true
      | _ => false
    | none => false
  match c with
  | .p _ _ => isP
  | .ep _ _ _ => isP
  | .k (.pointer none) => isP
  | .v (.pointer none) => isP
  | .v (.bool _) => isB
  | .k (.bool _) => isB
  | _ => true

def binAgg (ti : TI) (op : BinOp) (xs ys : List C) : Option (Option Prop × C) :=
  match ti.eq with
  | some es => match valsOf xs with
    | some vx => match valsOf ys with
      | some vy => match eksOK es vx with
        | true => match eksOK es vy with
          | true => match op with
            | .eql => some (none, .v (.bool (eqL vx vy)))
            | .neq => some (none, .v (.bool (!(eqL vx vy))))
            | _ => none
          | false => none
        | false => none
      | none => none
    | none => none
  | none => none

/-! ### between cells and data -/
def ofL (fr : Bool) (l : L) : C := match l with
  | .lit x => .v x
  | .sl sz n f => .sl fr sz n f
  | .pt m g => .ep fr m g

def litOf (c : C) : Option L := match c with
  | .k x => some (.lit x)
  | .v x => some (.lit x)
  | .sl _ sz n f => some (.sl sz n f)
  | .ep _ m g => some (.pt m g)
  | _ => none
def litsOf (cs : List C) : Option (List L) := match cs with
  | [] => some []
  | c :: cs => match litOf c with
    | some x => match litsOf cs with
      | some xs => some (x :: xs)
      | none => none
    | none => none

def nth (ls : List L) (i : Nat) : L := match ls with
  | [] => .lit undef
  | l :: ls => match i with
    | 0 => l
    | i + 1 => nth ls i

/-- a cell as data -/
def toL (s : SS) (tt : Nat → Option TI) (c : C) : Option L := match c with
  | .k x => match one x with
    | true => some (.lit x)
    | false => none
  | .v x => some (.lit x)
  | .sl _ sz n f => some (.sl sz n f)
  | .ep _ m g => some (.pt m g)
  | .p i off => match s.bl i with
    | some (_, cs) => match litsOf (cs.drop off) with
      | some ls => some (.pt ls.length (nth ls))
      | none => none
    | none => none
  | .h i => match s.ow i with
    | some r => some (.sl r.sz r.n r.f)
    | none => none
  | .s i cnt => match s.bl i with
    | some (T, cs) => match tt T with
      | some ti => match litsOf cs with
        | some ls => match Nat.beq (cnt * ti.sz) ls.length && Nat.ble cnt 4096 with
          | true => some (.sl ti.sz cnt (fun a b => nth ls (a * ti.sz + b)))
          | false => none
        | none => none
      | none => none
    | none => none
  | .f g caps => match caps with
    | [] => some (.lit (.func (.func g) #[] #[]))
    | _ => none
  | _ => none
def toLs (s : SS) (tt : Nat → Option TI) (cs : List C) : Option (List L) := match cs with
  | [] => some []
  | c :: cs => match toL s tt c with
    | some x => match toLs s tt cs with
      | some xs => some (x :: xs)
      | none => none
    | none => none
/-- a cell of a literal: data, or a row, or a literal once more -/
def litOfD (s : SS) (tt : Nat → Option TI) (c : C) : Option L := match c with
  | .s i cnt => toL s tt (.s i cnt)
  | .h i => toL s tt (.h i)
  | c => litOf c
def litsOfD (s : SS) (tt : Nat → Option TI) (cs : List C) : Option (List L) := match cs with
  | [] => some []
  | c :: cs => match litOfD s tt c with
    | some x => match litsOfD s tt cs with
      | some xs => some (x :: xs)
      | none => none
    | none => none
/-- a literal of literals as data -/
def toLD2 (s : SS) (tt : Nat → Option TI) (c : C) : Option L := match c with
  | .s i cnt => match s.bl i with
    | some (T, cs) => match tt T with
      | some ti => match litsOfD s tt cs with
        | some ls => match Nat.beq (cnt * ti.sz) ls.length && Nat.ble cnt 4096 with
          | true => some (.sl ti.sz cnt (fun a b => nth ls (a * ti.sz + b)))
          | false => none
        | none => none
      | none => none
    | none => none
  | _ => none
def toLD (s : SS) (tt : Nat → Option TI) (c : C) : Option L := match toL s tt c with
  | some l => some l
  | none => toLD2 s tt c
def toLsD (s : SS) (tt : Nat → Option TI) (cs : List C) : Option (List L) := match cs with
  | [] => some []
  | c :: cs => match toLD s tt c with
    | some x => match toLsD s tt cs with
      | some xs => some (x :: xs)
      | none => none
    | none => none
def argL (s : SS) (tt : Nat → Option TI) (x : SV) : Option (Bool × List L) := match x with
  | .o c => match toLD s tt c with
    | some l => some (false, [l])
    | none => none
  | .a cs => match toLsD s tt cs with
    | some ls => some (true, ls)
    | none => none
  | .t _ => none
def argsL (s : SS) (tt : Nat → Option TI) (xs : List Operand) : Option Res := match xs with
  | [] => some []
  | x :: xs => match argL s tt (opv s x) with
    | some l => match argsL s tt xs with
      | some ls => some (l :: ls)
      | none => none
    | none => none
/-- captured variables, as pointers -/
def capsL (s : SS) (tt : Nat → Option TI) (is : List Nat) : Option Res := match is with
  | [] => some []
  | i :: is => match toL s tt (.p i 0) with
    | some l => match capsL s tt is with
      | some ls => some ((false, [l]) :: ls)
      | none => none
    | none => none
def resC (r : Bool × List L) : Bool × List C := (r.1, r.2.map (ofL true))
/-- a result as a temporary's value -/
def resSV (r : Res) : SV := match r with
  | [(b, ls)] => match b with
    | true => .a (ls.map (ofL true))
    | false => match ls with
      | [l] => .o (ofL true l)
      | _ => .o .any
  | rs => .t (rs.map resC)

/-- a result that may lead to what was there before, as a temporary's value -/
def resSVo (r : Res) : SV := match r with
  | [(b, ls)] => match b with
    | true => .a (ls.map (ofL false))
    | false => match ls with
      | [l] => .o (ofL false l)
      | _ => .o .any
  | _ => .o .any
/-- data already: nothing that may still be turned -/
def datC (c : C) : Bool := match c with
  | .k _ => true
  | .v _ => true
  | .sl _ _ _ _ => true
  | .ep _ _ _ => true
  | _ => false
def datCs (cs : List C) : Bool := match cs with
  | [] => true
  | c :: cs => match datC c with
    | true => datCs cs
    | false => false
def datSV (x : SV) : Bool := match x with
  | .o c => datC c
  | .a cs => datCs cs
  | .t _ => false
def datArgs (s : SS) (xs : List Operand) : Bool := match xs with
  | [] => true
  | x :: xs => match datSV (opv s x) with
    | true => datArgs s xs
    | false => false

/-! ### memory -/
inductive Eff where
  | clo (bs : List (Nat × Nat × List C)) (old : Option Nat) (r : Option OR)
  | no
  | new (T : Nat) (cs : List C)
  | set (i T : Nat) (cs : List C)
  | own (r : OR)
  | app (i : Nat) (r : OR)
  | appB (i : Nat) (r : OR)
  | seta (i : Nat) (r : OR)

def look {α : Type} (xs : List (Nat × α)) (i : Nat) : Option α := match xs with
  | [] => none
  | (j, x) :: xs => match Nat.beq i j with
    | true => some x
    | false => look xs i
/-- a state, listed: temporaries, blocks, the call's own rows, the next name, how many temporaries -/
def mkS (tl : List (Nat × SV)) (bs : List (Nat × Nat × List C)) (os : List (Nat × OR)) (nx nt : Nat) : SS :=
  { tm := fun t => match look tl t with
      | some x => x
      | none => .o .any
    bl := look bs, ow := look os, nx := nx, nt := nt }
def over {α : Type} (xs : List (Nat × α)) (g : Nat → Option α) (i : Nat) : Option α := match look xs i with
  | some x => some x
  | none => g i
def dropO (old : Option Nat) (g : Nat → Option OR) : Nat → Option OR := match old with
  | some i => upd g i none
  | none => g

def Eff.apply (e : Eff) (s : SS) : SS := match e with
  | .clo bs old r => { s with bl := over bs s.bl, ow := upd (dropO old s.ow) s.nx r, nx := s.nx + 1 }
  | .no => s
  | .new T cs => { s with bl := upd s.bl s.nx (some (T, cs)), nx := s.nx + 1 }
  | .set i T cs => { s with bl := upd s.bl i (some (T, cs)) }
  | .own r => { s with ow := upd s.ow s.nx (some r), nx := s.nx + 1 }
  | .app i r => { s with ow := upd (upd s.ow i none) s.nx (some r), nx := s.nx + 1 }
  | .appB i r => { s with bl := upd s.bl i none, ow := upd s.ow s.nx (some r), nx := s.nx + 1 }
  | .seta i r => { s with ow := upd s.ow i (some r) }

def SS.put (s : SS) (d : Option Nat) (x : SV) : SS := match d with
  | some d => { s with tm := upd s.tm d x }
  | none => s

/-- the cells from off on, as many as n -/
def cut (cs : List C) (off n : Nat) : List C := (cs.drop off).take n
/-- cs with new ones from off on -/
def lay (cs : List C) (off : Nat) (new : List C) : List C := cs.take off ++ (new ++ cs.drop (off + new.length))

/-- the parts of an aggregate, laid over its zero cells: place i is (offset, cells) -/
def fillC (place : Nat → Option (Nat × Nat)) (cs : List C) (ps : List (Nat × List C)) : Option (List C) := match ps with
  | [] => some cs
  | (i, xs) :: ps => match place i with
    | some (off, sz) => match Nat.beq xs.length sz with
      | true => match Nat.ble (off + sz) cs.length with
        | true => fillC place (lay cs off xs) ps
        | false => none
      | false => none
    | none => none

/-- offsets and cells of a struct's fields -/
def placesOf (tt : Nat → Option TI) (fs : List (Nat × Nat)) : Option (List (Nat × Nat)) := match fs with
  | [] => some []
  | (off, ft) :: fs => match tt ft with
    | some fi => match placesOf tt fs with
      | some r => some ((off, fi.sz) :: r)
      | none => none
    | none => none

def partsC (s : SS) (ps : List (Nat × Operand)) : Option (List (Nat × List C)) := match ps with
  | [] => some []
  | (i, x) :: ps => match (opv s x).cells with
    | some xs => match partsC s ps with
      | some r => some ((i, xs) :: r)
      | none => none
    | none => none

/-- cells read as a value of a type -/
def asSV (ti : TI) (cs : List C) : Option SV := match Nat.beq cs.length ti.sz with
  | true => match ti.agg with
    | true => some (.a cs)
    | false => match cs with
      | [c] => some (.o c)
      | _ => none
  | false => none

/-- a row's content with the cells of element idx from j on set -/
def setf (f : Nat → Nat → L) (idx j : Nat) (ls : List L) : Nat → Nat → L :=
  fun a b => if a = idx ∧ j ≤ b ∧ b < j + ls.length then nth ls (b - j) else f a b

/-- appended: m more elements -/
def appf (f : Nat → Nat → L) (n : Nat) (g : Nat → Nat → L) : Nat → Nat → L := fun a b => if a < n then f a b else g (a - n) b

def mkEp (fr : Bool) (g : Nat → L) (n : Nat) : List C := (List.range n).map fun j => ofL fr (g j)

abbrev R3 := Option (Option Prop × SV × Eff)
def pur (x : SV) : R3 := some (none, x, .no)
def und : SV := .o (.k undef)

/-- is what a cell leads to new? -/
def frC (c : C) : Bool := match c with
  | .k _ => true
  | .v _ => true
  | .sl fr _ _ _ => fr
  | .ep fr _ _ => fr
  | _ => false
def frCs (cs : List C) : Bool := match cs with
  | [] => true
  | c :: cs => match frC c with
    | true => frCs cs
    | false => false
/-- the loop's number as a natural one -/
def idxOf (c : C) : Option (Option Nat × Int) := match c with
  | .k (.int _ n) => match n with
    | .ofNat m => some (some m, n)
    | .negSucc _ => none
  | .v (.int _ n) => some (none, n)
  | _ => none

def evLoad (tt : Nat → Option TI) (s : SS) (T : Nat) (x : SV) : R3 := match tt T with
  | none => none
  | some ti => match x with
    | .o (.p i off) => match s.bl i with
      | some (_, cs) => match asSV ti (cut cs off ti.sz) with
        | some y => pur y
        | none => none
      | none => none
    | .o (.ep fr m g) => match Nat.ble ti.sz m with
      | true => match asSV ti (mkEp fr g ti.sz) with
        | some y => pur y
        | none => none
      | false => none
    | .o (.eh i sz idx j) => match s.ow i with
      | some r => match Nat.beq sz r.sz && Nat.ble (j + ti.sz) sz with
        | true => match asSV ti (mkEp r.fr (fun q => r.f idx (j + q)) ti.sz) with
          | some y => some (some (idx < r.n), y, .no)
          | none => none
        | false => none
      | none => none
    | _ => none

def evStore (tt : Nat → Option TI) (s : SS) (T : Nat) (a x : SV) : R3 := match tt T with
  | none => none
  | some ti => match x.cells with
    | none => none
    | some xs => match Nat.beq xs.length ti.sz with
      | false => none
      | true => match a with
        | .o (.p i off) => match s.bl i with
          | some (T', cs) => match Nat.ble (off + ti.sz) cs.length with
            | true => some (none, und, .set i T' (lay cs off xs))
            | false => none
          | none => none
        | .o (.eh i sz idx j) => match s.ow i with
          | some r => match Nat.beq sz r.sz && Nat.ble (j + ti.sz) sz with
            | true => match litsOf xs with
              | some ls => some (some (idx < r.n), und, .seta i { r with f := setf r.f idx j ls, fr := r.fr && frCs xs })
              | none => none
            | false => none
          | none => none
        | _ => none

def evField (tt : Nat → Option TI) (T k : Nat) : Option (Nat × TI) := match tt T with
  | some ti => match ti.kd with
    | .st fs => match fs[k]? with
      | some (off, ft) => match tt ft with
        | some fi => some (off, fi)
        | none => none
      | none => none
    | _ => none
  | none => none

def evFieldAddr (tt : Nat → Option TI) (T k : Nat) (x : SV) : R3 := match evField tt T k with
  | none => none
  | some (off, fi) => match Nat.beq fi.sz 0 with
    | true => none
    | false => match x with
      | .o (.p i o) => pur (.o (.p i (o + off)))
      | .o (.ep fr m g) => match Nat.blt off m with
        | true => pur (.o (.ep fr (m - off) (fun j => g (off + j))))
        | false => none
      | .o (.eh i sz idx j) => pur (.o (.eh i sz idx (j + off)))
      | _ => none

/-- the place: a number of the text, or one that the prover names -/
def theIx (ci lit : Option Nat) (iv : Int) : Option (Option Prop × Nat) := match lit with
  | some q => some (none, q)
  | none => match ci with
    | some q => some (some (iv = (q : Int)), q)
    | none => none
def evIndexAddr (tt : Nat → Option TI) (ci : Option Nat) (s : SS) (T : Nat) (x ix : SV) : R3 := match tt T with
  | none => none
  | some ti => match ix with
    | .o ic => match idxOf ic with
      | none => none
      | some (lit, iv) => match ti.kd with
        | .sl e => match tt e with
          | none => none
          | some ei => match x with
            | .o (.sl fr sz n f) => match Nat.beq sz ei.sz with
              | true => some (some (0 ≤ iv ∧ iv < (n : Int)), .o (.ep fr sz (fun j => f iv.toNat j)), .no)
              | false => none
            | .o (.s b cnt) => match theIx ci lit iv with
              | some (ob, q) => match Nat.blt q cnt with
                | true => some (ob, .o (.p b (q * ei.sz)), .no)
                | false => none
              | none => none
            | .o (.h i) => match s.ow i with
              | some r => match Nat.beq r.sz ei.sz with
                | true => some (some (0 ≤ iv ∧ iv < (r.n : Int)), .o (.eh i r.sz iv.toNat 0), .no)
                | false => none
              | none => none
            | _ => none
        | .ar n e => match tt e with
          | none => none
          | some ei => match x with
            | .o (.p b off) => match theIx ci lit iv with
              | some (ob, q) => match Nat.blt q n with
                | true => some (ob, .o (.p b (off + q * ei.sz)), .no)
                | false => none
              | none => none
            | _ => none
        | _ => none
    | _ => none

def intsOf (xs : List Value) : Option (List Int) := match xs with
  | [] => some []
  | .int .i64 a :: xs => match intsOf xs with
    | some r => some (a :: r)
    | none => none
  | _ => none

def evIndex (tt : Nat → Option TI) (T : Nat) (x ix : SV) : R3 := match tt T with
  | none => none
  | some ti => match ix with
    | .o ic => match idxOf ic with
      | none => none
      | some (lit, iv) => match ti.kd with
        | .ar n e => match tt e with
          | none => none
          | some ei => match x with
            | .a cs => match Nat.beq cs.length (n * ei.sz) with
              | true => match lit with
                | some q => match Nat.blt q n with
                  | true => match asSV ei (cut cs (q * ei.sz) ei.sz) with
                    | some y => pur y
                    | none => none
                  | false => none
                | none => match ei.agg || !(Nat.beq ei.sz 1) with
                  | true => none
                  | false => match valsOf cs with
                    | some vs => match intsOf vs with
                      | some is => some (some (0 ≤ iv ∧ iv < (n : Int)), .o (.v (.int .i64 (is.getD iv.toNat 0))), .no)
                      | none => none
                    | none => none
              | false => none
            | _ => none
        | _ => none
    | _ => none

def evSlice (tt : Nat → Option TI) (T : Nat) (x : SV) (lo hi : Option SV) : R3 := match tt T with
  | none => none
  | some ti => match ti.kd with
    | .sl e => match tt e with
      | none => none
      | some ei =>
        let num (d : Int) (v : Option SV) : Option Int := match v with
          | none => some d
          | some (.o c) => match idxOf c with
            | some (_, iv) => some iv
            | none => none
          | some _ => none
        match x with
        | .o (.sl fr sz n f) => match Nat.beq sz ei.sz with
          | false => none
          | true => match num 0 lo with
            | none => none
            | some l => match num n hi with
              | none => none
              | some h => some (some (0 ≤ l ∧ l ≤ h ∧ h ≤ (n : Int)), .o (.sl fr sz (h.toNat - l.toNat) (fun a b => f (l.toNat + a) b)), .no)
        | .o (.k (.slice none 0 0)) => match num 0 lo with
            | none => none
            | some l => match num 0 hi with
              | none => none
              | some h => some (some (l = 0 ∧ h = 0), .o (.k (.slice none 0 0)), .no)
        | _ => none
    | .str =>
        let num (d : Int) (v : Option SV) : Option Int := match v with
          | none => some d
          | some (.o c) => match idxOf c with
            | some (_, iv) => some iv
            | none => none
          | some _ => none
        match x with
        | .o c => match valOf c with
          | some (.string u) => match num 0 lo with
            | none => none
            | some l => match num u.size hi with
              | none => none
              | some h => some (some (0 ≤ l ∧ l ≤ h ∧ h ≤ (u.size : Int)), .o (.v (.string (u.extract l.toNat h.toNat))), .no)
          | _ => none
        | _ => none
    | _ => none

/-- is what a source's elements lead to new? -/
def srcFr (s : SS) (c : C) : Bool := match c with
  | .k _ => true
  | .sl fr _ _ _ => fr
  | .h i => match s.ow i with
    | some r => r.fr
    | none => false
  | .s i _ => match s.bl i with
    | some (_, cs) => frCs cs
    | none => false
  | _ => false
/-- a slice as a source: its length and content -/
def srcOf (s : SS) (tt : Nat → Option TI) (sz : Nat) (c : C) : Option (Nat × (Nat → Nat → L)) := match c with
  | .k (.slice none 0 0) => some (0, fun _ _ => .lit undef)
  | c => match toL s tt c with
    | some (.sl sz' n f) => match Nat.beq sz' sz with
      | true => some (n, f)
      | false => none
    | _ => none

def evAppend (tt : Nat → Option TI) (s : SS) (T : Nat) (x y : SV) : R3 := match tt T with
  | none => none
  | some ti => match ti.kd with
    | .sl e => match tt e with
      | none => none
      | some ei => match y with
        | .o yc => match (if ei.sz = 0 then none else srcOf s tt ei.sz yc) with
          | none => none
          | some (m, g) => match x with
            | .o (.k (.slice none 0 0)) => some (some (m * ei.byt ≤ 140737488355328 ∧ m ≤ maxLen), .o (.h s.nx), .own ⟨e, ei.sz, m, g, srcFr s yc⟩)
            | .o (.h i) => match s.ow i with
              | some r => match Nat.beq r.sz ei.sz && Nat.beq r.T e with
                | true => some (some ((r.n + m) * ei.byt ≤ 140737488355328 ∧ r.n + m ≤ maxLen), .o (.h s.nx), .app i ⟨e, ei.sz, r.n + m, appf r.f r.n g, r.fr && srcFr s yc⟩)
                | false => none
              | none => none
            | .o (.s b cnt) => match s.bl b with
              | some (T', _) => match Nat.beq T' e with
                | true => match srcOf s tt ei.sz (.s b cnt) with
                  | some (m0, g0) => some (some ((m0 + m) * ei.byt ≤ 140737488355328 ∧ m0 + m ≤ maxLen), .o (.h s.nx), .appB b ⟨e, ei.sz, m0 + m, appf g0 m0 g, srcFr s (.s b cnt) && srcFr s yc⟩)
                  | none => none
                | false => none
              | none => none
            | _ => none
        | _ => none
    | _ => none

/-- 'append(x, make([]T, n)...)' onto a row -/
def evAppendZ (tt : Nat → Option TI) (s : SS) (T T' : Nat) (x y : SV) : R3 := match x with
  | .o (.h i) => match s.ow i with
    | some r => match tt T' with
      | some ti' => match ti'.kd with
        | .int _ => match y with
          | .o yc => match valOf yc with
            | some (.int _ n) => match tt T with
              | some ti => match ti.kd with
                | .sl e => match tt e with
                  | some ei => match Nat.beq r.sz ei.sz && Nat.beq r.T e && Nat.blt 0 ei.sz with
                    | true => some (some (0 ≤ n ∧ (r.n + n.toNat) * ei.byt ≤ 140737488355328 ∧ r.n + n.toNat ≤ maxLen), .o (.h s.nx), .app i ⟨e, ei.sz, r.n + n.toNat, appf r.f r.n fun _ j => .lit (ei.z.getD j undef), r.fr⟩)
                    | false => none
                  | none => none
                | _ => none
              | none => none
            | _ => none
          | _ => none
        | _ => none
      | none => none
    | none => none
  | _ => none

def evLenC (s : SS) (x : SV) : Option C := match x with
  | .o (.sl _ _ n _) => some (.v (.int .i64 (n : Int)))
  | .o (.h i) => match s.ow i with
    | some r => some (.v (.int .i64 (r.n : Int)))
    | none => none
  | .o (.s _ cnt) => some (.k (.int .i64 (.ofNat cnt)))
  | .o (.k (.slice none 0 0)) => some (.k (.int .i64 (.ofNat 0)))
  | _ => none
def evLen (tt : Nat → Option TI) (s : SS) (T : Nat) (x : SV) : R3 := match tt T with
  | none => none
  | some ti => match ti.kd with
    | .sl _ => match evLenC s x with
      | some c => pur (.o c)
      | none => none
    | .str => match x with
      | .o c => match valOf c with
        | some (.string u) => pur (.o (.v (.int .i64 (u.size : Int))))
        | _ => none
      | _ => none
    | _ => none

def min2I (a b : Int) : Int := if b < a then b else a
def max2I (a b : Int) : Int := if b > a then b else a
def evMM (g : Int → Int → Int) (xs : List SV) : R3 := match xs with
  | [.o c, .o d] => match valOf c with
    | some (.int k a) => match valOf d with
      | some (.int _ b) => pur (.o (.v (.int k (g a b))))
      | _ => none
    | _ => none
  | [.o c, .o d, .o e] => match valOf c with
    | some (.int k a) => match valOf d with
      | some (.int _ b) => match valOf e with
        | some (.int _ b') => pur (.o (.v (.int k (g (g a b) b'))))
        | _ => none
      | _ => none
    | _ => none
  | _ => none

def evCall (E : Env) (s : SS) (g : Nat) (cs : List Nat) (xs : List Operand) : R3 := match E.ct g with
  | none => none
  | some sp => match argsL s E.tt xs with
    | none => none
    | some ls => match capsL s E.tt cs with
      | none => none
      | some ks => match sp (ls ++ ks) with
        | none => none
        | some (ob, r) => match E.old g with
          | false => some (some ob, resSV r, .no)
          | true => match cs with
            | [] => match datArgs s xs with
              | true => some (some ob, resSVo r, .no)
              | false => none
            | _ => none

def hasN (x : Nat) (ys : List Nat) : Bool := match ys with
  | [] => false
  | y :: ys => match Nat.beq x y with
    | true => true
    | false => hasN x ys
/-- what the captured variables hold: their types, contents, and the row's name -/
def capsV (s : SS) (ks : List CK) (is : List Nat) : Option (List (Nat × CV) × Option Nat) := match ks, is with
  | [], [] => some ([], none)
  | k :: ks, i :: is => match s.bl i with
    | none => none
    | some (T, cs) => match capsV s ks is with
      | none => none
      | some (vs, old) => match k with
        | .dat => match litsOf cs with
          | some ls => some ((T, .d ls) :: vs, old)
          | none => none
        | .row e sz => match old with
          | some _ => none
          | none => match cs with
            | [.h j] => match s.ow j with
              | some r => match Nat.beq r.T e && Nat.beq r.sz sz with
                | true => some ((T, .r r) :: vs, some j)
                | false => none
              | none => none
            | [.k (.slice none 0 0)] => some ((T, .r ⟨e, sz, 0, fun _ _ => .lit undef, true⟩) :: vs, none)
            | _ => none
  | _, _ => none
/-- what they hold behind the call; q is the row's name -/
def outB (q : Nat) (is : List Nat) (ts : List (Nat × CV)) (out : List CV) : List (Nat × Nat × List C) := match is, ts, out with
  | i :: is, (T, _) :: ts, v :: out => (i, T, match v with
      | .d ls => ls.map (ofL false)
      | .r _ => [.h q]) :: outB q is ts out
  | _, _, _ => []
def outR (out : List CV) : Option OR := match out with
  | [] => none
  | v :: out => match v with
    | .d _ => outR out
    | .r r => some r
/-- the kinds of what is held, alike ahead and behind; one row at the most -/
def likeV (xs : List (Nat × CV)) (out : List CV) (seen : Bool) : Bool := match xs, out with
  | [], [] => true
  | (_, .d ls) :: xs, .d ls' :: out => match Nat.beq ls.length ls'.length with
    | true => likeV xs out seen
    | false => false
  | (_, .r r) :: xs, .r r' :: out => match seen, Nat.beq r.T r'.T && Nat.beq r.sz r'.sz with
    | false, true => likeV xs out true
    | _, _ => false
  | _, _ => false
def distinctN (xs : List Nat) : Bool := match xs with
  | [] => true
  | x :: xs => match hasN x xs with
    | true => false
    | false => distinctN xs
def allLitL (ls : List L) : Bool := match ls with
  | [] => true
  | .lit _ :: ls => allLitL ls
  | _ => false
def allLitR (r : Res) : Bool := match r with
  | [] => true
  | (_, ls) :: r => match allLitL ls with
    | true => allLitR r
    | false => false
def evClo (E : Env) (s : SS) (csp : ClSpec) (cs : List Nat) (xs : List Operand) : R3 := match argsL s E.tt xs with
  | none => none
  | some ls => match allLitR ls && distinctN cs with
    | false => none
    | true => match capsV s csp.ks cs with
      | none => none
      | some (vs, old) => match csp.f ls (vs.map (·.2)) with
        | none => none
        | some (ob, r, out) => match likeV vs out false && allLitR r with
          | false => none
          | true => some (some ob, resSV r, .clo (outB s.nx cs vs out) old (outR out))

/-- a call that takes a row of the call's own and hands it back, grown -/
def evAp (E : Env) (s : SS) (F : OR → Res → Option OR) (xs : List Operand) : R3 := match xs with
  | [] => none
  | x :: ys => match opv s x with
    | .o (.h i) => match s.ow i with
      | some r => match argsL s E.tt ys with
        | some ls => match allLitR ls with
          | true => match F r ls with
            | some r' => some (none, .o (.h s.nx), .app i r')
            | none => none
          | false => none
        | none => none
      | none => none
    | _ => none

/-- bytes, as a text -/
def byteOf (l : L) : UInt8 := match l with
  | .lit (.int .u8 n) => UInt8.ofNat n.toNat
  | _ => 0
def isByte (l : L) : Prop := match l with
  | .lit (.int .u8 _) => True
  | _ => False
def bytesOf (n : Nat) (f : Nat → Nat → L) : ByteArray := (List.range n).foldl (fun r i => r.push (byteOf (f i 0))) ByteArray.empty
/-- is a type a slice of bytes? -/
def isBytes (tt : Nat → Option TI) (T : Nat) : Bool := match tt T with
  | some ti => match ti.kd with
    | .sl e => match tt e with
      | some ei => match ei.kd with
        | .int .u8 => true
        | _ => false
      | none => false
    | _ => false
  | none => false
def evText (tt : Nat → Option TI) (s : SS) (T0 : Nat) (x : SV) : R3 := match isBytes tt T0 with
  | true => match x with
    | .o c => match srcOf s tt 1 c with
      | some (n, f) => some (some (∀ i, i < n → isByte (f i 0)), .o (.v (.string (bytesOf n f))), .no)
      | none => none
    | _ => none
  | false => none
/-- how the literal of this slot is kept: a block (none), data that nobody turns, a row of the call's own -/
def litMode (E : Env) (d : Option Nat) : Option Bool := match d with
  | some d => E.lit d
  | none => none
def evalOp (E : Env) (s : SS) (o : Oper) : R3 := match o.op with
  | .move x => pur (opv s x)
  | .assign x => pur (opv s x)
  | .pick c a b => match opv s c with
    | .o (.k (.bool t)) => match t with
      | true => pur (opv s a)
      | false => pur (opv s b)
    | _ => none
  | .alloc T => match E.tt T with
    | some ti => some (none, .o (.p s.nx 0), .new T (ti.z.map .k))
    | none => none
  | .box T x => match (opv s x).cells with
    | some cs => some (none, .o (.p s.nx 0), .new T cs)
    | none => none
  | .build T ps => match E.tt T with
    | none => none
    | some ti => match partsC s ps.toList with
      | none => none
      | some qs => match ti.kd with
        | .st fs => match placesOf E.tt fs with
          | some pl => match fillC (fun i => pl[i]?) (ti.z.map .k) qs with
            | some cs => pur (.a cs)
            | none => none
          | none => none
        | .ar _ e => match E.tt e with
          | none => none
          | some ei => match fillC (fun i => some (i * ei.sz, ei.sz)) (ti.z.map .k) qs with
            | some cs => pur (.a cs)
            | none => none
        | _ => none
  | .buildSlice T n ps => match E.tt T with
    | none => none
    | some ti => match ti.kd with
      | .sl e => match E.tt e with
        | none => none
        | some ei => match partsC s ps.toList with
          | none => none
          | some qs => match Nat.ble (n * ei.sz) 4096 && Nat.beq ei.z.length ei.sz with
            | false => none
            | true => match fillC (fun i => some (i * ei.sz, ei.sz)) ((List.replicate n (ei.z.map C.k)).flatten) qs with
              | some cs => match litMode E o.dst with
                | none => some (none, .o (.s s.nx n), .new e cs)
                | some md => match Nat.blt 0 ei.sz with
                  | false => none
                  | true => match litsOf cs with
                    | none => none
                    | some ls => match md with
                      | false => some (none, .o (.sl (frCs cs) ei.sz n (fun a b => nth ls (a * ei.sz + b))), .no)
                      | true => some (none, .o (.h s.nx), .own ⟨e, ei.sz, n, fun a b => nth ls (a * ei.sz + b), frCs cs⟩)
              | none => none
      | _ => none
  | .load T x => evLoad E.tt s T (opv s x)
  | .store T a x => evStore E.tt s T (opv s a) (opv s x)
  | .nilCheck x => match opv s x with
    | .o (.p i j) => pur (.o (.p i j))
    | .o (.ep fr m g) => pur (.o (.ep fr m g))
    | .o (.eh i sz idx j) => pur (.o (.eh i sz idx j))
    | .o (.f g cs) => pur (.o (.f g cs))
    | _ => none
  | .binOp op T x y _ => match opv s x with
    | .o c => match opv s y with
      | .o d => match binT E.tt T c with
        | true => match bin op c d with
          | some (ob, r) => some (ob, .o r, .no)
          | none => none
        | false => none
      | _ => none
    | .a cs => match opv s y with
      | .a ds => match E.tt T with
        | some ti => match binAgg ti op cs ds with
          | some (ob, r) => some (ob, .o r, .no)
          | none => none
        | none => none
      | _ => none
    | _ => none
  | .unOp op _ x => match opv s x with
    | .o (.k (.bool b)) => match op with
      | .not => pur (.o (.k (.bool (match b with | true => false | false => true))))
      | _ => none
    | .o (.v (.bool b)) => match op with
      | .not => pur (.o (.v (.bool (!b))))
      | _ => none
    | .o (.k (.int k n)) => match op with
      | .neg => pur (.o (.k (.int k (normI (k.wrap (0 - n))))))
      | _ => none
    | .o (.v (.int k n)) => match op with
      | .neg => pur (.o (.v (.int k (k.wrap (0 - n)))))
      | _ => none
    | _ => none
  | .convert T0 T x => match E.tt T0 with
    | none => none
    | some _ => match E.tt T with
      | some ti => match ti.kd with
        | .int k => match opv s x with
          | .o (.k (.int _ n)) => pur (.o (.k (.int k (normI (k.wrap n)))))
          | .o (.v (.int _ n)) => pur (.o (.v (.int k (k.wrap n))))
          | _ => none
        | .str => evText E.tt s T0 (opv s x)
        | _ => none
      | none => none
  | .makeFunc fn first caps => match fn with
    | .func g => match first.toList with
      | [] => (match caps.toList.foldr (fun x (r : Option (List Nat)) => match opv s x with
          | .o (.p i 0) => r.map (i :: ·)
          | _ => none) (some []) with
        | some is => pur (.o (.f g is))
        | none => none)
      | _ => none
    | _ => none
  | .makeSlice T l c => match E.tt T with
    | none => none
    | some ti => match ti.kd with
      | .sl e => match E.tt e with
        | none => none
        | some ei => match opv s l with
          | .o lc => match valOf lc with
            | some (.int _ n) => match opv s c with
              | .o cc => match valOf cc with
                | some (.int _ m) => some (some (n = m ∧ 0 ≤ n ∧ ei.byt * n ≤ 140737488355328 ∧ n ≤ 9223372036854775807), .o (.h s.nx), .own ⟨e, ei.sz, n.toNat, fun _ j => .lit (ei.z.getD j undef), true⟩)
                | _ => none
              | _ => none
            | _ => none
          | _ => none
      | _ => none
  | .slice T x lo hi mx => match mx with
    | none => evSlice E.tt T (opv s x) (lo.map (opv s)) (hi.map (opv s))
    | some _ => none
  | .makeMap _ r => match r with
    | none => some (none, .o (.h s.nx), .clo [] none none)
    | some _ => none
  | .fieldAddr T x k => evFieldAddr E.tt T k (opv s x)
  | .field T x k => match evField E.tt T k with
    | some (off, fi) => match opv s x with
      | .a cs => match asSV fi (cut cs off fi.sz) with
        | some y => pur y
        | none => none
      | _ => none
    | none => none
  | .indexAddr T x i => evIndexAddr E.tt E.ix s T (opv s x) (opv s i)
  | .index T x i => evIndex E.tt T (opv s x) (opv s i)
  | .extract x i => match opv s x with
    | .t vs => match vs[i]? with
      | some (b, cs) => match b with
        | true => pur (.a cs)
        | false => match cs with
          | [c] => pur (.o c)
          | _ => none
      | none => none
    | _ => none
  | .call c => match c.callee with
    | .builtin .len => match c.args.toList with
      | [x] => match c.argTypes.toList with
        | [T] => evLen E.tt s T (opv s x)
        | _ => none
      | _ => none
    | .builtin .min => evMM min2I (c.args.toList.map (opv s))
    | .builtin .max => evMM max2I (c.args.toList.map (opv s))
    | .builtin .append => match c.args.toList with
      | [x, y] => match c.argTypes.toList with
        | [T, T'] => match Nat.beq T T' with
          | true => evAppend E.tt s T (opv s x) (opv s y)
          | false => evAppendZ E.tt s T T' (opv s x) (opv s y)
        | _ => none
      | _ => none
    | .value f => match normF (opv s f) with
      | .o (.f g cs) => match E.ap g with
        | some F => match cs with
          | [] => evAp E s F c.args.toList
          | _ => none
        | none => match E.cl g with
          | some csp => evClo E s csp cs c.args.toList
          | none => evCall E s g cs c.args.toList
      | _ => none
    | _ => none
  | _ => none

/-- one operation behind another: the obligations, and what holds at the end -/
def refine_ (s : SS) (t : Nat) (b : Bool) : SS := { s with tm := upd s.tm t (.o (.k (.bool b))) }
def skipped (s : SS) (o : Oper) : SS := s.put o.dst und
def dstOK (s : SS) (o : Oper) : Bool := match o.dst with
  | some d => Nat.blt d s.nt
  | none => true

/-! ### which operations may change places -/
structure Rec where
  rt : List Nat
  wt : Option Nat
  rm : List Nat
  wm : List Nat

def tmpOf (x : Operand) : List Nat := match x with
  | .tmp t => [t]
  | _ => []
def opnds (o : Op) : List Operand := match o with
  | .move x => [x]
  | .assign x => [x]
  | .pick c a b => [c, a, b]
  | .box _ x => [x]
  | .build _ ps => ps.toList.map (·.2)
  | .buildSlice _ _ ps => ps.toList.map (·.2)
  | .load _ x => [x]
  | .store _ a x => [a, x]
  | .nilCheck x => [x]
  | .binOp _ _ x y _ => [x, y]
  | .unOp _ _ x => [x]
  | .convert _ _ x => [x]
  | .makeFunc _ _ caps => caps.toList
  | .makeSlice _ l c => [l, c]
  | .slice _ x lo hi _ => x :: (lo.toList ++ hi.toList)
  | .fieldAddr _ x _ => [x]
  | .field _ x _ => [x]
  | .indexAddr _ x i => [x, i]
  | .index _ x i => [x, i]
  | .extract x _ => [x]
  | .call c => match c.callee with
    | .value f => f :: c.args.toList
    | _ => c.args.toList
  | _ => []

def touchC (c : C) : List Nat := match c with
  | .p i _ => [i]
  | .s i _ => [i]
  | .h i => [i]
  | .eh i _ _ _ => [i]
  | .f _ caps => caps
  | _ => []
def touchV (x : SV) : List Nat := match x with
  | .o c => touchC c
  | .a cs => cs.flatMap touchC
  | .t _ => []
def touchH (x : SV) : List Nat := match x with
  | .o (.h i) => [i]
  | _ => []
/-- the rows that blocks hold -/
def touchIn (s : SS) (is : List Nat) : List Nat := is.flatMap fun i => match s.bl i with
  | some (_, cs) => cs.flatMap touchC
  | none => []
def touch (s : SS) (o : Op) : List Nat := match o with
  | .load _ x => touchV (opv s x)
  | .store _ a _ => touchV (opv s a)
  | .indexAddr _ x _ => touchH (opv s x)
  | .convert _ _ x => touchV (opv s x)
  | .call c => match c.callee with
    | .builtin .len => c.args.toList.flatMap fun x => touchH (opv s x)
    | .builtin .append => c.args.toList.flatMap fun x => touchV (opv s x)
    | .value f => touchV (normF (opv s f)) ++ (touchIn s (touchV (normF (opv s f))) ++ ((c.args.toList.flatMap fun x => touchV (opv s x)) ++ touchIn s (c.args.toList.flatMap fun x => touchV (opv s x))))
    | _ => []
  | _ => []
def Eff.wr (e : Eff) (s : SS) : List Nat := match e with
  | .clo bs old _ => s.nx :: (old.toList ++ bs.map (·.1))
  | .no => []
  | .new _ _ => [s.nx]
  | .set i _ _ => [i]
  | .own _ => [s.nx]
  | .app i _ => [i, s.nx]
  | .appB i _ => [i, s.nx]
  | .seta i _ => [i]

def guardT (ops : List Oper) (o : Oper) : List Nat := match o.guard with
  | none => []
  | some (j, _) => match ops[j]? with
    | none => []
    | some oj => match oj.dst with
      | none => []
      | some t => [t]
def readsT (ops : List Oper) (o : Oper) : List Nat := guardT ops o ++ (opnds o.op).flatMap tmpOf

def meets (xs ys : List Nat) : Bool := match xs with
  | [] => false
  | x :: xs => match hasN x ys with
    | true => true
    | false => meets xs ys
def meetsO (d : Option Nat) (ys : List Nat) : Bool := match d with
  | none => false
  | some d => hasN d ys
def conflict (r q : Rec) : Bool := match meetsO r.wt q.rt with
  | true => true
  | false => match meetsO q.wt r.rt with
    | true => true
    | false => match meetsO r.wt q.wt.toList with
      | true => true
      | false => match meets r.wm q.rm with
        | true => true
        | false => match meets r.wm q.wm with
          | true => true
          | false => meets r.rm q.wm

def bindsAny (e : Edge) : Bool := match e.ground with
  | .textOnly _ => false
  | .gcOnly _ => false
  | _ => true
/-- a number, written out (so that it is not computed again and again) -/
def fNat (ms : List Nat) (n : Nat) (k : Nat → Prop) : Prop := match ms with
  | [] => k n
  | m :: ms => match Nat.beq n m with
    | true => k m
    | false => fNat ms n k
def lits : List Nat := [0, 1, 2, 3, 4, 5, 6, 7, 8, 9, 10, 11, 12, 13, 14, 15, 16, 17, 18, 19, 20, 21, 22, 23, 24, 25, 26, 27, 28, 29, 30, 31, 32, 33, 34, 35, 36, 37, 38, 39, 40, 41, 42, 43, 44, 45, 46, 47, 48, 49, 50, 51, 52, 53, 54, 55, 56, 57, 58, 59, 60, 61, 62, 63, 64, 65, 66, 67, 68, 69, 70, 71, 72, 73, 74, 75, 76, 77, 78, 79, 80, 81, 82, 83, 84, 85, 86, 87, 88, 89, 90, 91, 92, 93, 94, 95, 96, 97, 98, 99, 100, 101, 102, 103, 104, 105, 106, 107, 108, 109, 110, 111, 112, 113, 114, 115, 116, 117, 118, 119, 120, 121, 122, 123, 124, 125, 126, 127, 128, 129, 130, 131, 132, 133, 134, 135, 136, 137, 138, 139, 140, 141, 142, 143, 144, 145, 146, 147, 148, 149, 150, 151, 152, 153, 154, 155, 156, 157, 158, 159, 160, 161, 162, 163, 164, 165, 166, 167, 168, 169, 170, 171, 172, 173, 174, 175, 176, 177, 178, 179, 180, 181, 182, 183, 184, 185, 186, 187, 188, 189, 190, 191, 192, 193, 194, 195, 196, 197, 198, 199, 200, 201, 202, 203, 204, 205, 206, 207, 208, 209, 210, 211, 212, 213, 214, 215, 216, 217, 218, 219, 220, 221, 222, 223, 224, 225, 226, 227, 228, 229, 230, 231, 232, 233, 234, 235, 236, 237, 238, 239, 240, 241, 242, 243, 244, 245, 246, 247, 248, 249, 250, 251, 252, 253, 254, 255, 256, 257, 258, 259, 260, 261, 262, 263, 264, 265, 266, 267, 268, 269, 270, 271, 272, 273, 274, 275, 276, 277, 278, 279, 280, 281, 282, 283, 284, 285, 286, 287, 288, 289, 290, 291, 292, 293, 294, 295, 296, 297, 298, 299, 300, 301, 302, 303, 304, 305, 306, 307, 308, 309, 310, 311, 312, 313, 314, 315, 316, 317, 318, 319, 320, 321, 322, 323, 324, 325, 326, 327, 328, 329, 330, 331, 332, 333, 334, 335, 336, 337, 338, 339, 340, 341, 342, 343, 344, 345, 346, 347, 348, 349, 350, 351, 352, 353, 354, 355, 356, 357, 358, 359, 360, 361, 362, 363, 364, 365, 366, 367, 368, 369, 370, 371, 372, 373, 374, 375, 376, 377, 378, 379, 380, 381, 382, 383, 384, 385, 386, 387, 388, 389, 390, 391, 392, 393, 394, 395, 396, 397, 398, 399]
/-- a list, written out -/
def fL (xs : List Nat) (k : List Nat → Prop) : Prop := match xs with
  | [] => k []
  | x :: xs => fL xs fun ys => k (x :: ys)
def fLN (xs : List Nat) (k : List Nat → Prop) : Prop := match xs with
  | [] => k []
  | x :: xs => fNat lits x fun y => fLN xs fun ys => k (y :: ys)
def fO (x : Option Nat) (k : Option Nat → Prop) : Prop := match x with
  | none => k none
  | some n => k (some n)
theorem fO_eq {x : Option Nat} {k : Option Nat → Prop} : fO x k = k x := by cases x <;> rfl
def union (xs ys : List Nat) : List Nat := match xs with
  | [] => ys
  | x :: xs => match hasN x ys with
    | true => union xs ys
    | false => union xs (x :: ys)
/-- all the operations that come before, by the edges -/
def ancFold (an : Nat → List Nat) (i : Nat) (es : List Edge) : Option (List Nat) := match es with
  | [] => some []
  | e :: es => match bindsAny e with
    | false => ancFold an i es
    | true => match Nat.blt e.on i with
      | false => none
      | true => match ancFold an i es with
        | some m => some (union (e.on :: an e.on) m)
        | none => none
def clear (m : List Nat) (r : Rec) (rc : List (Nat × Rec)) : Bool := match rc with
  | [] => true
  | (i, q) :: rc => match conflict q r with
    | false => clear m r rc
    | true => match hasN i m with
      | true => clear m r rc
      | false => false

/-- where any order may be drawn (dr): the test that operation i may change places with those before -/
def vcGo (dr : Bool) (i : Nat) (an : Nat → List Nat) (rc : List (Nat × Rec)) (es : List Edge) (r : Rec) (k : (Nat → List Nat) → List (Nat × Rec) → Prop) : Prop := match dr with
  | false => k an rc
  | true => match ancFold an i es with
    | none => False
    | some m => fL m fun m => fL r.rt fun rt => fO r.wt fun wt => fLN r.rm fun rm => fLN r.wm fun wm => match clear m ⟨rt, wt, rm, wm⟩ rc with
      | false => False
      | true => k (upd an i m) ((i, ⟨rt, wt, rm, wm⟩) :: rc)
/-- cells, values, effects, written out -/
def fC (c : C) (k : C → Prop) : Prop := match c with
  | .any => k .any
  | .k x => k (.k x)
  | .v x => k (.v x)
  | .p i o => k (.p i o)
  | .s i n => k (.s i n)
  | .h i => k (.h i)
  | .sl fr sz n f => k (.sl fr sz n f)
  | .ep fr m g => k (.ep fr m g)
  | .eh i sz idx j => k (.eh i sz idx j)
  | .f g caps => k (.f g caps)
def fCs (cs : List C) (k : List C → Prop) : Prop := match cs with
  | [] => k []
  | c :: cs => fC c fun c => fCs cs fun cs => k (c :: cs)
def fTs (vs : List (Bool × List C)) (k : List (Bool × List C) → Prop) : Prop := match vs with
  | [] => k []
  | (b, cs) :: vs => fCs cs fun cs => fTs vs fun vs => k ((b, cs) :: vs)
def fSV (x : SV) (k : SV → Prop) : Prop := match x with
  | .o c => fC c fun c => k (.o c)
  | .a cs => fCs cs fun cs => k (.a cs)
  | .t vs => fTs vs fun vs => k (.t vs)
def fN1 (n i : Nat) (k : Nat → Prop) : Prop := match Nat.beq i n with
  | true => k n
  | false => k i
def fNew (n : Nat) (x : SV) (k : SV → Prop) : Prop := match x with
  | .o (.p i off) => fN1 n i fun i => k (.o (.p i off))
  | .o (.s i m) => fN1 n i fun i => k (.o (.s i m))
  | .o (.h i) => fN1 n i fun i => k (.o (.h i))
  | x => k x
def fBs (n : Nat) (bs : List (Nat × Nat × List C)) (k : List (Nat × Nat × List C) → Prop) : Prop := match bs with
  | [] => k []
  | (i, T, cs) :: bs => match cs with
    | [.h q] => fN1 n q fun q => fBs n bs fun bs => k ((i, T, [.h q]) :: bs)
    | cs => fCs cs fun cs => fBs n bs fun bs => k ((i, T, cs) :: bs)
def fOR (r : OR) (k : OR → Prop) : Prop := match r with
  | ⟨T, sz, n, f, fr⟩ => match fr with
    | true => k ⟨T, sz, n, f, true⟩
    | false => k ⟨T, sz, n, f, false⟩
theorem fOR_eq {r : OR} {k : OR → Prop} : fOR r k = k r := by
  obtain ⟨T, sz, n, f, fr⟩ := r
  cases fr <;> rfl
def fEff (n : Nat) (e : Eff) (x : SV) (k : SV → Eff → Prop) : Prop := match e with
  | .no => fSV x fun x => k x .no
  | .new T cs => fCs cs fun cs => fNew n x fun x => k x (.new T cs)
  | .set i T cs => fCs cs fun cs => k x (.set i T cs)
  | .own r => fOR r fun r => fNew n x fun x => k x (.own r)
  | .app i r => fOR r fun r => fNew n x fun x => k x (.app i r)
  | .appB i r => fOR r fun r => fNew n x fun x => k x (.appB i r)
  | .seta i r => fOR r fun r => k x (.seta i r)
  | .clo bs old r => fBs n bs fun bs => fSV x fun x => k x (.clo bs old r)
def vcRun (n : Nat) (x : R3) (k : SV → Eff → Prop) : Prop := match x with
  | some (ob, x, e) => match ob with
    | none => fEff n e x k
    | some p => p ∧ fEff n e x k
  | none => False
/-- a call that is left to whoever proves: function, captured variables, arguments -/
def relOf (E : Env) (s : SS) (o : Oper) : Option (Nat × List Nat × List Operand) := match o.op with
  | .call c => match c.callee with
    | .value f => match normF (opv s f) with
      | .o (.f g cs) => match E.ap g with
        | some _ => none
        | none => match E.ct g with
          | some _ => none
          | none => match E.cl g with
            | some _ => none
            | none => some (g, cs, c.args.toList)
      | _ => none
    | _ => none
  | _ => none
def vcRel (E : Env) (n : Nat) (s : SS) (g : Nat) (cs : List Nat) (xs : List Operand) (k : SV → Eff → Prop) : Prop := match argsL s E.tt xs with
  | none => False
  | some ls => match E.kd g with
    | none => match capsL s E.tt cs with
      | none => False
      | some ks => match E.old g with
        | false => ∃ res, E.call g (ls ++ ks) res ∧ fSV (resSV res) fun x => k x .no
        | true => match cs with
          | [] => match datArgs s xs with
            | true => ∃ res, E.call g (ls ++ ks) res ∧ fSV (resSVo res) fun x => k x .no
            | false => False
          | _ => False
    | some kinds => match allLitR ls && distinctN cs with
      | false => False
      | true => match capsV s kinds cs with
        | none => False
        | some (vs, old) => ∃ res out, E.clo g ls (vs.map (·.2)) res out ∧ (likeV vs out false && allLitR res) = true ∧ fEff n (.clo (outB n cs vs out) old (outR out)) (resSV res) k
/-- a place of a block that is no number of the text -/
def ixOf (s : SS) (o : Oper) : Bool := match o.op with
  | .indexAddr _ x i => match opv s i with
    | .o (.v _) => match opv s x with
      | .o (.s _ _) => true
      | .o (.p _ _) => true
      | _ => false
    | _ => false
  | _ => false
def apOf (E : Env) (s : SS) (o : Oper) : Option (Nat × Nat × OR × Res) := match o.op with
  | .call c => match c.callee with
    | .value f => match normF (opv s f) with
      | .o (.f g cs) => match cs with
        | [] => match E.isAp g with
          | true => match c.args.toList with
            | [] => none
            | x :: ys => match opv s x with
              | .o (.h i) => match s.ow i with
                | some r => match argsL s E.tt ys with
                  | some ls => match allLitR ls with
                    | true => some (g, i, r, ls)
                    | false => none
                  | none => none
                | none => none
              | _ => none
          | false => none
        | _ => none
      | _ => none
    | _ => none
  | _ => none
def vcOne (E : Env) (n : Nat) (s : SS) (o : Oper) (k : SV → Eff → Prop) : Prop := match apOf E s o with
  | some (g, i, r, ls) => ∃ r', E.apR g r ls r' ∧ fEff n (.app i r') (.o (.h n)) k
  | none => match relOf E s o with
    | some (g, cs, xs) => vcRel E n s g cs xs k
    | none => match ixOf s o with
      | true => ∃ q, vcRun n (evalOp { E with ix := some q } s o) k
      | false => vcRun n (evalOp E s o) k

/-! ### calls that turn the caller's memory -/
/-- a cell of the caller (c) says what the callee's (c') says; bsl, rsl: blocks and rows, the callee's names and the caller's -/
def lookIs (xs : List (Nat × Nat)) (i j : Nat) : Bool := match look xs i with
  | some q => Nat.beq q j
  | none => false
def noneOf (xs : List (Nat × Nat)) (i : Nat) : Bool := match look xs i with
  | some _ => false
  | none => true
def inCaps (bsl : List (Nat × Nat)) (nx : Nat) (caps' caps : List Nat) : Bool := match caps', caps with
  | [], [] => true
  | i' :: caps', i :: caps => lookIs bsl i i' && (Nat.blt i nx && inCaps bsl nx caps' caps)
  | _, _ => false
def hvOf (E : Env) (s : SS) (o : Oper) : Option (Nat × List SV) := match o.op with
  | .call c => match c.callee with
    | .value f => match normF (opv s f) with
      | .o (.f g cs) => match E.isHv g with
        | true => some (g, c.args.toList.map (opv s) ++ cs.map (fun i => SV.o (.p i 0)))
        | false => none
      | _ => none
    | _ => none
  | _ => none
def nmOf (xs : List (Nat × Nat)) (n i : Nat) : Nat := match look xs i with
  | some j => j
  | none => n + 1 + i
/-- a cell of the callee's in the caller's words -/
def outC (bsl rsl : List (Nat × Nat)) (n : Nat) (c : C) : C := match c with
  | .p i off => .p (nmOf bsl n i) off
  | .s i m => .s (nmOf bsl n i) m
  | .h i => .h (nmOf rsl n i)
  | .eh i sz idx j => .eh (nmOf rsl n i) sz idx j
  | .f g caps => .f g (caps.map (nmOf bsl n))
  | c => c
def outT (bsl rsl : List (Nat × Nat)) (n : Nat) (vs : List (Bool × List C)) : List (Bool × List C) := match vs with
  | [] => []
  | (b, cs) :: vs => (b, cs.map (outC bsl rsl n)) :: outT bsl rsl n vs
def outSV (bsl rsl : List (Nat × Nat)) (n : Nat) (x : SV) : SV := match x with
  | .o c => .o (outC bsl rsl n c)
  | .a cs => .a (cs.map (outC bsl rsl n))
  | .t vs => .t (outT bsl rsl n vs)
def outMB (bsl rsl : List (Nat × Nat)) (n : Nat) (bs : List (Nat × Nat × List C)) : List (Nat × Nat × List C) := match bs with
  | [] => []
  | (i, T, cs) :: bs => (nmOf bsl n i, T, cs.map (outC bsl rsl n)) :: outMB bsl rsl n bs
def outMO (rsl : List (Nat × Nat)) (n : Nat) (os : List (Nat × OR)) : List (Nat × OR) := match os with
  | [] => []
  | (i, r) :: os => (nmOf rsl n i, r) :: outMO rsl n os
def without {α : Type} (ks : List (Nat × Nat)) (g : Nat → Option α) (i : Nat) : Option α := match hasN i (ks.map (·.2)) with
  | true => none
  | false => g i
def fB2 (bs : List (Nat × Nat × List C)) (k : List (Nat × Nat × List C) → Prop) : Prop := match bs with
  | [] => k []
  | (i, T, cs) :: bs => fNat lits i fun i => fCs cs fun cs => fB2 bs fun bs => k ((i, T, cs) :: bs)
def fO2 (os : List (Nat × OR)) (k : List (Nat × OR) → Prop) : Prop := match os with
  | [] => k []
  | (i, r) :: os => fNat lits i fun i => fOR r fun r => fO2 os fun os => k ((i, r) :: os)
def hvSt (s : SS) (bsl rsl : List (Nat × Nat)) (bs : List (Nat × Nat × List C)) (os : List (Nat × OR)) (nx : Nat) : SS :=
  { tm := s.tm, bl := over bs (without bsl s.bl), ow := over os (without rsl s.ow), nx := nx, nt := s.nt }

def recRun (ops : List Oper) (o : Oper) (s : SS) (e : Eff) : Rec := ⟨readsT ops o, o.dst, touch s o.op, e.wr s⟩
def recSkip (ops : List Oper) (o : Oper) : Rec := ⟨readsT ops o, o.dst, [], []⟩
def SS.at (s : SS) (n : Nat) : SS := { s with nx := n }

/-- the operations in the order of the text -/
def dstN (nt : Nat) (o : Oper) : Bool := match o.dst with
  | some d => Nat.blt d nt
  | none => true
def opRun (E : Env) (HV : Nat → SS → Nat → List SV → (Nat → SV → SS → Prop) → Prop) (dr : Bool) (ops : List Oper) (n0 : Nat) (o : Oper) (i : Nat) (an : Nat → List Nat) (rc : List (Nat × Rec)) (cont : Nat → (Nat → List Nat) → List (Nat × Rec) → SS → Prop) (s : SS) (hv : Option (Nat × List SV)) : Prop := match hv with
  | none => fNat lits (n0 + i) fun n => vcOne E n (s.at n) o fun x e => vcGo dr i an rc o.after.toList (recRun ops o (s.at n) e) fun an rc => cont n0 an rc ((e.apply (s.at n)).put o.dst x)
  | some (g, xs) => match dr with
    | true => False
    | false => fNat lits (n0 + i) fun n => HV n (s.at n) g xs fun m x s' => fNat lits (n0 + m) fun n0 => cont n0 an rc (s'.put o.dst x)
/-- one operation; cont: what comes behind it. (The continuation stands once: so the kernel compares it once.) -/
def opStep (E : Env) (HV : Nat → SS → Nat → List SV → (Nat → SV → SS → Prop) → Prop) (nt : Nat) (dr : Bool) (ops : List Oper) (n0 : Nat) (o : Oper) (i : Nat) (an : Nat → List Nat) (rc : List (Nat × Rec)) (s : SS) (cont : Nat → (Nat → List Nat) → List (Nat × Rec) → SS → Prop) : Prop := match dstN nt o with
    | false => False
    | true =>
      let run (s : SS) : Prop := opRun E HV dr ops n0 o i an rc cont s (hvOf E s o)
      let skip (s : SS) : Prop := vcGo dr i an rc o.after.toList (recSkip ops o) fun an rc => cont n0 an rc (skipped s o)
      match o.guard with
      | none => run s
      | some (j, want) => match ops[j]? with
        | none => False
        | some oj => match oj.dst with
          | none => False
          | some t => match s.tm t with
            | .o (.k (.bool b)) => (match b, want with
              | true, true => run s
              | false, false => run s
              | _, _ => skip s)
            | .o (.v (.bool b)) => (b = want → run (refine_ s t want)) ∧ (b = (!want) → skip (refine_ s t (!want)))
            | .o (.k (.tuple _)) => skip s
            | _ => False
/-- data, cells that say what others say -/
def SameL : L → L → Prop
  | .lit x, l => match l with
    | .lit y => x = y
    | .sl _ n _ => x = .slice none 0 0 ∧ n = 0
    | _ => False
  | .sl sz n f, l => match l with
    | .sl sz' n' g => sz = sz' ∧ n = n' ∧ ∀ i, i < n → ∀ j, j < sz → SameL (f i j) (g i j)
    | _ => False
  | .pt m f, l => match l with
    | .pt m' g => m = m' ∧ ∀ j, j < m → SameL (f j) (g j)
    | _ => False
def boolLe (b c : Bool) : Bool := match b with
  | false => true
  | true => c
def subR (r r' : OR) : Prop := r.T = r'.T ∧ r.sz = r'.sz ∧ r.n = r'.n ∧ boolLe r'.fr r.fr = true ∧ ∀ a, a < r.n → ∀ j, j < r.sz → SameL (r.f a j) (r'.f a j)
def All {α : Type} (p : α → Prop) (xs : List α) : Prop := match xs with
  | [] => True
  | x :: xs => p x ∧ All p xs
def inH (rsl : List (Nat × Nat)) (nx i : Nat) (c : C) : Prop := match c with
  | .h i' => (lookIs rsl i i' && Nat.blt i nx) = true
  | .k (.slice none 0 0) => (noneOf rsl i && Nat.blt i nx) = true
  | _ => False
def inC (bsl rsl : List (Nat × Nat)) (nx : Nat) (c c' : C) : Prop := match c' with
  | .any => True
  | .k x => match c with
    | .k y => y = x
    | .v y => y = x
    | _ => False
  | .v x => match c with
    | .k y => y = x ∧ one x = true
    | .v y => y = x
    | _ => False
  | .p i off => match c with
    | .p i' off' => (lookIs bsl i i' && (Nat.beq off' off && Nat.blt i nx)) = true
    | _ => False
  | .s i cnt => match c with
    | .s i' cnt' => (lookIs bsl i i' && (Nat.beq cnt' cnt && Nat.blt i nx)) = true
    | _ => False
  | .h i => inH rsl nx i c
  | .sl fr sz n f => match c with
    | .sl fr' sz' n' f' => boolLe fr fr' = true ∧ SameL (.sl sz' n' f') (.sl sz n f)
    | _ => False
  | .ep fr m g => match c with
    | .ep fr' m' g' => boolLe fr fr' = true ∧ SameL (.pt m' g') (.pt m g)
    | _ => False
  | .eh i sz idx j => match c with
    | .eh i' sz' idx' j' => (lookIs rsl i i' && Nat.blt i nx) = true ∧ sz' = sz ∧ idx' = idx ∧ j' = j
    | _ => False
  | .f g caps => match c with
    | .f g' caps' => (Nat.beq g' g && inCaps bsl nx caps' caps) = true
    | _ => False
def inCs (bsl rsl : List (Nat × Nat)) (nx : Nat) (cs cs' : List C) : Prop := match cs, cs' with
  | [], [] => True
  | c :: cs, c' :: cs' => inC bsl rsl nx c c' ∧ inCs bsl rsl nx cs cs'
  | _, _ => False
def inSV (bsl rsl : List (Nat × Nat)) (nx : Nat) (x x' : SV) : Prop := match x' with
  | .o .any => True
  | .o c' => match x with
    | .o c => inC bsl rsl nx c c'
    | _ => False
  | .a cs' => match x with
    | .a cs => inCs bsl rsl nx cs cs'
    | _ => False
  | .t _ => False
def inSVs (bsl rsl : List (Nat × Nat)) (nx : Nat) (xs xs' : List SV) : Prop := match xs, xs' with
  | [], [] => True
  | x :: xs, x' :: xs' => inSV bsl rsl nx x x' ∧ inSVs bsl rsl nx xs xs'
  | _, _ => False
/-- the caller's memory and arguments say what the callee's ask -/
structure HvIn (s : SS) (xs ys : List SV) (M : LM) (bsl rsl : List (Nat × Nat)) : Prop where
  args : inSVs bsl rsl M.nx xs ys
  bl : All (fun p => match look bsl p.1 with
      | some j => (match s.bl j with
        | some (T, cs) => T = p.2.1 ∧ inCs bsl rsl M.nx cs p.2.2
        | none => False)
      | none => False) M.bs
  ow : All (fun p => match look rsl p.1 with
      | none => p.1 < M.nx ∧ p.2.n = 0
      | some j => (match s.ow j with
        | some r => subR r p.2
        | none => False)) M.os
  lb : All (fun q : Nat × Nat => q.1 < M.nx ∧ match s.bl q.2 with
      | some _ => True
      | none => False) bsl
  lr : All (fun q : Nat × Nat => q.1 < M.nx ∧ match s.ow q.2 with
      | some _ => True
      | none => False) rsl
  inj : (distinctN (bsl.map (·.2)) && distinctN (rsl.map (·.2))) = true
def hvStep (E : Env) (n : Nat) (s : SS) (g : Nat) (xs : List SV) (k : Nat → SV → SS → Prop) : Prop :=
  ∃ ys M x M' bsl rsl, E.hv g ys M x M' ∧ HvIn s xs ys M bsl rsl ∧ fB2 (outMB bsl rsl n M'.bs) fun bs => fO2 (outMO rsl n M'.os) fun os => fSV (outSV bsl rsl n x) fun x => k M'.nx x (hvSt s bsl rsl bs os (n + 1 + M'.nx))
def vcOps (E : Env) (nt : Nat) (dr : Bool) (ops : List Oper) (n0 : Nat) (K : SS → Prop) (rest : List Oper) (i : Nat) (an : Nat → List Nat) (rc : List (Nat × Rec)) (s : SS) : Prop := match rest with
  | [] => fNat lits (n0 + i) fun n => K (s.at n)
  | o :: rest => opStep E (hvStep E) nt dr ops n0 o i an rc s fun n0 an rc s => vcOps E nt dr ops n0 K rest (i + 1) an rc s

theorem fNat_eq {k : Nat → Prop} : ∀ {ms : List Nat} {n : Nat}, fNat ms n k = k n
  | [], n => rfl
  | m :: ms, n => by
    unfold fNat
    cases hb : Nat.beq n m
    · exact fNat_eq
    · rw [Nat.eq_of_beq_eq_true hb]
theorem fL_eq : ∀ {xs : List Nat} {k : List Nat → Prop}, fL xs k = k xs
  | [], _ => rfl
  | x :: xs, k => by unfold fL; rw [fL_eq]
theorem fLN_eq : ∀ {xs : List Nat} {k : List Nat → Prop}, fLN xs k = k xs
  | [], _ => rfl
  | x :: xs, k => by unfold fLN; rw [fNat_eq, fLN_eq]

theorem fC_eq {c : C} {k : C → Prop} : fC c k = k c := by cases c <;> rfl
theorem fCs_eq : ∀ {cs : List C} {k : List C → Prop}, fCs cs k = k cs
  | [], _ => rfl
  | c :: cs, k => by unfold fCs; rw [fC_eq, fCs_eq]
theorem fTs_eq : ∀ {vs : List (Bool × List C)} {k : List (Bool × List C) → Prop}, fTs vs k = k vs
  | [], _ => rfl
  | (b, cs) :: vs, k => by unfold fTs; rw [fCs_eq, fTs_eq]
theorem fSV_eq {x : SV} {k : SV → Prop} : fSV x k = k x := by
  cases x with
  | o c => exact fC_eq (k := fun c => k (.o c))
  | a cs => exact fCs_eq (k := fun cs => k (.a cs))
  | t vs => exact fTs_eq (k := fun vs => k (.t vs))
theorem fN1_eq {n i : Nat} {k : Nat → Prop} : fN1 n i k = k i := by
  unfold fN1
  cases hb : Nat.beq i n
  · rfl
  · rw [Nat.eq_of_beq_eq_true hb]
theorem fNew_eq {n : Nat} {x : SV} {k : SV → Prop} : fNew n x k = k x := by
  unfold fNew
  split
  · rw [fN1_eq]
  · rw [fN1_eq]
  · rw [fN1_eq]
  · rfl
theorem fBs_eq {n : Nat} : ∀ {bs : List (Nat × Nat × List C)} {k : List (Nat × Nat × List C) → Prop}, fBs n bs k = k bs
  | [], _ => rfl
  | (i, T, cs) :: bs, k => by
    unfold fBs
    split
    · rw [fN1_eq, fBs_eq]
    · rw [fCs_eq, fBs_eq]
theorem fEff_eq {n : Nat} {e : Eff} {x : SV} {k : SV → Eff → Prop} : fEff n e x k = k x e := by
  cases e with
  | no => exact fSV_eq (k := fun x => k x .no)
  | new T cs => exact (fCs_eq (k := fun cs => fNew n x fun x => k x (.new T cs))).trans fNew_eq
  | set i T cs => exact fCs_eq (k := fun cs => k x (.set i T cs))
  | own r => exact (fOR_eq (k := fun r => fNew n x fun x => k x (.own r))).trans fNew_eq
  | app i r => exact (fOR_eq (k := fun r => fNew n x fun x => k x (.app i r))).trans fNew_eq
  | appB i r => exact (fOR_eq (k := fun r => fNew n x fun x => k x (.appB i r))).trans fNew_eq
  | seta i r => exact fOR_eq (k := fun r => k x (.seta i r))
  | clo bs old r => exact (fBs_eq (k := fun bs => fSV x fun x => k x (.clo bs old r))).trans fSV_eq

end Go.Proofs.YtggappbiedkopaaGreat.SX
