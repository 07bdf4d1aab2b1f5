/- An executor of the model's operations over a part of memory that is known, for the kernel to reckon: definitions. -/
import Derived.Calls
import Derived.Tactics
import Derived.KernelRfl
import Derived.Below
namespace Go.Proofs.Ytbbpmhbeohpmnaa.Rx

inductive Tag where
  | no
  | loc (pos ch off : Nat)
  | many (ts : List Tag)

structure TV where
  v : Value
  t : Tag

inductive Chunk where
  | kn (l : List TV)
  | op (xs : List Value)

def valsOf : List TV → List Value
  | [] => []
  | x :: r => x.v :: valsOf r

def Chunk.vals : Chunk → List Value
  | .kn l => valsOf l
  | .op xs => xs

def flat : List Chunk → List Value
  | [] => []
  | [c] => c.vals
  | c :: r => c.vals ++ flat r

inductive HO where
  | cells (e : TypeId) (cs : List Chunk)
  | other (o : Obj)
  | hole

def HO.obj : HO → Obj
  | .cells e cs => .cells (flat cs).toArray e (0, 0)
  | .other o => o
  | .hole => default

structure HE where
  b : Nat
  o : HO

/-- What is known of a temporary: its value; its value where a test is true; a truth value; nothing. -/
inductive SE where
  | val (x : TV)
  | spec (g : Bool) (x : TV)
  | lit (b : Bool)
  | junk

abbrev Fr := List (Nat × SE)

def look : Fr → Nat → SE
  | [], _ => .junk
  | (j, s) :: r, i => bif Nat.beq i j then s else look r i

/-- What must hold. -/
inductive Ob where
  | addr (a b : Addr)
  | syn (a b : Bool)
  | bool (a b : Bool)
  | prop (p : Prop)
  | safe (t : TypeId)

/-- Types whose values '==' may compare cell by cell. -/
def SafeEq (P : Program) (t : TypeId) : Prop :=
  P.stoodInHeld t = false ∧ P.eqGuardType P.depth t = false ∧ ∀ f ∈ (match P.underlying t with | some (.struct fs) => fs.toList | _ => []), f.name ≠ "_"

def Ob.ok (P : Program) : Ob → Prop
  | .addr a b => a = b
  | .syn a b => a = b
  | .bool a b => a = b
  | .prop p => p
  | .safe t => SafeEq P t

inductive Hint where
  | d (b : Bool)
  | g (b : Bool)
  | ix (ch off : Nat)
  | ixc (ch off : Nat)
  | dc (b : Bool)
  | inl
  | pure (v : Value)
  | read (ks : List Nat) (v : Value)
  | new (ks : List Nat) (v : Nat → Nat → Value) (t : Nat → Tag) (o : Nat → Nat → HO)
  | readC (ks : List Nat) (v : Value)
  | newC (ks : List Nat) (v : Nat → Nat → Value) (t : Nat → Tag) (o : Nat → Nat → HO)
  | rd (ks : List Nat) (v : Value) (t : Tag)
  | rdg (ks : List Nat) (v : Value) (t : Tag)
  | asB (src : Nat) (v : Bool)
  | sk
  | stop
  | stopL
  | cut (p : List Nat)
  | go (n : Nat)

inductive It where
  | c (p : List Nat)
  | ops (p : List Nat) (i : Nat)
  | any (p : List Nat) (i : Nat)
  | blk (id : Nat)
  | lp (p : List Nat) (n : Nat)
  | goal (T : Act → World → Prop)

def child : Nat → Code → Code
  | 0, .seq a _ => a
  | 1, .seq _ b => b
  | 0, .cond _ a _ => a
  | 1, .cond _ _ b => b
  | 0, .block _ b => b
  | 0, .loop b => b
  | _, _ => .refuse ""

def sub (c : Code) : List Nat → Code
  | [] => c
  | d :: p => child d (sub c p)

structure St where
  H : List HE
  c : Nat
  hs : List Hint

structure Fn where
  fn : Func
  body : Code

structure Cx where
  f : Fn
  K : List It
  fr : Fr

inductive Out where
  | ret (x : TV) (s : St)
  | stop (K : List It) (fr : Fr) (s : St)

/-! ### operands -/
def opnd (fr : Fr) (G : Option Bool) : Operand → Option (TV × List Ob)
  | .tmp i => match look fr i with
    | .val x => some (x, [])
    | .lit b => some (⟨.bool b, .many []⟩, [])
    | .spec g x => match G with
      | some g' => some (x, [.syn g' g])
      | none => none
    | .junk => none
  | .const v => some (⟨v, .no⟩, [])
  | .global g => some (⟨.pointer (some ⟨g, 0, none⟩), .no⟩, [])
  | .func f => some (⟨.func (.func f) #[] #[], .no⟩, [])

def rho (fr : Fr) : Operand → Value
  | .tmp i => match look fr i with
    | .val x => x.v
    | .lit b => .bool b
    | .spec _ x => x.v
    | .junk => undef
  | .const v => v
  | .global g => .pointer (some ⟨g, 0, none⟩)
  | .func f => .func (.func f) #[] #[]

def opnds (fr : Fr) (G : Option Bool) : List Operand → Option (List TV × List Ob)
  | [] => some ([], [])
  | x :: r => match opnd fr G x with
    | none => none
    | some (v, o) => match opnds fr G r with
      | none => none
      | some (vs, os) => some (v :: vs, o ++ os)

/-! ### the plain part of an operation's meaning -/
def semRun {α : Type} (P : Program) (b : Nat) : Sem α → Option Obj → Option (α × Option Obj)
  | .pure a, u => some (a, u)
  | .program k, u => semRun P b (k P) u
  | .mark _ k, u => semRun P b k u
  | .new o k, none => semRun P b (k b) (some o)
  | _, _ => none

/-! ### tags -/
def flatT : Tag → List Tag
  | .many ts => ts
  | t => [t]

def zipT : List Value → List Tag → List TV
  | [], _ => []
  | v :: vs, [] => ⟨v, .no⟩ :: zipT vs []
  | v :: vs, t :: ts => ⟨v, t⟩ :: zipT vs ts

def tagsOf : List TV → List Tag
  | [] => []
  | x :: r => x.t :: tagsOf r

def setAt {α : Type} : List α → Nat → List α → List α
  | l, _, [] => l
  | [], _, _ => []
  | _ :: l, 0, x :: xs => x :: setAt l 0 xs
  | a :: l, n + 1, xs => a :: setAt l n xs

def cut {α : Type} : List α → Nat → Nat → List α
  | l, off, n => (l.drop off).take n

def fieldsOf (P : Program) (s : TypeId) : List Field := match P.underlying s with
  | some (.struct fs) => fs.toList
  | _ => []

def fieldOff (P : Program) (s : TypeId) (f : Nat) : Nat := match (fieldsOf P s)[f]? with
  | some f => f.offset
  | none => 0

def fieldSize (P : Program) (s : TypeId) (f : Nat) : Nat := match (fieldsOf P s)[f]? with
  | some f => P.cellsOf f.type
  | none => 0

def elemOf (P : Program) (t : TypeId) : TypeId := match P.underlying t with
  | some (.slice e) => e
  | some (.array _ e) => e
  | _ => 0

def aggOf (P : Program) (t : TypeId) : Option Bool := match P.underlying t with
  | some (.struct _) => some true
  | some (.array _ _) => some true
  | some _ => some false
  | none => none

def partTags (P : Program) (off : Nat → Nat) (fr : Fr) (G : Option Bool) : List (Nat × Operand) → List Tag → List Tag
  | [], acc => acc
  | (i, x) :: r, acc => match opnd fr G x with
    | some (y, _) => partTags P off fr G r (setAt acc (off i) (flatT y.t))
    | none => partTags P off fr G r acc

def nos : Nat → List Tag
  | 0 => []
  | n + 1 => .no :: nos n

def tagOp (fr : Fr) (G : Option Bool) (x : Operand) : Tag := match opnd fr G x with
  | some (y, _) => y.t
  | none => .no

/-- The tag of what an operation gives; the tags of the cells of a new block. -/
def tagRes (P : Program) (fr : Fr) (G : Option Bool) (pos : Nat) : Op → Tag
  | .move x | .assign x | .nilCheck x => tagOp fr G x
  | .slice _ x _ _ _ => tagOp fr G x
  | .alloc _ | .box _ _ | .buildSlice _ _ _ | .makeMap _ _ => .loc pos 0 0
  | .fieldAddr s x f => match tagOp fr G x with
    | .loc p c o => .loc p c (o + fieldOff P s f)
    | _ => .no
  | .field s x f => match tagOp fr G x with
    | .many ts => match cut ts (fieldOff P s f) (fieldSize P s f) with
      | [t] => t
      | ts => .many ts
    | _ => .no
  | .build t ps => .many (partTags P (fieldOff P t) fr G ps.toList (nos (P.cellsOf t)))
  | .makeFunc _ a b => .many ((a ++ b).toList.map (tagOp fr G))
  | .extract x i => match tagOp fr G x with
    | .many ts => match ts[i]? with
      | some t => t
      | none => .no
    | _ => .no
  | _ => .no

def tagNew (P : Program) (fr : Fr) (G : Option Bool) : Op → List Tag
  | .box _ x => flatT (tagOp fr G x)
  | .buildSlice t n ps => partTags P (fun i => i * P.cellsOf (elemOf P t)) fr G ps.toList (nos (n * P.cellsOf (elemOf P t)))
  | _ => []

def mkNew (o : Obj) (ts : List Tag) : Option HO := match o with
  | .cells a e (0, 0) => some (.cells e [.kn (zipT a.toList ts)])
  | .map es c => some (.other (.map es c))
  | _ => none

/-! ### memory -/
def chunkLens : List Chunk → Nat → Nat
  | _, 0 => 0
  | [], _ => 0
  | [_], _ + 1 => 0
  | c :: r, n + 1 => c.vals.length + chunkLens r n

def startOf : List Chunk → Nat → Nat
  | _, 0 => 0
  | c :: r, n + 1 => c.vals.length + startOf r n
  | [], _ => 0

def setNth {α : Type} : List α → Nat → α → List α
  | [], _, _ => []
  | _ :: l, 0, x => x :: l
  | a :: l, n + 1, x => a :: setNth l n x

def nth {α : Type} : List α → Nat → Option α
  | [], _ => none
  | a :: _, 0 => some a
  | _ :: l, n + 1 => nth l n

def addOff : Nat → Nat → Nat
  | 0, n => n
  | m, n => m + n

structure Place where
  e : HE
  ty : TypeId
  cs : List Chunk
  l : List TV
  a : Addr

/-- Where a pointer's tag leads. -/
def place (s : St) : Tag → Option Place
  | .loc pos ch off => match nth s.H pos with
    | some e => match e.o with
      | .cells ty cs => match nth cs ch with
        | some (.kn l) => some ⟨e, ty, cs, l, ⟨e.b, startOf cs ch + off, none⟩⟩
        | _ => none
      | _ => none
    | none => none
  | _ => none

def lenIs {α : Type} : List α → Nat → Bool
  | [], 0 => true
  | _ :: l, n + 1 => lenIs l n
  | _, _ => false

def allOne : List Value → Bool
  | [] => true
  | v :: r => v.oneCell' && allOne r

def loadAt (P : Program) (s : St) (t : TypeId) (x : TV) : Option (TV × List Ob) :=
  match x.v with
  | .pointer (some a) => match x.t with
    | .loc pos ch off => match place s (.loc pos ch off), aggOf P t with
      | some p, some true =>
        bif lenIs (cut p.l off (P.cellsOf t)) (P.cellsOf t) then
          some (⟨.agg (valsOf (cut p.l off (P.cellsOf t))).toArray, .many (tagsOf (cut p.l off (P.cellsOf t)))⟩, [.addr a p.a])
        else none
      | some p, some false => match nth p.l off with
          | some y => some (y, [.addr a p.a])
          | none => none
      | _, _ => none
    | _ => none
  | _ => none

def storeAt (P : Program) (s : St) (t : TypeId) (x y : TV) : Option (St × List Ob) :=
  match x.v with
  | .pointer (some a) => match x.t with
    | .loc pos ch off => match place s (.loc pos ch off), P.info? t with
      | some p, some i =>
        bif Nat.ble 1 i.size && (lenIs y.v.cells.toList i.size && (lenIs (cut p.l off i.size) i.size && allOne y.v.cells.toList)) then
          some ({ s with H := setNth s.H pos ⟨p.e.b, .cells p.ty (setNth p.cs ch (.kn (setAt p.l off (zipT y.v.cells.toList (flatT y.t)))))⟩ }, [.addr a p.a])
        else none
      | _, _ => none
    | _ => none
  | _ => none

/-! ### equality of structs -/

mutual
def eqB (P : Program) : Nat → TypeId → List Value → List Value → Option (Bool × List Ob)
  | 0, _, _, _ => none
  | n + 1, t, xs, ys => match P.underlying t, xs, ys with
    | some .bool, [.bool a], [.bool b] => some (a == b, [])
    | some (.int _), [.int k a], [.int k' b] => bif decide (k = k') then some (a == b, []) else none
    | some (.struct fs), xs, ys => match eqFields P n fs.toList xs ys with
      | some (r, ob) => some (r, .safe t :: ob)
      | none => none
    | some (.array m e), xs, ys => match aggOf P e with
      | some _ => eqElems P n m e xs ys
      | none => none
    | _, _, _ => none
def eqFields (P : Program) : Nat → List Field → List Value → List Value → Option (Bool × List Ob)
  | 0, _, _, _ => none
  | _, [], _, _ => some (true, [])
  | n + 1, f :: fs, xs, ys => match aggOf P f.type with
    | none => none
    | some _ => bif lenIs (cut xs f.offset (P.cellsOf f.type)) (P.cellsOf f.type) && lenIs (cut ys f.offset (P.cellsOf f.type)) (P.cellsOf f.type) then
      match eqB P n f.type (cut xs f.offset (P.cellsOf f.type)) (cut ys f.offset (P.cellsOf f.type)) with
      | some (r, ob) => match eqFields P n fs xs ys with
        | some (r', ob') => some (r && r', ob ++ ob')
        | none => none
      | none => none
      else none
def eqElems (P : Program) : Nat → Nat → TypeId → List Value → List Value → Option (Bool × List Ob)
  | 0, _, _, _, _ => none
  | _, 0, _, _, _ => some (true, [])
  | n + 1, m + 1, e, xs, ys => match aggOf P e with
    | none => none
    | some _ => bif lenIs (xs.take (P.cellsOf e)) (P.cellsOf e) && lenIs (ys.take (P.cellsOf e)) (P.cellsOf e) then
      match eqB P n e (xs.take (P.cellsOf e)) (ys.take (P.cellsOf e)) with
      | some (r, ob) => match eqElems P n m e (xs.drop (P.cellsOf e)) (ys.drop (P.cellsOf e)) with
        | some (r', ob') => some (r && r', ob ++ ob')
        | none => none
      | none => none
      else none
end

end Go.Proofs.Ytbbpmhbeohpmnaa.Rx
