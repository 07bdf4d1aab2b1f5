/- An executor of the model's operations over a part of memory that is known: its steps. -/
import Derived.Test.YtbbpmhbeohpmnaaEng1
import Derived.LoopN
import Derived.Orders
namespace Go.Proofs.Ytbbpmhbeohpmnaa.Rx

def HO.full : HO → Bool
  | .hole => false
  | _ => true

def blocksOf : List HE → List Nat
  | [] => []
  | e :: r => match e.o with
    | .hole => blocksOf r
    | _ => e.b :: blocksOf r

/-- What is known of memory: these blocks hold that, and are not the same. -/
def Owns (w : World) (H : List HE) : Prop := (∀ e ∈ H, e.o.full = true → w.heap[e.b]? = some e.o.obj) ∧ (blocksOf H).Nodup

/-- A call that gives a value, and turns nothing that was there. -/
def PureCall (P : Program) (f : FuncId) (args : List Value) (v : Value) : Prop :=
  ∀ w, Calls P f args.toArray w fun e w' => e = .returned v ∧ RowKit.Below w.heap.size w w'

/-- The same, of a call that reads what is known. -/
def ReadCall (P : Program) (H : List HE) (f : FuncId) (args : List Value) (v : Value) : Prop :=
  ∀ w, Owns w H → Calls P f args.toArray w fun e w' => e = .returned v ∧ RowKit.Below w.heap.size w w'

/-- Some of what is known, by its places. -/
def selH : List Nat → List HE → List HE
  | [], _ => []
  | k :: r, H => match nth H k with
    | some e => e :: selH r H
    | none => selH r H

def incr : List Nat → Bool
  | [] => true
  | [_] => true
  | a :: b :: r => Nat.blt a b && incr (b :: r)

/-- A call that makes a block, turns nothing that was there, and gives a value. -/
def NewCall (P : Program) (H : List HE) (f : FuncId) (args : List Value) (v : Nat → Nat → Value) (o : Nat → Nat → HO) : Prop :=
  ∀ w, Owns w H → Calls P f args.toArray w fun e w' => ∃ b x, e = .returned (v b x) ∧ w.heap.size ≤ b ∧ w'.heap[b]? = some (o b x).obj ∧ RowKit.Below w.heap.size w w'

/-- Both, where Z holds: what Z says of the world stays true however long a run is. -/
def ReadCallC (P : Program) (Z : World → Prop) (H : List HE) (f : FuncId) (args : List Value) (v : Value) : Prop :=
  ∀ w, Z w → Owns w H → Calls P f args.toArray w fun e w' => e = .returned v ∧ RowKit.Below w.heap.size w w'
def NewCallC (P : Program) (Z : World → Prop) (H : List HE) (f : FuncId) (args : List Value) (v : Nat → Nat → Value) (o : Nat → Nat → HO) : Prop :=
  ∀ w, Z w → Owns w H → Calls P f args.toArray w fun e w' => ∃ b x, e = .returned (v b x) ∧ w.heap.size ≤ b ∧ w'.heap[b]? = some (o b x).obj ∧ RowKit.Below w.heap.size w w'

/-- What an operation comes to: a value or none; what is known of memory; a new block, or none. -/
structure OR where
  x : Option TV
  H : List HE
  nw : Option HO
  hs : List Hint
  ob : List Ob

def under (G : Option Bool) (p : Prop) : Prop := match G with
  | none => p
  | some g => g = true → p

def evalGen (P : Program) (b : Nat × Nat) (fr : Fr) (G : Option Bool) (o : Oper) (s : St) (pos : Nat) : Option OR :=
  match opnds fr G o.op.operands.toList with
  | none => none
  | some (_, ob) => match semRun P b.1 (execOp (rho fr) o) none with
    | some (.value v, none) => some ⟨some ⟨v, tagRes P fr G 0 o.op⟩, s.H, none, s.hs, ob⟩
    | some (.value v, some obj) => match G, mkNew obj (tagNew P fr G o.op) with
      | none, some ho => some ⟨some ⟨v, tagRes P fr G pos o.op⟩, s.H, some ho, s.hs, ob⟩
      | _, _ => none
    | _ => none

def andG (G : Option Bool) (t : Bool) : Bool := match G with
  | none => t
  | some g => g && t

def evalPick (fr : Fr) (G : Option Bool) (c a b : Operand) (s : St) : Option OR :=
  match opnd fr G c with
  | some (⟨.bool t, .many []⟩, o1) => match (bif t then opnd fr (some (andG G t)) a else opnd fr (some (andG G (!t))) b) with
    | some (z, o2) => some ⟨some z, s.H, none, s.hs, o1 ++ o2⟩
    | none => none
  | some (⟨.bool t, _⟩, o1) => match opnd fr (some (andG G t)) a, opnd fr (some (andG G (!t))) b with
    | some (⟨.bool x, _⟩, o2), some (⟨.bool y, _⟩, o3) => some ⟨some ⟨.bool (cond t x y), .no⟩, s.H, none, s.hs, o1 ++ o2 ++ o3⟩
    | _, _ => none
  | _ => none

def evalEq (P : Program) (neg : Bool) (fr : Fr) (G : Option Bool) (t : TypeId) (x y : Operand) (s : St) : Option OR :=
  match opnd fr G x, opnd fr G y with
  | some (⟨.agg xs, _⟩, o1), some (⟨.agg ys, _⟩, o2) => match aggOf P t, eqB P 100 t xs.toList ys.toList with
    | some true, some (r, o3) => some ⟨some ⟨.bool (bif neg then !r else r), .no⟩, s.H, none, s.hs, o1 ++ o2 ++ .safe t :: o3⟩
    | _, _ => none
  | _, _ => none

/-- Two addresses that are known: alike, or not. -/
def evalPEq (P : Program) (neg : Bool) (fr : Fr) (G : Option Bool) (t : TypeId) (x y : Operand) (s : St) : Option OR :=
  match opnd fr G x, opnd fr G y with
  | some (⟨.pointer (some a), .loc p1 c1 f1⟩, o1), some (⟨.pointer (some b), .loc p2 c2 f2⟩, o2) => match P.underlying t, place s (.loc p1 c1 f1), place s (.loc p2 c2 f2) with
    | some (.pointer e), some pa, some pb => match P.info? e with
      | some i => bif Nat.ble 1 i.size then
          bif Nat.beq p1 p2 then
            bif Nat.beq c1 c2 && Nat.beq f1 f2 then some ⟨some ⟨.bool (!neg), .no⟩, s.H, none, s.hs, o1 ++ o2 ++ [.addr a pa.a, .addr b pb.a]⟩ else none
          else some ⟨some ⟨.bool neg, .no⟩, s.H, none, s.hs, o1 ++ o2 ++ [.addr a pa.a, .addr b pb.a]⟩
        else none
      | none => none
    | _, _, _ => none
  | _, _ => none

def isPtrV (fr : Fr) (G : Option Bool) (x : Operand) : Bool := match opnd fr G x with
  | some (⟨.pointer (some _), _⟩, _) => true
  | _ => false

def isAggV (fr : Fr) (G : Option Bool) (x : Operand) : Bool := match opnd fr G x with
  | some (⟨.agg _, _⟩, _) => true
  | _ => false

/-- An index within its bounds that leads to a place. -/
def IxOk (n : Int) (len off sz st : Nat) : Prop := (0 ≤ n ∧ n < (len : Int)) ∧ off + n.toNat * sz = st

def ixB (n : Int) (len off sz st : Nat) : Bool := decide (0 ≤ n) && (decide (n < (len : Int)) && Nat.beq (off + n.toNat * sz) st)

def ixHint : List Hint → Option (Bool × Nat × Nat × List Hint)
  | .ix ch off :: hs => some (false, ch, off, hs)
  | .ixc ch off :: hs => some (true, ch, off, hs)
  | _ => none

def ixOb (c : Bool) (G : Option Bool) (n : Int) (len off sz st : Nat) : Ob :=
  bif c then .syn (ixB n len off sz st) true else .prop (under G (IxOk n len off sz st))

def evalIx (P : Program) (fr : Fr) (G : Option Bool) (t : TypeId) (x i : Operand) (s : St) : Option OR :=
  match ixHint s.hs with
  | some (c, ch, off, hs) => match opnd fr G x, opnd fr G i with
    | some (⟨.slice (some a) len _, .loc pos _ _⟩, o1), some (⟨.int _ n, _⟩, o2) => match P.underlying t, place s (.loc pos ch off) with
      | some (.slice e), some p => match aggOf P e with
        | none => none
        | some _ => some ⟨some ⟨.pointer (some p.a), .loc pos ch off⟩, s.H, none, hs,
          o1 ++ o2 ++ [ixOb c G n len a.off (P.cellsOf e) p.a.off, .addr a ⟨p.a.block, a.off, none⟩]⟩
      | _, _ => none
    | some (⟨.pointer (some a), .loc pos _ _⟩, o1), some (⟨.int _ n, _⟩, o2) => match P.underlying t, place s (.loc pos ch off) with
      | some (.array len e), some p => match aggOf P e with
        | none => none
        | some _ => some ⟨some ⟨.pointer (some p.a), .loc pos ch off⟩, s.H, none, hs,
          o1 ++ o2 ++ [ixOb c G n len a.off (P.cellsOf e) p.a.off, .addr a ⟨p.a.block, a.off, none⟩]⟩
      | _, _ => none
    | _, _ => none
  | none => none

def evalLoad (P : Program) (fr : Fr) (G : Option Bool) (t : TypeId) (x : Operand) (s : St) : Option OR :=
  match opnd fr G x with
  | some (y, o1) => match loadAt P s t y with
    | some (z, o2) => some ⟨some z, s.H, none, s.hs, o1 ++ o2⟩
    | none => none
  | none => none

def evalStore (P : Program) (fr : Fr) (G : Option Bool) (t : TypeId) (x y : Operand) (s : St) : Option OR :=
  match G, opnd fr none x, opnd fr none y with
  | none, some (a, o1), some (z, o2) => match storeAt P s t a z with
    | some (s', o3) => some ⟨none, s'.H, none, s.hs, o1 ++ o2 ++ o3⟩
    | none => none
  | _, _, _ => none

def evalCall (P : Program) (Z : World → Prop) (b : Nat × Nat) (fr : Fr) (G : Option Bool) (f : Operand) (args : List Operand) (s : St) (pos : Nat) : Option OR :=
  match opnd fr G f, opnds fr G args with
  | some (⟨.func (.func fid) first cap, _⟩, o1), some (xs, o2) =>
    let ys := first.toList ++ valsOf xs ++ cap.toList
    match nth P.funcs.toList fid with
    | none => none
    | some fn => match fn.body with
    | none => none
    | some _ => match s.hs with
    | .pure v :: hs => some ⟨some ⟨v, .no⟩, s.H, none, hs, o1 ++ o2 ++ [.prop (under G (PureCall P fid ys v))]⟩
    | .read ks v :: hs => bif !incr ks then none else some ⟨some ⟨v, .no⟩, s.H, none, hs, o1 ++ o2 ++ [.prop (under G (ReadCall P (selH ks s.H) fid ys v))]⟩
    | .new ks v t o :: hs => bif !incr ks then none else match G with
      | none => some ⟨some ⟨v b.1 b.2, t pos⟩, s.H, some (o b.1 b.2), hs, o1 ++ o2 ++ [.prop (NewCall P (selH ks s.H) fid ys v o)]⟩
      | some _ => none
    | .readC ks v :: hs => bif !incr ks then none else some ⟨some ⟨v, .no⟩, s.H, none, hs, o1 ++ o2 ++ [.prop (under G (ReadCallC P Z (selH ks s.H) fid ys v))]⟩
    | .newC ks v t o :: hs => bif !incr ks then none else match G with
      | none => some ⟨some ⟨v b.1 b.2, t pos⟩, s.H, some (o b.1 b.2), hs, o1 ++ o2 ++ [.prop (NewCallC P Z (selH ks s.H) fid ys v o)]⟩
      | some _ => none
    | _ => none
  | _, _ => none

/-- An operation that reads, where Z holds. -/
def ReadOp (P : Program) (Z : World → Prop) (H : List HE) (o : Oper) (vs : List Value) (v : Value) : Prop :=
  ∀ (ρ : Operand → Value), o.op.operands.toList.map ρ = vs → ∀ w, Z w → Owns w H → (execOp ρ o).run P w = .ok (.value v) w

def rdable : Op → Bool
  | .load _ _ => true
  | .lookup _ _ _ _ => true
  | .indexAddr _ _ _ => true
  | .index _ _ _ => true
  | .slice _ _ _ _ _ => true
  | .call ⟨.builtin .len, _, _⟩ => true
  | .call ⟨.builtin .cap, _, _⟩ => true
  | _ => false

def rdHint (hs : List Hint) (o : Op) : Option (Bool × List Nat × Value × Tag × List Hint) := match hs with
  | .rd ks v t :: hs => bif rdable o then some (false, ks, v, t, hs) else none
  | .rdg ks v t :: hs => bif rdable o then some (true, ks, v, t, hs) else none
  | _ => none

def evalRd (P : Program) (Z : World → Prop) (fr : Fr) (G : Option Bool) (o : Oper) (s : St) (g : Bool) (ks : List Nat) (v : Value) (t : Tag) (hs : List Hint) : Option OR :=
  match opnds fr G o.op.operands.toList with
  | some (xs, ob) => bif !incr ks then none else some ⟨some ⟨v, t⟩, s.H, none, hs, ob ++ [.prop (under (bif g then G else none) (ReadOp P Z (selH ks s.H) o (valsOf xs) v))]⟩
  | none => none

/-- A truth value that is said: a guard that leans on it is decided. -/
def asHint (hs : List Hint) (o : Op) : Option (Bool × Operand × List Hint) := match hs with
  | .asB n v :: hs => match o with
    | .move (.tmp m) => bif Nat.beq n m then some (v, .tmp m, hs) else none
    | _ => none
  | _ => none

/-- A hint that passes over an operation that could take the next one. -/
def skTail (hs : List Hint) (o : Op) : List Hint := match hs with
  | .sk :: hs' => bif rdable o then hs' else hs
  | _ => hs

def evalAs (fr : Fr) (G : Option Bool) (v : Bool) (x : Operand) (s : St) (hs : List Hint) : Option OR := match G with
  | some _ => none
  | none => match opnd fr none x with
    | some (⟨.bool t, _⟩, ob) => some ⟨some ⟨.bool v, .many []⟩, s.H, none, hs, ob ++ [.bool t v]⟩
    | _ => none

def evalOp0 (P : Program) (Z : World → Prop) (b : Nat × Nat) (fr : Fr) (G : Option Bool) (o : Oper) (s : St) (pos : Nat) : Option OR :=
  match o.op with
  | .load t x => evalLoad P fr G t x s
  | .store t x y => evalStore P fr G t x y s
  | .pick c x y => evalPick fr G c x y s
  | .binOp .eql t x y _ => bif isAggV fr G x then evalEq P false fr G t x y s else bif isPtrV fr G x && isPtrV fr G y then evalPEq P false fr G t x y s else evalGen P b fr G o s pos
  | .binOp .neq t x y _ => bif isAggV fr G x then evalEq P true fr G t x y s else bif isPtrV fr G x && isPtrV fr G y then evalPEq P true fr G t x y s else evalGen P b fr G o s pos
  | .indexAddr t x i => evalIx P fr G t x i s
  | .select _ _ => none
  | .call ⟨.value f, args, _⟩ => evalCall P Z b fr G f args.toList s pos
  | _ => evalGen P b fr G o s pos

def evalOp (P : Program) (Z : World → Prop) (b : Nat × Nat) (fr : Fr) (G : Option Bool) (o : Oper) (s : St) (pos : Nat) : Option OR :=
  match rdHint s.hs o.op with
  | some (g, ks, v, t, hs) => evalRd P Z fr G o s g ks v t hs
  | none => match asHint s.hs o.op with
    | some (v, x, hs) => evalAs fr G v x s hs
    | none => evalOp0 P Z b fr G o { s with hs := skTail s.hs o.op } pos

/-- Operations that may turn what is known, or are entered: they stand alone in a region that draws its order. -/
def isCall : Op → Bool
  | .call ⟨.value _, _, _⟩ => true
  | _ => false

def isStore : Op → Bool
  | .store _ _ _ => true
  | _ => false

def isLen : Op → Bool
  | .call ⟨.builtin .len, _, _⟩ => true
  | .binOp .eql _ _ _ _ => true
  | .binOp .neq _ _ _ _ => true
  | _ => false

/-- Operations at which the hint 'stop' counts. -/
def stops : Op → Bool
  | .call ⟨.value _, _, _⟩ => true
  | .call ⟨.builtin .append, _, _⟩ => true
  | .call ⟨.builtin .copy, _, _⟩ => true
  | .call ⟨.builtin .clear, _, _⟩ => true
  | .call ⟨.builtin .delete, _, _⟩ => true
  | .mapUpdate _ _ _ _ => true
  | .lookup _ _ _ _ => true
  | .next _ _ => true
  | .range _ _ => true
  | .entry _ => true
  | .makeSlice _ _ _ => true
  | .slice _ _ _ _ _ => true
  | .index _ _ _ => true
  | _ => false

def heavy (hs : List Hint) (o : Op) : Bool := match hs with
  | .inl :: _ => isCall o
  | .stop :: _ => stops o
  | .stopL :: _ => isLen o
  | _ => false

/-- Is an operation wanted? 'none': it is passed over; 'some G': it is, where G. 'again': the guard's truth is laid down first. -/
inductive Gd where
  | no
  | yes (G : Option Bool)
  | again (d : Tmp) (t v : Bool) (hs : List Hint)
  | bad

/-- What a temporary holds whose operation was passed over. -/
def nil1 : SE := .val ⟨undef, .no⟩

def guardOf (ops : List Oper) (fr : Fr) (o : Oper) (hs : List Hint) : Gd :=
  match o.guard with
  | none => .yes none
  | some (j, want) => match nth ops j with
    | none => .bad
    | some oj => match oj.dst with
      | none => .bad
      | some d => match look fr d with
        | .lit t => bif (bif want then t else !t) then .yes none else .no
        | .val ⟨.bool t, .many []⟩ => bif (bif want then t else !t) then .yes none else .no
        | .val ⟨.bool t, _⟩ => match hs with
          | .g v :: hs => .again d t v hs
          | _ => .yes (some (bif want then t else !t))
        | .spec g ⟨.bool t, _⟩ => .yes (some (g && (bif want then t else !t)))
        | .val ⟨.tuple _, _⟩ => .no
        | _ => .bad

def seOf (G : Option Bool) (x : Option TV) : SE := match x with
  | none => .junk
  | some x => match G with
    | none => .val x
    | some g => .spec g x

def okDst (n : Nat) (dst : Option Tmp) : Bool := match dst with
  | none => true
  | some d => Nat.blt d n

def putF (fr : Fr) (dst : Option Tmp) (se : SE) : Fr := match dst with
  | none => fr
  | some d => (d, se) :: fr

def newH (b : Nat) : Option HO → List HE
  | none => []
  | some o => [⟨b, o⟩]

def dropTo (id : Nat) : List It → Option (List It)
  | [] => none
  | .blk j :: K => bif Nat.beq j id then some K else dropTo id K
  | _ :: K => dropTo id K

def opsOf : Code → List Oper
  | .region _ ops _ => ops.toList
  | _ => []

structure Cxt where
  fn : Func
  body : Code
  n : Nat
  K : List It
  fr : Fr

structure CFt where
  cx : Cxt
  dst : Option Tmp

abbrev Step := Sum (Cxt × List CFt × St) Out

def resVal (P : Program) (fr : Fr) (s : St) : ResultVar → Option (TV × List Ob)
  | .tmp t => opnd fr none (.tmp t)
  | .cell a t => match opnd fr none (.tmp a) with
    | some (y, o1) => match loadAt P s t y with
      | some (z, o2) => some (z, o1 ++ o2)
      | none => none
    | none => none

def resVals (P : Program) (fr : Fr) (s : St) : List ResultVar → Option (List TV × List Ob)
  | [] => some ([], [])
  | r :: rs => match resVal P fr s r with
    | none => none
    | some (x, o) => match resVals P fr s rs with
      | none => none
      | some (xs, os) => some (x :: xs, o ++ os)

def resTV : List TV → TV
  | [x] => x
  | xs => ⟨.tuple (valsOf xs).toArray, .many (tagsOf xs)⟩

def finish (P : Program) (cx : Cxt) (stk : List CFt) (s : St) : Option (List Ob × Step) :=
  match resVals P cx.fr s cx.fn.results.toList with
  | none => none
  | some (xs, ob) => match stk with
    | [] => some (ob, .inr (.ret (resTV xs) s))
    | cf :: stk => bif okDst cf.cx.n cf.dst then some (ob, .inl ({ cf.cx with fr := putF cf.cx.fr cf.dst (.val (resTV xs)) }, stk, s)) else none

def stopAt (cx : Cxt) (stk : List CFt) (s : St) : Option (List Ob × Step) := match stk with
  | [] => some ([], .inr (.stop cx.K cx.fr s))
  | _ :: _ => none

def enum : Nat → List TV → Fr
  | _, [] => []
  | i, x :: r => (i, .val x) :: enum (i + 1) r

def goK (cx : Cxt) (stk : List CFt) (s : St) (ob : List Ob) (K : List It) : Option (List Ob × Step) :=
  some (ob, .inl ({ cx with K := K }, stk, s))

def stopHere (hs : List Hint) (o : Op) : Bool := match hs with
  | .stop :: _ => stops o
  | .stopL :: _ => isLen o
  | _ => false

def inlHere (hs : List Hint) (o : Op) : Bool := match hs with
  | .inl :: _ => isCall o
  | _ => false

/-- A call is entered. -/
def enter (P : Program) (cx : Cxt) (stk : List CFt) (s : St) (K' : List It) (o : Oper) (G : Option Bool) : Option (List Ob × Step) :=
  match o.op, G with
  | .call ⟨.value f, args, _⟩, none => match opnd cx.fr none f, opnds cx.fr none args.toList with
    | some (⟨.func (.func fid) first cap, tg⟩, o1), some (xs, o2) =>
      let ys := zipT first.toList (flatT tg) ++ xs ++ zipT cap.toList ((flatT tg).drop first.toList.length)
      match nth P.funcs.toList fid with
      | some fn => match fn.body with
        | some body => bif okDst cx.n o.dst then
            some (o1 ++ o2, .inl (⟨fn, body, ys.length + (fn.ntmps - ys.length), [.c []], enum 0 ys⟩, ⟨{ cx with K := K' }, o.dst⟩ :: stk, s))
          else none
        | none => none
      | none => none
    | _, _ => none
  | _, _ => none

/-- One operation in its turn, not passed over; K': what follows. -/
def stepOp (P : Program) (Z : World → Prop) (b : Nat × Nat) (cx : Cxt) (stk : List CFt) (s : St) (K' : List It) (o : Oper) (G : Option Bool) : Option (List Ob × Step) :=
  bif stopHere s.hs o.op then stopAt cx stk { s with hs := s.hs.tail }
  else bif inlHere s.hs o.op then enter P cx stk { s with hs := s.hs.tail } K' o G
  else match evalOp P Z b cx.fr G o s s.H.length with
    | some r => bif okDst cx.n o.dst then
        some (r.ob, .inl ({ cx with K := K', fr := putF cx.fr o.dst (seOf G r.x) }, stk, ⟨r.H ++ newH b.1 r.nw, s.c + 1, r.hs⟩))
      else none
    | none => none

def stepOps (P : Program) (Z : World → Prop) (b : Nat × Nat) (cx : Cxt) (stk : List CFt) (s : St) (ops : List Oper) (o : Oper) (K' : List It) : Option (List Ob × Step) :=
  match guardOf ops cx.fr o s.hs with
  | .bad => none
  | .no => bif okDst cx.n o.dst then some ([], .inl ({ cx with K := K', fr := putF cx.fr o.dst nil1 }, stk, s)) else none
  | .again d t v hs => some ([.bool t v], .inl ({ cx with fr := (d, .lit v) :: cx.fr }, stk, { s with hs := hs }))
  | .yes G => stepOp P Z b cx stk s K' o G

/-! ### a region that draws its order -/
/-- What an operation that has come up has left: in its temporary; which places of memory it looked at; what it put where. -/
structure En where
  i : Nat
  dst : Option Tmp
  se : SE
  ft : List Nat
  wr : Option (Nat × HE)

def findE (j : Nat) : List En → Option En
  | [] => none
  | e :: r => bif Nat.beq e.i j then some e else findE j r

/-- What is known of the temporaries where the operations that come ahead of operation i have come up, and, it may be, others that are in no order with it. -/
def frOf (bef : List Nat) (i : Nat) (msk : Nat) (es : List En) (fr : Fr) : List Oper → Nat → Fr
  | [], _ => fr
  | o :: r, j =>
    match o.dst with
    | none => frOf bef i msk es fr r (j + 1)
    | some d => bif msk.testBit j then
        match findE j es with
        | some e => (d, e.se) :: frOf bef i msk es fr r (j + 1)
        | none => frOf bef i msk es fr r (j + 1)
      else bif Nat.beq i j then frOf bef i msk es fr r (j + 1)
      else match nth bef j with
        | some m => bif m.testBit i then frOf bef i msk es fr r (j + 1) else (d, .junk) :: frOf bef i msk es fr r (j + 1)
        | none => (d, .junk) :: frOf bef i msk es fr r (j + 1)

def hole : HE := ⟨0, .hole⟩

def putAt : List HE → Nat → HE → List HE
  | [], 0, h => [h]
  | [], n + 1, h => hole :: putAt [] n h
  | _ :: l, 0, h => h :: l
  | a :: l, n + 1, h => a :: putAt l n h

def memN (d : Nat) : List Nat → Bool
  | [] => false
  | e :: r => Nat.beq d e || memN d r

/-- Only these places. -/
def maskL (ft : List Nat) : Nat → List HE → List HE
  | _, [] => []
  | i, a :: l => (bif memN i ft then a else hole) :: maskL ft (i + 1) l

/-- Memory behind what these have put. -/
def curL (p : Nat → Bool) : List En → List HE → List HE
  | [], L => L
  | e :: r, L => curL p r (bif p e.i then (match e.wr with | some (pos, h) => putAt L pos h | none => L) else L)

/-- No two that look at one place, one of which puts something there, in no order. -/
def okPair (msk : Nat) (ft : List Nat) (wr : Option (Nat × HE)) : List En → Bool
  | [] => true
  | e :: r => (msk.testBit e.i || (!(match e.wr with | some (pos, _) => memN pos ft | none => false) && !(match wr with | some (pos, _) => memN pos e.ft | none => false))) && okPair msk ft wr r

def tagPos : Tag → List Nat
  | .loc pos _ _ => [pos]
  | _ => []

/-- Which places of memory an operation looks at. -/
def footOf0 (fr : Fr) (G : Option Bool) (hs : List Hint) : Op → List Nat
  | .load _ x => tagPos (tagOp fr G x)
  | .store _ x _ => tagPos (tagOp fr G x)
  | .indexAddr _ x _ => tagPos (tagOp fr G x)
  | .binOp .eql _ x y _ => tagPos (tagOp fr G x) ++ tagPos (tagOp fr G y)
  | .binOp .neq _ x y _ => tagPos (tagOp fr G x) ++ tagPos (tagOp fr G y)
  | .call ⟨.value _, _, _⟩ => match hs with
    | .read ks _ :: _ => ks
    | .new ks _ _ _ :: _ => ks
    | .readC ks _ :: _ => ks
    | .newC ks _ _ _ :: _ => ks
    | _ => []
  | _ => []

def footOf (fr : Fr) (G : Option Bool) (hs : List Hint) (o : Op) : List Nat := match rdHint hs o with
  | some (_, ks, _, _, _) => ks
  | none => footOf0 fr G hs o

def putAll : List En → Fr → Fr
  | [], fr => fr
  | e :: r, fr => putAll r (putF fr e.dst e.se)

/-- How many hints an operation takes; whether it makes a block: both by its form alone. -/
def hintsOf0 : Op → Nat
  | .indexAddr _ _ _ => 1
  | .call ⟨.value _, _, _⟩ => 1
  | _ => 0

def hintsOf (hs : List Hint) (o : Op) : Nat := match rdHint hs o with
  | some _ => 1
  | none => match asHint hs o with
    | some _ => 1
    | none => match hs with
      | .sk :: _ => bif rdable o then 1 + hintsOf0 o else hintsOf0 o
      | _ => hintsOf0 o

def isNew (hs : List Hint) : Op → Bool
  | .alloc _ => true
  | .box _ _ => true
  | .buildSlice _ _ _ => true
  | .makeMap _ _ => true
  | .call ⟨.value _, _, _⟩ => match hs with
    | .new _ _ _ _ :: _ => true
    | .newC _ _ _ _ :: _ => true
    | _ => false
  | _ => false

def isSomeB {α : Type} : Option α → Bool
  | some _ => true
  | none => false

/-- What an operation puts where: a new block at the next place; a store. -/
def wrOf (b pos : Nat) (ft : List Nat) (o : Op) (r : OR) : Option (Nat × HE) :=
  bif isStore o then (match ft with
    | p :: _ => match nth r.H p with
      | some h => some (p, h)
      | none => none
    | [] => none)
  else match r.nw with
    | some ho => some (pos, ⟨b, ho⟩)
    | none => none

def newFt (pos : Nat) (new : Bool) (ft : List Nat) : List Nat := bif new then pos :: ft else ft

def evE (P : Program) (Z : World → Prop) (b : Nat × Nat) (n : Nat) (ops : List Oper) (bef : List Nat) (fr : Fr) (H : List HE) (c : Nat) (o : Oper) (msk i : Nat) (hs : List Hint) (pos : Nat) (es : List En) : Option (En × List Ob) :=
  match guardOf ops (frOf bef i msk es fr ops 0) o hs with
  | .yes G => match evalOp P Z b (frOf bef i msk es fr ops 0) G o ⟨maskL (footOf (frOf bef i msk es fr ops 0) G hs o.op) 0 (curL msk.testBit es H), c, hs⟩ pos with
    | some r => bif okDst n o.dst && ((isNew hs o.op == isSomeB r.nw) && !(isNew hs o.op && isSomeB G)) then
        some (⟨i, o.dst, seOf G r.x, newFt pos (isNew hs o.op) (footOf (frOf bef i msk es fr ops 0) G hs o.op), wrOf b.1 pos (footOf (frOf bef i msk es fr ops 0) G hs o.op) o.op r⟩, r.ob)
      else none
    | none => none
  | .no => bif okDst n o.dst && !isNew hs o.op then some (⟨i, o.dst, nil1, [], none⟩, []) else none
  | _ => none

/-- The operations from i on, m of them at most, up to one that stands alone, in whatever order. -/
def phase (P : Program) (Z : World → Prop) (ν : Nat → Nat × Nat) (n : Nat) (ops : List Oper) (bef : List Nat) (fr : Fr) (H : List HE) (c : Nat) :
    (m : Nat) → (i : Nat) → List Hint → (pos k : Nat) → List En → List Ob → Option (List En × List Hint × List Ob)
  | 0, _, hs, _, _, es, ob => some (es, hs, ob)
  | m + 1, i, hs, pos, k, es, ob => match nth ops i, nth bef i with
    | some o, some msk => bif heavy hs o.op then some (es, hs, ob) else
      match evE P Z (ν (c + k)) n ops bef fr H c o msk i hs pos es with
      | some (e, ob') => bif okPair msk e.ft e.wr es then
          phase P Z ν n ops bef fr H c m (i + 1) (hs.drop (hintsOf hs o.op)) (bif isNew hs o.op then pos + 1 else pos) (k + 1) (es ++ [e]) (ob ++ ob')
        else none
      | none => none
    | _, _ => some (es, hs, ob)

def edgesDown (i : Nat) : List Edge → Bool
  | [] => true
  | e :: r => (!Region.binds .any e || Nat.blt e.on i) && edgesDown i r

def downFrom : Nat → List Oper → Bool
  | _, [] => true
  | i, o :: r => edgesDown i o.after.toList && downFrom (i + 1) r

def dstsOf : List Oper → List Nat
  | [] => []
  | o :: r => match o.dst with
    | some d => d :: dstsOf r
    | none => dstsOf r

def nodupN : List Nat → Bool
  | [] => true
  | d :: r => !memN d r && nodupN r

def noSelect : List Oper → Bool
  | [] => true
  | o :: r => (match o.op with | .select _ _ => false | _ => true) && noSelect r

def regionOk (ops : List Oper) : Bool := downFrom 0 ops && nodupN (dstsOf ops)

def allBit (i : Nat) : List Nat → Bool
  | [] => true
  | m :: r => m.testBit i && allBit i r

/-- All that stand ahead of operation i come ahead of it, and it comes ahead of all that stand behind; or there is no such operation. -/
def alone (bef : List Nat) (i : Nat) : Bool := match nth bef i with
  | some m => Nat.beq m (2 ^ i - 1) && allBit i (bef.drop (i + 1))
  | none => true

def nthD : List Nat → Nat → Nat
  | [], _ => 0
  | a :: _, 0 => a
  | _ :: l, n + 1 => nthD l n

def maskOf (acc : List Nat) : List Edge → Nat
  | [] => 0
  | e :: r => bif Region.binds .any e then (maskOf acc r ||| 2 ^ e.on) ||| nthD acc e.on else maskOf acc r

def befFrom (acc : List Nat) : List Oper → List Nat
  | [] => []
  | o :: r => maskOf acc o.after.toList :: befFrom (acc ++ [maskOf acc o.after.toList]) r

def befOf (ops : List Oper) : List Nat := befFrom [] ops

def stepAny (P : Program) (Z : World → Prop) (ν : Nat → Nat × Nat) (cx : Cxt) (stk : List CFt) (s : St) (p : List Nat) (i : Nat) (K : List It) : Option (List Ob × Step) :=
  bif regionOk (opsOf (sub cx.body p)) then
    match nth (opsOf (sub cx.body p)) i with
    | none => goK cx stk s [] K
    | some o => match phase P Z ν cx.n (opsOf (sub cx.body p)) (befOf (opsOf (sub cx.body p))) cx.fr s.H s.c (opsOf (sub cx.body p)).length i s.hs s.H.length 0 [] [] with
      | none => none
      | some ([], _, _) => bif alone (befOf (opsOf (sub cx.body p))) i then stepOps P Z (ν s.c) cx stk s (opsOf (sub cx.body p)) o (.any p (i + 1) :: K) else none
      | some (e :: es, hs, ob) => bif alone (befOf (opsOf (sub cx.body p))) (i + (e :: es).length) then
        some (ob, .inl ({ cx with fr := putAll (e :: es) cx.fr, K := .any p (i + (e :: es).length) :: K }, stk, ⟨curL (fun _ => true) (e :: es) s.H, s.c + (e :: es).length, hs⟩))
        else none
  else none

def dHint : List Hint → Option (Bool × Bool × List Hint)
  | .d b :: hs => some (false, b, hs)
  | .dc b :: hs => some (true, b, hs)
  | _ => none

def eqPath : List Nat → List Nat → Bool
  | [], [] => true
  | a :: l, b :: r => Nat.beq a b && eqPath l r
  | _, _ => false

def cutAt (hs : List Hint) (p : List Nat) : Bool := match hs with
  | .cut q :: _ => eqPath q p
  | _ => false

def stepC (P : Program) (Z : World → Prop) (ν : Nat → Nat × Nat) (cx : Cxt) (stk : List CFt) (s : St) : Option (List Ob × Step) :=
  match cx.K with
  | [] => finish P cx stk s
  | .blk _ :: K => goK cx stk s [] K
  | .goal _ :: _ => stopAt cx stk s
  | .lp _ 0 :: _ => none
  | .lp p (n + 1) :: K => goK cx stk s [] (.c (0 :: p) :: .lp p n :: K)
  | .ops p i :: K => match nth (opsOf (sub cx.body p)) i with
    | none => goK cx stk s [] K
    | some o => stepOps P Z (ν s.c) cx stk s (opsOf (sub cx.body p)) o (.ops p (i + 1) :: K)
  | .any p i :: K => stepAny P Z ν cx stk s p i K
  | .c p :: K => bif cutAt s.hs p then stopAt cx stk { s with hs := s.hs.tail } else match sub cx.body p with
    | .skip | .label _ => goK cx stk s [] K
    | .seq _ _ => goK cx stk s [] (.c (0 :: p) :: .c (1 :: p) :: K)
    | .cond c _ _ => match opnd cx.fr none c, dHint s.hs with
      | some (⟨.bool t, _⟩, ob), some (cc, v, hs) => goK cx stk { s with hs := hs } (ob ++ [bif cc then .syn t v else .bool t v]) (.c ((bif v then 0 else 1) :: p) :: K)
      | _, _ => none
    | .block id _ => goK cx stk s [] (.c (0 :: p) :: .blk id :: K)
    | .loop _ => match s.hs with
      | .go n :: hs => goK cx stk { s with hs := hs } [] (.lp p n :: K)
      | _ => stopAt cx stk s
    | .exit id => match dropTo id K with
      | some K' => goK cx stk s [] K'
      | none => none
    | .ret => finish P cx stk s
    | .region _ _ false => goK cx stk s [] (.ops p 0 :: K)
    | .region _ _ true => goK cx stk s [] (.any p 0 :: K)
    | _ => none

def run (P : Program) (Z : World → Prop) (ν : Nat → Nat × Nat) : Nat → Cxt → List CFt → St → List Ob → Option (List Ob × Out)
  | 0, _, _, _, _ => none
  | n + 1, cx, stk, s, ob => match stepC P Z ν cx stk s with
    | none => none
    | some (o, .inl (cx', stk', s')) => run P Z ν n cx' stk' s' (ob ++ o)
    | some (o, .inr out) => some (ob ++ o, out)

/-! ### what is asked at the end, sorted -/
def synL : List Ob → List (Addr × Bool)
  | [] => []
  | .addr a _ :: r => (a, true) :: synL r
  | .syn a _ :: r => (⟨0, 0, none⟩, a) :: synL r
  | _ :: r => synL r
def synR : List Ob → List (Addr × Bool)
  | [] => []
  | .addr _ b :: r => (b, true) :: synR r
  | .syn _ b :: r => (⟨0, 0, none⟩, b) :: synR r
  | _ :: r => synR r
def tests : List Ob → List Bool
  | [] => []
  | .bool a _ :: r => a :: tests r
  | _ :: r => tests r
def truths : List Ob → List Bool
  | [] => []
  | .bool _ b :: r => b :: truths r
  | _ :: r => truths r
def props : List Ob → List Prop
  | [] => []
  | .prop p :: r => p :: props r
  | _ :: r => props r

def safes : List Ob → List TypeId
  | [] => []
  | .safe t :: r => t :: safes r
  | _ :: r => safes r

def allIn (S : List TypeId) : List TypeId → Bool
  | [] => true
  | t :: r => memN t S && allIn S r

def All : List Prop → Prop
  | [] => True
  | [p] => p
  | p :: r => p ∧ All r

end Go.Proofs.Ytbbpmhbeohpmnaa.Rx
