/-
  An evaluator of the translated code over a heap of named blocks: the code's first form, with all that its types tell worked out ahead. It runs each region in one order, never asks the tape, and gives up (none) where it cannot vouch for every order and every capacity. Its soundness lies in the texts behind this one.
-/
import Derived.Defers
namespace Go.Ab

/-- Maps from numbers. -/
inductive T (α : Type) where
  | e
  | n (v : Option α) (l r : T α)

namespace T
variable {α : Type}
noncomputable def get (t : T α) : Nat → Option α :=
  T.rec (motive := fun _ => Nat → Option α) (fun _ => none) (fun v _ _ l r k => Bool.rec (motive := fun _ => Option α)
    (Bool.rec (motive := fun _ => Option α) (r (Nat.sub (Nat.div k 2) 1)) (l (Nat.div k 2)) (Nat.beq (Nat.mod k 2) 1)) v (Nat.beq k 0)) t
noncomputable def setF (f : Nat) : T α → Nat → α → T α :=
  Nat.rec (motive := fun _ => T α → Nat → α → T α) (fun t _ _ => t) (fun _ ih t k x => T.rec (motive := fun _ => T α)
     (Bool.rec (motive := fun _ => T α) (Bool.rec (motive := fun _ => T α) (.n none .e (ih .e (Nat.sub (Nat.div k 2) 1) x)) (.n none (ih .e (Nat.div k 2) x) .e) (Nat.beq (Nat.mod k 2) 1)) (.n (some x) .e .e) (Nat.beq k 0))
     (fun v l r _ _ => Bool.rec (motive := fun _ => T α) (Bool.rec (motive := fun _ => T α) (.n v l (ih r (Nat.sub (Nat.div k 2) 1) x)) (.n v (ih l (Nat.div k 2) x) r) (Nat.beq (Nat.mod k 2) 1)) (.n (some x) l r) (Nat.beq k 0)) t) f
noncomputable def set (t : T α) (k : Nat) (x : α) : T α := setF (Nat.succ k) t k x
noncomputable def halves (l : List α) : List α × List α :=   -- the first, third, ..; the second, fourth, ..
  List.rec ([], []) (fun x _ ih => (x :: ih.2, ih.1)) l
noncomputable def ofListF (f : Nat) : List α → T α :=
  Nat.rec (fun _ => .e) (fun _ ih l => List.rec .e (fun x l _ => .n (some x) (ih (halves l).1) (ih (halves l).2)) l) f
noncomputable def ofList (l : List α) : T α := ofListF l.length l
end T

/-- Values: an address is a block's name and an offset. A slice's last mark: its block may have room behind what is known of it. -/
inductive AV where
  | bool (b : Bool)
  | int (k : IntKind) (n : Int)
  | str (s : List UInt8)
  | nilp
  | ptr (n off : Nat)
  | nils
  | sl (n off len cap : Nat) (op : Bool)
  | agg (l : List AV)
  | tup (l : List AV)
  | fn (f : Nat) (fst cap : List AV)
  | nilfn
  | iface (t : Nat) (v : AV)
  | nilif
  deriving Inhabited

/-- Blocks: cells (may they be written? what an element takes, where there may be room behind them), a string that is gone through, one that is not to be looked at any more. -/
inductive Blk where
  | cells (l : List AV) (ro : Bool) (k : Nat)
  | iter (s : List UInt8) (pos : Nat)
  | dead

structure H where
  m : T Blk
  next : Nat

structure Dfr where
  f : Nat
  args : List AV

structure St where
  fr : T AV
  h : H
  ds : List Dfr

inductive Ex where
  | nrm
  | ext (id : Nat)
  | ret

/-- Operands. -/
inductive AO where
  | t (i : Nat)
  | c (v : AV)

/-- How two values are held against each other. -/
inductive EqD where
  | bool | int | str | ptr | slice | func | iface
  | agg (l : List (Option Nat × Nat × EqD))   -- the parts: how many cells, if it is a struct or an array; where; how

inductive AOp where
  | mov (x : AO)
  | pick (c a b : AO)
  | mkc (l : List AV)
  | box (x : AO)
  | build (z : List AV) (ps : List (Nat × Nat × AO))
  | buildSl (z : List AV) (len : Nat) (ps : List (Nat × Nat × AO))
  | load (k : Option Nat) (a : AO)
  | nilCheck (x : AO)
  | bin (op : BinOp) (x y : AO)
  | eq (s : Bool) (d : EqD) (cst : Bool) (x y : AO)
  | un (op : UnOp) (x : AO)
  | cvInt (k : IntKind) (x : AO)
  | cvRune (x : AO)
  | cvStr (x : AO)
  | cvBytes (x : AO)
  | cvText (x : AO)
  | iface (t : Nat) (x : AO)
  | func (f : Nat) (a c : List AO)
  | mkSl (z : List AV) (bytes : Nat) (l c : AO)
  | subS (x : AO) (lo hi : Option AO)
  | sub (k : Nat) (x : AO) (lo hi mx : Option AO)
  | subA (len k : Nat) (x : AO) (lo hi mx : Option AO)
  | fAddr (off : Nat) (x : AO)
  | fld (k : Option Nat) (off : Nat) (x : AO)
  | iAddr (k : Nat) (x i : AO)
  | iAddrA (len k : Nat) (x i : AO)
  | idxS (x i : AO)
  | idxA (len k : Nat) (g : Option Nat) (x i : AO)
  | rng (x : AO)
  | ext (x : AO) (i : Nat)
  | len (s : Bool) (x : AO)
  | minmax (mx : Bool) (l : List AO)
  -- those that write, or call
  | store (k : Nat) (a x : AO)
  | next (x : AO)
  | defer (f : AO) (l : List AO)
  | call (f : AO) (l : List AO)
  | append (k bytes : Nat) (x y : AO)
  | copy (k : Nat) (x y : AO)

structure AStep where
  dst : Option Nat
  g : Option (Nat × Bool)
  loud : Bool
  op : AOp

/-- A step of a region whose order is open: which of its operations it is; those that make a block and stand ahead of it in every order; those that write or call and may stand on either side of it. -/
structure DStep where
  i : Nat
  s : AStep
  mks : List Nat
  free : List Nat

inductive AC where
  | skip
  | reg (l : List AStep)
  | draw (n : Nat) (l : List DStep)
  | seq (a b : AC)
  | cond (x : AO) (a b : AC)
  | block (id : Nat) (a : AC)
  | loop (a : AC)
  | exit (id : Nat)
  | ret

inductive ARes where
  | tmp (t : Nat)
  | cell (a : Nat) (k : Option Nat)

structure AFn where
  nt : Nat
  np : Nat
  c : AC
  res : List ARes

-- ---------------------------------------------------------------- from the code
mutual
def ofVal : Value → Option AV
  | .bool b => some (.bool b)
  | .int k n => some (.int k n)
  | .string s => some (.str s.data.toList)
  | .pointer none => some .nilp
  | .slice none 0 0 => some .nils
  | .nilFunc => some .nilfn
  | .nilIface => some .nilif
  | .agg ⟨cs⟩ => match ofVals cs with | some l => some (.agg l) | none => none
  | .tuple ⟨cs⟩ => match ofVals cs with | some l => some (.tup l) | none => none
  | _ => none
def ofVals : List Value → Option (List AV)
  | [] => some []
  | v :: l => match ofVal v with
    | some x => match ofVals l with | some r => some (x :: r) | none => none
    | none => none
end
def cellsA : AV → List AV
  | .agg l => l
  | v => [v]

structure Tys where
  ty : T TypeInfo
  eqOk : List Nat
  gl : List Nat

section comp
variable (E : Tys) (nt : Nat)
noncomputable def und (t : Nat) : Option TypeDesc :=
  match E.ty.get t with
  | some i => match i.desc with
    | .named _ u => match E.ty.get u with | some j => some j.desc | none => none
    | d => some d
  | none => none
def isAggD : TypeDesc → Bool
  | .struct _ => true
  | .array _ _ => true
  | _ => false
noncomputable def sizeT (t : Nat) : Option Nat := match E.ty.get t with | some i => some i.size | none => none
/-- How many cells, if it is a struct or an array; none: one cell. -/
noncomputable def formT (t : Nat) : Option (Option Nat) := match und E t with
  | some d => match isAggD d with
    | true => match sizeT E t with | some k => some (some k) | none => none
    | false => some none
  | none => none
noncomputable def zeroT (t : Nat) : Option (List AV) :=
  match E.ty.get t with
  | some i => match i.zero with
    | some v => match ofVal v with
      | some z => cond ((cellsA z).length.beq i.size) (some (cellsA z)) none
      | none => none
    | none => none
  | none => none
def memN : List Nat → Nat → Bool
  | [], _ => false
  | x :: l, n => cond (x.beq n) true (memN l n)

def aoC : Operand → Option AO
  | .tmp t => cond (Nat.blt t nt) (some (.t t)) none
  | .const v => match ofVal v with | some x => some (.c x) | none => none
  | .global g => cond (memN E.gl g) (some (.c (.ptr g 0))) none
  | .func f => some (.c (.fn f [] []))
def aosC : List Operand → Option (List AO)
  | [] => some []
  | x :: l => match aoC E nt x with
    | some v => match aosC l with | some r => some (v :: r) | none => none
    | none => none
def aoptC : Option Operand → Option (Option AO)
  | none => some none
  | some x => match aoC E nt x with | some v => some (some v) | none => none
def partsC (place : Nat → Option (Nat × Nat)) : List (Nat × Operand) → Option (List (Nat × Nat × AO))
  | [] => some []
  | (i, x) :: l => match place i, aoC E nt x with
    | some (o, k), some v => match partsC place l with | some r => some ((o, k, v) :: r) | none => none
    | _, _ => none
noncomputable def placesC : List Field → Option (List (Nat × Nat))
  | [] => some []
  | f :: l => match sizeT E f.type with
    | some k => match placesC l with | some r => some ((f.offset, k) :: r) | none => none
    | none => none
mutual
noncomputable def eqC : Nat → Nat → Option EqD
  | 0, _ => none
  | d + 1, t => match und E t with
    | some .bool => some .bool
    | some (.int _) => some .int
    | some .string => some .str
    | some (.pointer _) => some .ptr
    | some (.slice _) => some .slice
    | some (.func ..) => some .func
    | some (.interface _) => some .iface
    | some (.struct fs) => cond (memN E.eqOk t) (match eqsC d fs.toList with | some l => some (.agg l) | none => none) none
    | _ => none
noncomputable def eqsC : Nat → List Field → Option (List (Option Nat × Nat × EqD))
  | 0, _ => none
  | _ + 1, [] => some []
  | d + 1, f :: fs => match formT E f.type, eqC d f.type, eqsC d fs with
    | some k, some q, some l => some ((k, f.offset, q) :: l)
    | _, _, _ => none
end
def isConst : Operand → Bool
  | .const _ => true
  | _ => false
def intOp : BinOp → Bool
  | .eql | .neq => false
  | _ => true
def isIntD : TypeDesc → Bool
  | .int _ => true
  | _ => false

noncomputable def opC (o : Oper) : Option AOp :=
  match o.op with
  | .move x | .assign x => match aoC E nt x with | some v => some (.mov v) | none => none
  | .pick c a b => match aoC E nt c, aoC E nt a, aoC E nt b with | some c, some a, some b => some (.pick c a b) | _, _, _ => none
  | .alloc t => match zeroT E t with | some z => some (.mkc z) | none => none
  | .box _ x => match aoC E nt x with | some v => some (.box v) | none => none
  | .build t ps => match zeroT E t, und E t with
    | some z, some (.struct fs) => match placesC E fs.toList with
      | some pl => match partsC E nt (fun i => pl[i]?) ps.toList with | some l => some (.build z l) | none => none
      | none => none
    | some z, some (.array _ e) => match sizeT E e with
      | some k => match partsC E nt (fun i => some (i * k, k)) ps.toList with | some l => some (.build z l) | none => none
      | none => none
    | _, _ => none
  | .buildSlice t len ps => match und E t with
    | some (.slice e) => match zeroT E e, sizeT E e with
      | some z, some k => cond (Nat.ble (len * k) 16777216) (match partsC E nt (fun i => some (i * k, k)) ps.toList with | some l => some (.buildSl z len l) | none => none) none
      | _, _ => none
    | _ => none
  | .load t a => match formT E t, aoC E nt a with | some k, some v => some (.load k v) | _, _ => none
  | .nilCheck x => match aoC E nt x with | some v => some (.nilCheck v) | none => none
  | .binOp op t x y _ => match aoC E nt x, aoC E nt y with
    | some a, some b => match und E t with
      | some (.int _) => some (.bin op a b)
      | some .string => some (.bin op a b)
      | some _ => match op with
        | .eql => match eqC E 100 t with | some d => some (.eq true d (isConst x || isConst y) a b) | none => none
        | .neq => match eqC E 100 t with | some d => some (.eq false d (isConst x || isConst y) a b) | none => none
        | _ => none
      | none => none
    | _, _ => none
  | .unOp op _ x => match aoC E nt x with | some v => some (.un op v) | none => none
  | .convert s d x => match aoC E nt x, und E s, und E d with
    | some v, some (.int _), some (.int k) => some (.cvInt k v)
    | some v, some (.int _), some .string => some (.cvRune v)
    | some v, some .string, some .string => some (.cvStr v)
    | some v, some .string, some (.slice e) => match und E e with
      | some (.int .u8) => some (.cvBytes v)
      | _ => none
    | some v, some (.slice e), some .string => match und E e with
      | some (.int .u8) => some (.cvText v)
      | _ => none
    | _, _, _ => none
  | .makeInterface t x => match und E t, aoC E nt x with
    | some (.interface _), _ => none
    | some _, some v => some (.iface t v)
    | _, _ => none
  | .makeFunc (.func f) a c => match aosC E nt a.toList, aosC E nt c.toList with
    | some x, some y => some (.func f x y)
    | _, _ => none
  | .makeSlice t l c => match und E t with
    | some (.slice e) => match zeroT E e, E.ty.get e, aoC E nt l, aoC E nt c with
      | some z, some i, some a, some b => some (.mkSl z i.bytes a b)
      | _, _, _, _ => none
    | _ => none
  | .slice t x lo hi mx => match aoC E nt x, aoptC E nt lo, aoptC E nt hi, aoptC E nt mx with
    | some v, some a, some b, some c => cond (c.isSome && !b.isSome) none (match und E t with
      | some .string => match c with | none => some (.subS v a b) | some _ => none
      | some (.slice e) => match sizeT E e with | some k => some (.sub k v a b c) | none => none
      | some (.array n e) => match sizeT E e with | some k => some (.subA n k v a b c) | none => none
      | _ => none)
    | _, _, _, _ => none
  | .fieldAddr s x f => match und E s, aoC E nt x with
    | some (.struct fs), some v => match fs[f]? with
      | some fd => match sizeT E fd.type with
        | some (_ + 1) => some (.fAddr fd.offset v)
        | _ => none
      | none => none
    | _, _ => none
  | .field s x f => match und E s, aoC E nt x with
    | some (.struct fs), some v => match fs[f]? with
      | some fd => match formT E fd.type with | some k => some (.fld k fd.offset v) | none => none
      | none => none
    | _, _ => none
  | .indexAddr t x i => match aoC E nt x, aoC E nt i with
    | some a, some b => match und E t with
      | some (.slice e) => match sizeT E e with | some k => some (.iAddr k a b) | none => none
      | some (.array n e) => match sizeT E e with | some k => some (.iAddrA n k a b) | none => none
      | _ => none
    | _, _ => none
  | .index t x i => match aoC E nt x, aoC E nt i with
    | some a, some b => match und E t with
      | some .string => some (.idxS a b)
      | some (.array n e) => match sizeT E e, formT E e with | some k, some g => some (.idxA n k g a b) | _, _ => none
      | _ => none
    | _, _ => none
  | .range t x => match und E t, aoC E nt x with
    | some .string, some v => some (.rng v)
    | _, _ => none
  | .extract x i => match aoC E nt x with | some v => some (.ext v i) | none => none
  | .store t a x => match sizeT E t, aoC E nt a, aoC E nt x with | some k, some a, some x => some (.store k a x) | _, _, _ => none
  | .next x true => match aoC E nt x with | some v => some (.next v) | none => none
  | .defer c => match c.callee with
    | .value f => match aoC E nt f, aosC E nt c.args.toList with | some f, some l => some (.defer f l) | _, _ => none
    | _ => none
  | .call c => match c.callee with
    | .value f => match aoC E nt f, aosC E nt c.args.toList with | some f, some l => some (.call f l) | _, _ => none
    | .builtin .len => match c.argTypes[0]?, aosC E nt c.args.toList with
      | some t, some [x] => match und E t with
        | some .string => some (.len true x)
        | some (.slice _) => some (.len false x)
        | some (.array n _) => some (.mov (.c (.int .i64 n)))
        | _ => none
      | _, _ => none
    | .builtin .max => match aosC E nt c.args.toList with | some l => some (.minmax true l) | none => none
    | .builtin .min => match aosC E nt c.args.toList with | some l => some (.minmax false l) | none => none
    | .builtin .append => match c.argTypes[0]?, c.argTypes[1]?, aosC E nt c.args.toList with
      | some t, some u, some [x, y] => match und E t, und E u with
        | some (.slice e), some d => match isIntD d, E.ty.get e, zeroT E e with
          | false, some i, some _ => some (.append i.size i.bytes x y)
          | _, _, _ => none
        | _, _ => none
      | _, _, _ => none
    | .builtin .copy => match c.argTypes[0]?, aosC E nt c.args.toList with
      | some t, some [x, y] => match und E t with
        | some (.slice e) => match sizeT E e with | some k => some (.copy k x y) | none => none
        | _ => none
      | _, _ => none
    | _ => none
  | _ => none

/-- Those that write, or call. -/
def loud : AOp → Bool
  | .store .. | .next _ | .defer .. | .call .. | .append .. | .copy .. => true
  | _ => false
def dstC : Option Nat → Bool
  | none => true
  | some d => Nat.blt d nt
noncomputable def stepC (ops : Array Oper) (o : Oper) : Option AStep :=
  match dstC nt o.dst with
  | true => match opC E nt o with
    | some p => match o.guard with
      | none => some ⟨o.dst, none, loud p, p⟩
      | some (j, want) => match ops[j]? with
        | some q => match q.dst with
          | some t => cond (Nat.blt t nt) (some ⟨o.dst, some (t, want), loud p, p⟩) none
          | none => none
        | none => none
    | none => none
  | false => none
noncomputable def stepsC (ops : Array Oper) : List Oper → Option (List AStep)
  | [] => some []
  | o :: l => match stepC E nt ops o with
    | some s => match stepsC ops l with | some r => some (s :: r) | none => none
    | none => none

/-- The quiet ones that make a block. -/
def makes : AOp → Bool
  | .mkc _ | .box _ | .buildSl .. | .mkSl .. | .cvBytes _ | .rng _ => true
  | _ => false
/-- The quiet ones that read. -/
def rds : AOp → Bool
  | .load .. | .cvText _ => true
  | _ => false
def hasB (b : Array Nat) (j i : Nat) : Bool := Nat.testBit (b.getD j 0) i
def otA : AO → List Nat
  | .t i => [i]
  | .c _ => []
def otsA (l : List AO) : List Nat := l.flatMap otA
def otO : Option AO → List Nat
  | some x => otA x
  | none => []
def otP (l : List (Nat × Nat × AO)) : List Nat := l.flatMap fun p => otA p.2.2
/-- The slots that an operation looks at. -/
def tmpsA : AOp → List Nat
  | .mov x | .box x | .load _ x | .nilCheck x | .un _ x | .cvInt _ x | .cvRune x | .cvStr x | .cvBytes x | .cvText x | .iface _ x | .fAddr _ x | .fld _ _ x | .rng x | .ext x _ | .len _ x | .next x => otA x
  | .pick c a b => otA c ++ otA a ++ otA b
  | .mkc _ => []
  | .build _ ps | .buildSl _ _ ps => otP ps
  | .bin _ x y | .eq _ _ _ x y | .mkSl _ _ x y | .iAddr _ x y | .iAddrA _ _ x y | .idxS x y | .idxA _ _ _ x y | .store _ x y | .append _ _ x y | .copy _ x y => otA x ++ otA y
  | .func _ a c => otsA a ++ otsA c
  | .subS x lo hi => otA x ++ otO lo ++ otO hi
  | .sub _ x lo hi mx | .subA _ _ x lo hi mx => otA x ++ otO lo ++ otO hi ++ otO mx
  | .minmax _ l => otsA l
  | .defer f l | .call f l => otA f ++ otsA l
def looksA (s : AStep) : List Nat := tmpsA s.op ++ (match s.g with | some (t, _) => [t] | none => [])
/-- May x and q, neither ahead of the other, change places? -/
def apartA (x q : AStep) : Bool :=
  (match x.dst with | some d => !memN (looksA q) d && (match q.dst with | some e => !d.beq e | none => true) | none => true) &&
  (match q.dst with | some e => !memN (looksA x) e | none => true) && !q.loud && !(makes q.op && x.loud)
def pairOk (b : Array Nat) (x q : DStep) : Bool := !hasB b x.i q.i && (hasB b q.i x.i || apartA x.s q.s)
def pairsOk (b : Array Nat) : List DStep → Bool
  | [] => true
  | x :: l => l.all (fun q => !x.i.beq q.i && pairOk b x q) && pairsOk b l
def loudAt (l : List AStep) (i : Nat) : Bool := match l[i]? with | some s => s.loud | none => false
def makesAt (l : List AStep) (i : Nat) : Bool := match l[i]? with | some s => makes s.op | none => false
def orderF (n : Nat) (b : Array Nat) : List Nat → List Nat → List Nat
  | [], done => done.reverse ++ (List.range n).filter fun i => !memN done i
  | j :: js, done => orderF n b js (j :: (((List.range n).filter fun i => hasB b j i && !memN done i).reverse ++ done))
def dstepsC (n : Nat) (b : Array Nat) (l : List AStep) : List Nat → Option (List DStep)
  | [] => some []
  | i :: r => match l[i]? with
    | some s => match dstepsC n b l r with
      | some q => some (⟨i, s, (List.range n).filter fun j => makesAt l j && hasB b i j, (List.range n).filter fun j => loudAt l j && !hasB b i j⟩ :: q)
      | none => none
    | none => none
/-- Every edge goes back. -/
def backOk : Nat → List Oper → Bool
  | _, [] => true
  | i, o :: l => o.after.all (fun e => !Region.binds .any e || Nat.blt e.on i) && backOk (i + 1) l
def coversOk (d : List DStep) : Nat → Bool
  | 0 => true
  | i + 1 => d.any (fun x => x.i.beq i) && coversOk d i
def drawC (ops : Array Oper) (l : List AStep) : Option AC :=
  let n := ops.size
  let b := Region.before ops
  match dstepsC n b l (orderF n b ((List.range n).filter (loudAt l)) []) with
  | some d => cond (d.length.beq n && pairsOk b d && d.all (fun x => Nat.blt x.i n) && backOk 0 ops.toList && coversOk d n) (some (.draw n d)) none
  | none => none
noncomputable def codeC : Code → Option AC
  | .skip => some .skip
  | .region _ ops draw => match stepsC E nt ops ops.toList with
    | some l => match draw with
      | false => some (.reg l)
      | true => drawC ops l
    | none => none
  | .seq a b => match codeC a, codeC b with | some x, some y => some (.seq x y) | _, _ => none
  | .cond x a b => match aoC E nt x, codeC a, codeC b with | some v, some x, some y => some (.cond v x y) | _, _, _ => none
  | .block id a => match codeC a with | some x => some (.block id x) | none => none
  | .loop a => match codeC a with | some x => some (.loop x) | none => none
  | .exit id => some (.exit id)
  | .label _ => some .skip
  | .ret => some .ret
  | _ => none
noncomputable def resC : List ResultVar → Option (List ARes)
  | [] => some []
  | .tmp t :: l => cond (Nat.blt t nt) (match resC l with | some r => some (.tmp t :: r) | none => none) none
  | .cell a t :: l => cond (Nat.blt a nt) (match formT E t, resC l with | some k, some r => some (.cell a k :: r) | _, _ => none) none
end comp
noncomputable def fnC (E : Tys) (fn : Func) : Option AFn :=
  match fn.body with
  | some c => match codeC E fn.ntmps c, resC E fn.ntmps fn.results.toList with
    | some x, some r => cond (fn.name == "runtime.NumGoroutine") none (some ⟨fn.ntmps, fn.params.size + fn.nfree, x, r⟩)
    | _, _ => none
  | none => none
end Go.Ab
