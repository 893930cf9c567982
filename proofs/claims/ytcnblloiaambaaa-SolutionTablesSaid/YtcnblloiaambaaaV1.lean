/- The logic V, part 1: abstract values, frames and heaps, and what the operations that touch no live memory compute. -/
import Derived.Control
import Derived.Calls
namespace Go.V

/-- Abstract values. A 'snap' is a slice whose cells are never written again; a 'live' slice and a 'ptr' lead into the abstract heap. -/
inductive D where
  | bool (b : Bool)
  | int (k : IntKind) (n : Int)
  | str (s : ByteArray)
  | pnil
  | ptr (b off : Nat)
  | sptr (cs : List D) (off : Nat)
  | snil
  | snap (cs : List D) (len : Nat) (tight : Bool)
  | live (b off len cap sz : Nat)
  | fn (f : FuncId) (cap : List D)
  | yield (b : Nat)
  | fnil
  | iface (t : TypeId) (d : D)
  | inil
  | agg (cs : List D)
  | tup (ds : List D)
  deriving Inhabited

def D.cells : D → List D
  | .agg cs => cs
  | d => [d]

def D.notTup : D → Bool
  | .tup _ => false
  | _ => true

/-- A value without live memory in it (as far as its outermost constructor tells): numbers, bools, strings. -/
def D.flat : D → Bool
  | .bool _ | .int _ _ | .str _ => true
  | _ => false

abbrev Fr := List (Nat × D)

def Fr.get : Fr → Nat → Option D
  | [], _ => none
  | (t, d) :: r, u => bif Nat.beq t u then some d else Fr.get r u

inductive Blk where
  | cells (cs : List D)
  | loop (r : Loop) (F : Fr)

abbrev Hp := List (Option Blk)

def Hp.setR : Hp → Nat → Option Blk → Option Hp
  | [], _, _ => none
  | _ :: r, 0, x => some (x :: r)
  | y :: r, n + 1, x => match Hp.setR r n x with
    | some r' => some (y :: r')
    | none => none

def Hp.pushR : Hp → Blk → Option Hp
  | [], x => some [some x]
  | y :: r, x => match Hp.pushR r x with
    | some r' => some (y :: r')
    | none => none

def ofScalar : Value → Option D
  | .bool b => some (.bool b)
  | .int k n => some (.int k n)
  | .string s => some (.str s)
  | .pointer none => some .pnil
  | .slice none 0 0 => some .snil
  | .nilFunc => some .fnil
  | .nilIface => some .inil
  | _ => none

def ofScalars : List Value → Option (List D)
  | [] => some []
  | v :: r => match ofScalar v, ofScalars r with
    | some d, some ds => some (d :: ds)
    | _, _ => none

def ofVal (v : Value) : Option D :=
  match v with
  | .agg cs => match ofScalars cs.toList with
    | some ds => some (.agg ds)
    | none => none
  | .tuple cs => match ofScalars cs.toList with
    | some ds => some (.tup ds)
    | none => none
  | v => ofScalar v

def Fr.eval (F : Fr) : Operand → Option D
  | .tmp t => F.get t
  | .const v => ofVal v
  | .func f => some (.fn f [])
  | .global _ => none

def evals (F : Fr) : List Operand → Option (List D)
  | [] => some []
  | x :: r => match F.eval x, evals F r with
    | some d, some ds => some (d :: ds)
    | _, _ => none

/-- 'n' cells from 'off' on: read out whole. -/
def takeR : List D → Nat → Nat → Option (List D)
  | _, 0, 0 => some []
  | [], 0, _ + 1 => none
  | c :: cs, 0, n + 1 => match takeR cs 0 n with
    | some r => some (c :: r)
    | none => none
  | [], _ + 1, _ => none
  | _ :: cs, o + 1, n => takeR cs o n

/-- 'xs' laid over the cells from 'off' on. -/
def overR : List D → Nat → List D → Option (List D)
  | cs, 0, [] => some cs
  | [], 0, _ :: _ => none
  | _ :: cs, 0, x :: xs => match overR cs 0 xs with
    | some r => some (x :: r)
    | none => none
  | [], _ + 1, _ => none
  | c :: cs, o + 1, xs => match overR cs o xs with
    | some r => some (c :: r)
    | none => none

def isAggB : TypeDesc → Bool
  | .struct _ | .array _ _ => true
  | _ => false

def tySize (P : Program) (t : TypeId) : Option Nat := match P.info? t with
  | some i => some i.size
  | none => none

def zeroD (P : Program) (t : TypeId) : Option D := match P.info? t with
  | some i => match i.zero with
    | some v => ofVal v
    | none => none
  | none => none

/-- the 'len' and the cells of a slice that is read (a source of append, copy): no live one. -/
def seqOf : D → Option (Nat × List D)
  | .snil => some (0, [])
  | .snap cs n _ => some (n, cs)
  | _ => none

def intBinD (op : BinOp) (k : IntKind) (a b : Int) : Option (Prop × D) :=
  match op with
  | .add => some (True, .int k (k.wrap (a + b)))
  | .sub => some (True, .int k (k.wrap (a - b)))
  | .mul => some (True, .int k (k.wrap (a * b)))
  | .quo => some (b ≠ 0, .int k (k.wrap (a.tdiv b)))
  | .rem => some (b ≠ 0, .int k (a.tmod b))
  | .and => some (True, .int k (k.wrap ((BitVec.ofInt k.bits a &&& BitVec.ofInt k.bits b).toNat)))
  | .or => some (True, .int k (k.wrap ((BitVec.ofInt k.bits a ||| BitVec.ofInt k.bits b).toNat)))
  | .xor => some (True, .int k (k.wrap ((BitVec.ofInt k.bits a ^^^ BitVec.ofInt k.bits b).toNat)))
  | .shl => some (0 ≤ b, .int k (k.wrap (a * 2 ^ (min b.toNat k.bits))))
  | .shr => some (0 ≤ b, .int k (a.fdiv (2 ^ (min b.toNat k.bits))))
  | .lss => some (True, .bool (decide (a < b)))
  | .leq => some (True, .bool (decide (a ≤ b)))
  | .gtr => some (True, .bool (decide (a > b)))
  | .geq => some (True, .bool (decide (a ≥ b)))
  | .eql => some (True, .bool (decide (a = b)))
  | .neq => some (True, .bool (!decide (a = b)))
  | _ => none

/-- Two lists of whole numbers, of one kind place by place: are they the same? -/
def eqInts : List D → List D → Option Bool
  | [], [] => some true
  | .int k a :: r, .int k' b :: r' => bif decide (k = k') then match eqInts r r' with
      | some p => some (decide (a = b) && p)
      | none => none
    else none
  | _, _ => none

def isSh (op : BinOp) : Bool := match op with | .shl | .shr => true | _ => false

def binD (P : Program) (op : BinOp) (t : TypeId) (x y : D) : Option (Prop × D) :=
  match x, y with
  | .int k a, .int k' b => bif decide (k = k') || isSh op then intBinD op k a b else none
  | .bool a, .bool b => match op, P.underlying t with
    | .eql, some .bool => some (True, .bool (a == b))
    | .neq, some .bool => some (True, .bool (!(a == b)))
    | _, _ => none
  | .str a, .str b => match op with
    | .eql => some (True, .bool (decide (a = b)))
    | .neq => some (True, .bool (!decide (a = b)))
    | .add => some (((a.size + b.size : Nat) : Int) ≤ 9223372036854775807, .str (a ++ b))
    | _ => none
  | .snil, .snil => match op, P.underlying t with
    | .eql, some (.slice _) => some (True, .bool true)
    | .neq, some (.slice _) => some (True, .bool false)
    | _, _ => none
  | .pnil, .pnil => match op, P.underlying t with
    | .eql, some (.pointer _) => some (True, .bool true)
    | .neq, some (.pointer _) => some (True, .bool false)
    | _, _ => none
  | .snap _ n _, .snil => match op, P.underlying t with
    | .eql, some (.slice _) => some (0 < n, .bool false)
    | .neq, some (.slice _) => some (0 < n, .bool true)
    | _, _ => none
  | .live _ _ _ _ _, .snil => match op, P.underlying t with
    | .eql, some (.slice _) => some (True, .bool false)
    | .neq, some (.slice _) => some (True, .bool true)
    | _, _ => none
  | .ptr _ _, .pnil | .sptr _ _, .pnil => match op, P.underlying t with
    | .eql, some (.pointer _) => some (True, .bool false)
    | .neq, some (.pointer _) => some (True, .bool true)
    | _, _ => none
  | .iface _ _, .inil => match op, P.underlying t with
    | .eql, some (.interface _) => some (True, .bool false)
    | .neq, some (.interface _) => some (True, .bool true)
    | _, _ => none
  | _, _ => none

/-- the type of a slice's element, its size in cells and in bytes -/
def elemOfSlice (P : Program) (t : TypeId) : Option (TypeId × Nat × Nat) :=
  match P.underlying t with
  | some (.slice e) => match P.info? e with
    | some i => some (e, i.size, i.bytes)
    | none => none
  | _ => none

def fillR (place : Nat → Option (Nat × Nat)) : List D → List (Nat × Option D) → Option (List D)
  | cs, [] => some cs
  | cs, (i, some d) :: r => match place i with
    | some (off, size) => bif Nat.beq d.cells.length size && d.notTup then match overR cs off d.cells with
        | some cs' => fillR place cs' r
        | none => none
      else none
    | none => none
  | _, (_, none) :: _ => none

def repR : Nat → List D → List D
  | 0, _ => []
  | n + 1, z => z ++ repR n z

def lenD : D → Int
  | .snap _ n _ => n
  | .live _ _ n _ _ => n
  | _ => 0

def bound (F : Fr) (x : Option Operand) (dflt : Int) : Option Int := match x with
  | none => some dflt
  | some y => match F.eval y with
    | some (.int _ n) => some n
    | _ => none

def sliceD2 (s : Nat) (d : D) (l h : Int) : Option (Prop × D) := match d with
  | .snap cs len tight => some (0 ≤ l ∧ l ≤ h ∧ h ≤ len, .snap ((cs.drop (l.toNat * s)).take ((h.toNat - l.toNat) * s)) (h.toNat - l.toNat) (tight && decide (h.toNat = len)))
  | .live b off _ c z => bif Nat.beq z s then some (0 ≤ l ∧ l ≤ h ∧ h ≤ c, .live b (off + l.toNat * s) (h.toNat - l.toNat) (c - l.toNat) z) else none
  | .snil => some (l = 0 ∧ h = 0, .snil)
  | _ => none

def sliceD3 (s : Nat) (d : D) (l h m : Int) : Option (Prop × D) := match d with
  | .snap cs len _ => some (0 ≤ l ∧ l ≤ h ∧ h ≤ m ∧ m ≤ len, .snap ((cs.drop (l.toNat * s)).take ((h.toNat - l.toNat) * s)) (h.toNat - l.toNat) (decide (h = m)))
  | .live b off _ c z => bif Nat.beq z s then some (0 ≤ l ∧ l ≤ h ∧ h ≤ m ∧ m ≤ c, .live b (off + l.toNat * s) (h.toNat - l.toNat) (m.toNat - l.toNat) z) else none
  | .snil => some (l = 0 ∧ h = 0 ∧ m = 0, .snil)
  | _ => none

def isC : Operand → Bool
  | .const _ => true
  | _ => false

/-- What an operation that neither reads nor writes live memory computes: a condition, and the value. -/
def vop (P : Program) (F : Fr) (o : Op) : Option (Prop × D) :=
  match o with
  | .move x | .assign x => match F.eval x with
    | some d => some (True, d)
    | none => none
  | .pick c a b => match F.eval c with
    | some (.bool true) => match F.eval a with
      | some d => some (True, d)
      | none => none
    | some (.bool false) => match F.eval b with
      | some d => some (True, d)
      | none => none
    | _ => none
  | .binOp op t x y _ => match F.eval x, F.eval y with
    | some (.agg cs), some (.agg cs') => match P.underlying t with
      | some (.array n e) => match P.underlying e, tySize P e with
        | some (.int _), some 1 => bif Nat.beq cs.length n && Nat.beq cs'.length n then match eqInts cs cs' with
            | some b => match op with
              | .eql => some (True, .bool b)
              | .neq => some (True, .bool (!b))
              | _ => none
            | none => none
          else none
        | _, _ => none
      | _ => none
    | some .inil, some .inil => bif isC x || isC y then match op, P.underlying t with
        | .eql, some (.interface _) => some (True, .bool true)
        | .neq, some (.interface _) => some (True, .bool false)
        | _, _ => none
      else none
    | some a, some b => binD P op t a b
    | _, _ => none
  | .unOp op _ x => match op, F.eval x with
    | .not, some (.bool b) => some (True, .bool (!b))
    | .neg, some (.int k n) => some (True, .int k (k.wrap (0 - n)))
    | _, _ => none
  | .convert src dst x => match P.underlying src, P.underlying dst, F.eval x with
    | some _, some (.int k), some (.int _ n) => some (True, .int k (k.wrap n))
    | some _, some .string, some (.str s) => some (True, .str s)
    | _, _, _ => none
  | .build t parts => match P.underlying t, zeroD P t with
    | some (.struct fs), some z => bif fs.toList.all (fun f => (tySize P f.type).isSome) then match (bif z.notTup then fillR (fun i => match fs.toList[i]? with
        | some f => match tySize P f.type with
          | some s => some (f.offset, s)
          | none => none
        | none => none) z.cells (parts.toList.map fun (i, x) => (i, F.eval x)) else none) with
      | some cs => some (True, .agg cs)
      | none => none
      else none
    | some (.array _ e), some z => match tySize P e with
      | some s => match (bif z.notTup then fillR (fun i => some (i * s, s)) z.cells (parts.toList.map fun (i, x) => (i, F.eval x)) else none) with
        | some cs => some (True, .agg cs)
        | none => none
      | none => none
    | _, _ => none
  | .buildSlice t n parts => match elemOfSlice P t with
    | some (e, s, _) => bif Nat.ble (n * s) 16777216 && Nat.ble 1 s then match zeroD P e with
        | some z => bif Nat.beq z.cells.length s && z.notTup then match fillR (fun i => some (i * s, s)) (repR n z.cells) (parts.toList.map fun (i, x) => (i, F.eval x)) with
            | some cs => some (True, .snap cs n true)
            | none => none
          else none
        | none => none
      else none
    | none => none
  | .load t x => match F.eval x, P.underlying t, tySize P t with
    | some (.sptr cs off), some u, some s => bif isAggB u then match takeR cs off s with
        | some r => some (True, .agg r)
        | none => none
      else match cs[off]? with
        | some d => some (True, d)
        | none => none
    | _, _, _ => none
  | .nilCheck x => match F.eval x with
    | some (.ptr b off) => some (True, .ptr b off)
    | some (.sptr cs off) => some (True, .sptr cs off)
    | _ => none
  | .makeInterface t x => match P.underlying t, F.eval x with
    | some (.interface _), _ => none
    | some _, some d => some (True, .iface t d)
    | _, _ => none
  | .makeFunc (.func f) first captured => match first.toList, evals F captured.toList with
    | [], some ds => some (True, .fn f ds)
    | _, _ => none
  | .fieldAddr s x i => match P.underlying s, F.eval x with
    | some (.struct fs), some d => match fs.toList[i]? with
      | some f => match tySize P f.type with
        | some (_ + 1) => match d with
          | .ptr b off => some (True, .ptr b (off + f.offset))
          | .sptr cs off => some (True, .sptr cs (off + f.offset))
          | _ => none
        | _ => none
      | none => none
    | _, _ => none
  | .field s x i => match P.underlying s, F.eval x with
    | some (.struct fs), some (.agg cs) => match fs.toList[i]? with
      | some f => match P.underlying f.type, tySize P f.type with
        | some u, some n => bif isAggB u then match takeR cs f.offset n with
            | some r => some (True, .agg r)
            | none => none
          else match cs[f.offset]? with
            | some d => some (True, d)
            | none => none
        | _, _ => none
      | none => none
    | _, _ => none
  | .indexAddr t x i => match P.underlying t, F.eval x, F.eval i with
    | some (.slice e), some d, some (.int _ n) => match tySize P e with
      | some s => match d with
        | .snap cs len _ => some (0 ≤ n ∧ n < len, .sptr cs (n.toNat * s))
        | .live b off len _ _ => some (0 ≤ n ∧ n < len, .ptr b (off + n.toNat * s))
        | _ => none
      | none => none
    | some (.array len e), some d, some (.int _ n) => match tySize P e with
      | some s => match d with
        | .sptr cs off => some (0 ≤ n ∧ n < len, .sptr cs (off + n.toNat * s))
        | .ptr b off => some (0 ≤ n ∧ n < len, .ptr b (off + n.toNat * s))
        | _ => none
      | none => none
    | _, _, _ => none
  | .index t x i => match P.underlying t, F.eval x, F.eval i with
    | some (.array len e), some (.agg cs), some (.int _ n) => match P.underlying e, tySize P e with
      | some u, some s => bif isAggB u || !Nat.beq s 1 then none else some ((0 ≤ n ∧ n < len) ∧ n.toNat < cs.length, cs.getD n.toNat .inil)
      | _, _ => none
    | some .string, some (.str s), some (.int _ n) => some (0 ≤ n ∧ n < s.size, .int .u8 ((s.data.toList.getD n.toNat 0).toNat : Int))
    | _, _, _ => none
  | .extract x i => match F.eval x with
    | some (.tup ds) => match ds[i]? with
      | some d => some (True, d)
      | none => none
    | _ => none
  | .typeAssert x _ asserted ok => match P.underlying asserted, F.eval x with
    | some (.interface _), _ => none
    | some _, some (.iface t d) => bif Nat.beq t asserted then (bif ok then some (True, .tup [d, .bool true]) else some (True, d))
      else bif ok then match zeroD P asserted with
        | some z => some (True, .tup [z, .bool false])
        | none => none
      else none
    | some _, some .inil => bif ok then match zeroD P asserted with
        | some z => some (True, .tup [z, .bool false])
        | none => none
      else none
    | _, _ => none
  | .slice t x lo hi mx => match P.underlying t, F.eval x with
    | some (.slice e), some d => match tySize P e, bound F lo 0, bound F hi (lenD d) with
      | some s, some l, some h => match mx with
        | none => sliceD2 s d l h
        | some y => match hi, F.eval y with
          | some _, some (.int _ m) => sliceD3 s d l h m
          | _, _ => none
      | _, _, _ => none
    | some (.array n e), some (.sptr cs off) => match tySize P e, lo, hi, mx with
      | some s, none, none, none => some (off + n * s ≤ cs.length, .snap ((cs.drop off).take (n * s)) n true)
      | _, _, _, _ => none
    | _, _ => none
  | .call { callee := .builtin b, args, argTypes } => match b with
    | .len => match argTypes.toList, args.toList with
      | [t], [x] => match P.underlying t, F.eval x with
        | some (.slice _), some (.snap _ n _) => some (True, .int .i64 n)
        | some (.slice _), some (.live _ _ n _ _) => some (True, .int .i64 n)
        | some (.slice _), some .snil => some (True, .int .i64 0)
        | some .string, some (.str s) => some (True, .int .i64 s.size)
        | some (.array n _), some _ => some (True, .int .i64 n)
        | _, _ => none
      | _, _ => none
    | .cap => match argTypes.toList, args.toList with
      | [t], [x] => match P.underlying t, F.eval x with
        | some (.slice _), some .snil => some (True, .int .i64 0)
        | some (.slice _), some (.snap _ n true) => some (True, .int .i64 n)
        | _, _ => none
      | _, _ => none
    | .max => match args.toList with
      | [x, y] => match F.eval x, F.eval y with
        | some (.int k a), some (.int k' b) => bif decide (k = k') then some (True, .int k (if b > a then b else a)) else none
        | _, _ => none
      | _ => none
    | .min => match args.toList with
      | [x, y] => match F.eval x, F.eval y with
        | some (.int k a), some (.int k' b) => bif decide (k = k') then some (True, .int k (if b < a then b else a)) else none
        | _, _ => none
      | _ => none
    | .append => match argTypes.toList, args.toList with
      | [t, t'], [x, y] => bif Nat.beq t t' then match elemOfSlice P t, F.eval x, F.eval y with
          | some (_, _, _), some .snil, some .snil => some (True, .snil)
          | _, _, _ => none
        else none
      | _, _ => none
    | _ => none
  | _ => none

end Go.V
