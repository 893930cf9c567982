import Derived.Control
import Derived.Calls
import Derived.Laws.AppendOwn
import Derived.Laws.MakeOwn
import Derived.Laws.Slices
import Derived.Laws.StructEq
import Derived.Laws.Cover3
set_option linter.unusedVariables false
set_option linter.unusedSimpArgs false
set_option linter.unnecessarySimpa false
/- The logic V, part 1: abstract values, frames and heaps, and what the operations that touch no live memory compute. -/
namespace Go.V

/-- Abstract values. A 'snap' is a slice whose cells are never written again; a 'live' slice and a 'ptr' lead into the abstract heap. -/
inductive D where
  | bool (b : Bool)
  | int (k : IntKind) (n : Int)
  | str (s : ByteArray)
  | pnil
  | ptr (b off : Nat)
  | sptr (cs : List D) (off : Nat)
  | snil
  | snap (cs : List D) (len : Nat) (tight : Bool)
  | live (b off len cap sz : Nat)
  | fn (f : FuncId) (cap : List D)
  | yield (b : Nat)
  | fnil
  | iface (t : TypeId) (d : D)
  | inil
  | agg (cs : List D)
  | tup (ds : List D)
  deriving Inhabited

def D.cells : D → List D
  | .agg cs => cs
  | d => [d]

def D.notTup : D → Bool
  | .tup _ => false
  | _ => true

/-- A value without live memory in it (as far as its outermost constructor tells): numbers, bools, strings. -/
def D.flat : D → Bool
  | .bool _ | .int _ _ | .str _ => true
  | _ => false

abbrev Fr := List (Nat × D)

def Fr.get : Fr → Nat → Option D
  | [], _ => none
  | (t, d) :: r, u => bif Nat.beq t u then some d else Fr.get r u

inductive Blk where
  | cells (cs : List D)
  | loop (r : Loop) (F : Fr)

abbrev Hp := List (Option Blk)

def Hp.setR : Hp → Nat → Option Blk → Option Hp
  | [], _, _ => none
  | _ :: r, 0, x => some (x :: r)
  | y :: r, n + 1, x => match Hp.setR r n x with
    | some r' => some (y :: r')
    | none => none

def Hp.pushR : Hp → Blk → Option Hp
  | [], x => some [some x]
  | y :: r, x => match Hp.pushR r x with
    | some r' => some (y :: r')
    | none => none

def ofScalar : Value → Option D
  | .bool b => some (.bool b)
  | .int k n => some (.int k n)
  | .string s => some (.str s)
  | .pointer none => some .pnil
  | .slice none 0 0 => some .snil
  | .nilFunc => some .fnil
  | .nilIface => some .inil
  | _ => none

def ofScalars : List Value → Option (List D)
  | [] => some []
  | v :: r => match ofScalar v, ofScalars r with
    | some d, some ds => some (d :: ds)
    | _, _ => none

def ofVal (v : Value) : Option D :=
  match v with
  | .agg cs => match ofScalars cs.toList with
    | some ds => some (.agg ds)
    | none => none
  | .tuple cs => match ofScalars cs.toList with
    | some ds => some (.tup ds)
    | none => none
  | v => ofScalar v

def Fr.eval (F : Fr) : Operand → Option D
  | .tmp t => F.get t
  | .const v => ofVal v
  | .func f => some (.fn f [])
  | .global _ => none

def evals (F : Fr) : List Operand → Option (List D)
  | [] => some []
  | x :: r => match F.eval x, evals F r with
    | some d, some ds => some (d :: ds)
    | _, _ => none

/-- 'n' cells from 'off' on: read out whole. -/
def takeR : List D → Nat → Nat → Option (List D)
  | _, 0, 0 => some []
  | [], 0, _ + 1 => none
  | c :: cs, 0, n + 1 => match takeR cs 0 n with
    | some r => some (c :: r)
    | none => none
  | [], _ + 1, _ => none
  | _ :: cs, o + 1, n => takeR cs o n

/-- 'xs' laid over the cells from 'off' on. -/
def overR : List D → Nat → List D → Option (List D)
  | cs, 0, [] => some cs
  | [], 0, _ :: _ => none
  | _ :: cs, 0, x :: xs => match overR cs 0 xs with
    | some r => some (x :: r)
    | none => none
  | [], _ + 1, _ => none
  | c :: cs, o + 1, xs => match overR cs o xs with
    | some r => some (c :: r)
    | none => none

def isAggB : TypeDesc → Bool
  | .struct _ | .array _ _ => true
  | _ => false

def tySize (P : Program) (t : TypeId) : Option Nat := match P.info? t with
  | some i => some i.size
  | none => none

def zeroD (P : Program) (t : TypeId) : Option D := match P.info? t with
  | some i => match i.zero with
    | some v => ofVal v
    | none => none
  | none => none

/-- the 'len' and the cells of a slice that is read (a source of append, copy): no live one. -/
def seqOf : D → Option (Nat × List D)
  | .snil => some (0, [])
  | .snap cs n _ => some (n, cs)
  | _ => none

def intBinD (op : BinOp) (k : IntKind) (a b : Int) : Option (Prop × D) :=
  match op with
  | .add => some (True, .int k (k.wrap (a + b)))
  | .sub => some (True, .int k (k.wrap (a - b)))
  | .mul => some (True, .int k (k.wrap (a * b)))
  | .quo => some (b ≠ 0, .int k (k.wrap (a.tdiv b)))
  | .rem => some (b ≠ 0, .int k (a.tmod b))
  | .and => some (True, .int k (k.wrap ((BitVec.ofInt k.bits a &&& BitVec.ofInt k.bits b).toNat)))
  | .or => some (True, .int k (k.wrap ((BitVec.ofInt k.bits a ||| BitVec.ofInt k.bits b).toNat)))
  | .xor => some (True, .int k (k.wrap ((BitVec.ofInt k.bits a ^^^ BitVec.ofInt k.bits b).toNat)))
  | .shl => some (0 ≤ b, .int k (k.wrap (a * 2 ^ (min b.toNat k.bits))))
  | .shr => some (0 ≤ b, .int k (a.fdiv (2 ^ (min b.toNat k.bits))))
  | .lss => some (True, .bool (decide (a < b)))
  | .leq => some (True, .bool (decide (a ≤ b)))
  | .gtr => some (True, .bool (decide (a > b)))
  | .geq => some (True, .bool (decide (a ≥ b)))
  | .eql => some (True, .bool (decide (a = b)))
  | .neq => some (True, .bool (!decide (a = b)))
  | _ => none

/-- Two lists of whole numbers, of one kind place by place: are they the same? -/
def eqInts : List D → List D → Option Bool
  | [], [] => some true
  | .int k a :: r, .int k' b :: r' => bif decide (k = k') then match eqInts r r' with
      | some p => some (decide (a = b) && p)
      | none => none
    else none
  | _, _ => none

def isSh (op : BinOp) : Bool := match op with | .shl | .shr => true | _ => false

def binD (P : Program) (op : BinOp) (t : TypeId) (x y : D) : Option (Prop × D) :=
  match x, y with
  | .int k a, .int k' b => bif decide (k = k') || isSh op then intBinD op k a b else none
  | .bool a, .bool b => match op, P.underlying t with
    | .eql, some .bool => some (True, .bool (a == b))
    | .neq, some .bool => some (True, .bool (!(a == b)))
    | _, _ => none
  | .str a, .str b => match op with
    | .eql => some (True, .bool (decide (a = b)))
    | .neq => some (True, .bool (!decide (a = b)))
    | .add => some (((a.size + b.size : Nat) : Int) ≤ 9223372036854775807, .str (a ++ b))
    | _ => none
  | .snil, .snil => match op, P.underlying t with
    | .eql, some (.slice _) => some (True, .bool true)
    | .neq, some (.slice _) => some (True, .bool false)
    | _, _ => none
  | .pnil, .pnil => match op, P.underlying t with
    | .eql, some (.pointer _) => some (True, .bool true)
    | .neq, some (.pointer _) => some (True, .bool false)
    | _, _ => none
  | .snap _ n _, .snil => match op, P.underlying t with
    | .eql, some (.slice _) => some (0 < n, .bool false)
    | .neq, some (.slice _) => some (0 < n, .bool true)
    | _, _ => none
  | .live _ _ _ _ _, .snil => match op, P.underlying t with
    | .eql, some (.slice _) => some (True, .bool false)
    | .neq, some (.slice _) => some (True, .bool true)
    | _, _ => none
  | .ptr _ _, .pnil | .sptr _ _, .pnil => match op, P.underlying t with
    | .eql, some (.pointer _) => some (True, .bool false)
    | .neq, some (.pointer _) => some (True, .bool true)
    | _, _ => none
  | .iface _ _, .inil => match op, P.underlying t with
    | .eql, some (.interface _) => some (True, .bool false)
    | .neq, some (.interface _) => some (True, .bool true)
    | _, _ => none
  | _, _ => none

/-- the type of a slice's element, its size in cells and in bytes -/
def elemOfSlice (P : Program) (t : TypeId) : Option (TypeId × Nat × Nat) :=
  match P.underlying t with
  | some (.slice e) => match P.info? e with
    | some i => some (e, i.size, i.bytes)
    | none => none
  | _ => none

def fillR (place : Nat → Option (Nat × Nat)) : List D → List (Nat × Option D) → Option (List D)
  | cs, [] => some cs
  | cs, (i, some d) :: r => match place i with
    | some (off, size) => bif Nat.beq d.cells.length size && d.notTup then match overR cs off d.cells with
        | some cs' => fillR place cs' r
        | none => none
      else none
    | none => none
  | _, (_, none) :: _ => none

def repR : Nat → List D → List D
  | 0, _ => []
  | n + 1, z => z ++ repR n z

def lenD : D → Int
  | .snap _ n _ => n
  | .live _ _ n _ _ => n
  | _ => 0

def bound (F : Fr) (x : Option Operand) (dflt : Int) : Option Int := match x with
  | none => some dflt
  | some y => match F.eval y with
    | some (.int _ n) => some n
    | _ => none

def sliceD2 (s : Nat) (d : D) (l h : Int) : Option (Prop × D) := match d with
  | .snap cs len tight => some (0 ≤ l ∧ l ≤ h ∧ h ≤ len, .snap ((cs.drop (l.toNat * s)).take ((h.toNat - l.toNat) * s)) (h.toNat - l.toNat) (tight && decide (h.toNat = len)))
  | .live b off _ c z => bif Nat.beq z s then some (0 ≤ l ∧ l ≤ h ∧ h ≤ c, .live b (off + l.toNat * s) (h.toNat - l.toNat) (c - l.toNat) z) else none
  | .snil => some (l = 0 ∧ h = 0, .snil)
  | _ => none

def sliceD3 (s : Nat) (d : D) (l h m : Int) : Option (Prop × D) := match d with
  | .snap cs len _ => some (0 ≤ l ∧ l ≤ h ∧ h ≤ m ∧ m ≤ len, .snap ((cs.drop (l.toNat * s)).take ((h.toNat - l.toNat) * s)) (h.toNat - l.toNat) (decide (h = m)))
  | .live b off _ c z => bif Nat.beq z s then some (0 ≤ l ∧ l ≤ h ∧ h ≤ m ∧ m ≤ c, .live b (off + l.toNat * s) (h.toNat - l.toNat) (m.toNat - l.toNat) z) else none
  | .snil => some (l = 0 ∧ h = 0 ∧ m = 0, .snil)
  | _ => none

def isC : Operand → Bool
  | .const _ => true
  | _ => false

/-- What an operation that neither reads nor writes live memory computes: a condition, and the value. -/
def vop (P : Program) (F : Fr) (o : Op) : Option (Prop × D) :=
  match o with
  | .move x | .assign x => match F.eval x with
    | some d => some (True, d)
    | none => none
  | .pick c a b => match F.eval c with
    | some (.bool true) => match F.eval a with
      | some d => some (True, d)
      | none => none
    | some (.bool false) => match F.eval b with
      | some d => some (True, d)
      | none => none
    | _ => none
  | .binOp op t x y _ => match F.eval x, F.eval y with
    | some (.agg cs), some (.agg cs') => match P.underlying t with
      | some (.array n e) => match P.underlying e, tySize P e with
        | some (.int _), some 1 => bif Nat.beq cs.length n && Nat.beq cs'.length n then match eqInts cs cs' with
            | some b => match op with
              | .eql => some (True, .bool b)
              | .neq => some (True, .bool (!b))
              | _ => none
            | none => none
          else none
        | _, _ => none
      | _ => none
    | some .inil, some .inil => bif isC x || isC y then match op, P.underlying t with
        | .eql, some (.interface _) => some (True, .bool true)
        | .neq, some (.interface _) => some (True, .bool false)
        | _, _ => none
      else none
    | some a, some b => binD P op t a b
    | _, _ => none
  | .unOp op _ x => match op, F.eval x with
    | .not, some (.bool b) => some (True, .bool (!b))
    | .neg, some (.int k n) => some (True, .int k (k.wrap (0 - n)))
    | .xor, some (.int k n) => some (True, .int k (k.wrap ((BitVec.ofInt k.bits (if k.signed then -1 else k.max) ^^^ BitVec.ofInt k.bits n).toNat)))
    | _, _ => none
  | .convert src dst x => match P.underlying src, P.underlying dst, F.eval x with
    | some _, some (.int k), some (.int _ n) => some (True, .int k (k.wrap n))
    | some _, some .string, some (.str s) => some (True, .str s)
    | _, _, _ => none
  | .build t parts => match P.underlying t, zeroD P t with
    | some (.struct fs), some z => bif fs.toList.all (fun f => (tySize P f.type).isSome) then match (bif z.notTup then fillR (fun i => match fs.toList[i]? with
        | some f => match tySize P f.type with
          | some s => some (f.offset, s)
          | none => none
        | none => none) z.cells (parts.toList.map fun (i, x) => (i, F.eval x)) else none) with
      | some cs => some (True, .agg cs)
      | none => none
      else none
    | some (.array _ e), some z => match tySize P e with
      | some s => match (bif z.notTup then fillR (fun i => some (i * s, s)) z.cells (parts.toList.map fun (i, x) => (i, F.eval x)) else none) with
        | some cs => some (True, .agg cs)
        | none => none
      | none => none
    | _, _ => none
  | .buildSlice t n parts => match elemOfSlice P t with
    | some (e, s, _) => bif Nat.ble (n * s) 16777216 && Nat.ble 1 s then match zeroD P e with
        | some z => bif Nat.beq z.cells.length s && z.notTup then match fillR (fun i => some (i * s, s)) (repR n z.cells) (parts.toList.map fun (i, x) => (i, F.eval x)) with
            | some cs => some (True, .snap cs n true)
            | none => none
          else none
        | none => none
      else none
    | none => none
  | .load t x => match F.eval x, P.underlying t, tySize P t with
    | some (.sptr cs off), some u, some s => bif isAggB u then match takeR cs off s with
        | some r => some (True, .agg r)
        | none => none
      else match cs[off]? with
        | some d => some (True, d)
        | none => none
    | _, _, _ => none
  | .nilCheck x => match F.eval x with
    | some (.ptr b off) => some (True, .ptr b off)
    | some (.sptr cs off) => some (True, .sptr cs off)
    | _ => none
  | .makeInterface t x => match P.underlying t, F.eval x with
    | some (.interface _), _ => none
    | some _, some d => some (True, .iface t d)
    | _, _ => none
  | .makeFunc (.func f) first captured => match first.toList, evals F captured.toList with
    | [], some ds => some (True, .fn f ds)
    | _, _ => none
  | .fieldAddr s x i => match P.underlying s, F.eval x with
    | some (.struct fs), some d => match fs.toList[i]? with
      | some f => match tySize P f.type with
        | some (_ + 1) => match d with
          | .ptr b off => some (True, .ptr b (off + f.offset))
          | .sptr cs off => some (True, .sptr cs (off + f.offset))
          | _ => none
        | _ => none
      | none => none
    | _, _ => none
  | .field s x i => match P.underlying s, F.eval x with
    | some (.struct fs), some (.agg cs) => match fs.toList[i]? with
      | some f => match P.underlying f.type, tySize P f.type with
        | some u, some n => bif isAggB u then match takeR cs f.offset n with
            | some r => some (True, .agg r)
            | none => none
          else match cs[f.offset]? with
            | some d => some (True, d)
            | none => none
        | _, _ => none
      | none => none
    | _, _ => none
  | .indexAddr t x i => match P.underlying t, F.eval x, F.eval i with
    | some (.slice e), some d, some (.int _ n) => match tySize P e with
      | some s => match d with
        | .snap cs len _ => some (0 ≤ n ∧ n < len, .sptr cs (n.toNat * s))
        | .live b off len _ _ => some (0 ≤ n ∧ n < len, .ptr b (off + n.toNat * s))
        | _ => none
      | none => none
    | some (.array len e), some d, some (.int _ n) => match tySize P e with
      | some s => match d with
        | .sptr cs off => some (0 ≤ n ∧ n < len, .sptr cs (off + n.toNat * s))
        | .ptr b off => some (0 ≤ n ∧ n < len, .ptr b (off + n.toNat * s))
        | _ => none
      | none => none
    | _, _, _ => none
  | .index t x i => match P.underlying t, F.eval x, F.eval i with
    | some (.array len e), some (.agg cs), some (.int _ n) => match P.underlying e, tySize P e with
      | some u, some s => bif isAggB u || !Nat.beq s 1 then none else some ((0 ≤ n ∧ n < len) ∧ n.toNat < cs.length, cs.getD n.toNat .inil)
      | _, _ => none
    | some .string, some (.str s), some (.int _ n) => some (0 ≤ n ∧ n < s.size, .int .u8 ((s.data.toList.getD n.toNat 0).toNat : Int))
    | _, _, _ => none
  | .extract x i => match F.eval x with
    | some (.tup ds) => match ds[i]? with
      | some d => some (True, d)
      | none => none
    | _ => none
  | .typeAssert x _ asserted ok => match P.underlying asserted, F.eval x with
    | some (.interface _), _ => none
    | some _, some (.iface t d) => bif Nat.beq t asserted then (bif ok then some (True, .tup [d, .bool true]) else some (True, d))
      else bif ok then match zeroD P asserted with
        | some z => some (True, .tup [z, .bool false])
        | none => none
      else none
    | some _, some .inil => bif ok then match zeroD P asserted with
        | some z => some (True, .tup [z, .bool false])
        | none => none
      else none
    | _, _ => none
  | .slice t x lo hi mx => match P.underlying t, F.eval x with
    | some (.slice e), some d => match tySize P e, bound F lo 0, bound F hi (lenD d) with
      | some s, some l, some h => match mx with
        | none => sliceD2 s d l h
        | some y => match hi, F.eval y with
          | some _, some (.int _ m) => sliceD3 s d l h m
          | _, _ => none
      | _, _, _ => none
    | some (.array n e), some (.sptr cs off) => match tySize P e, lo, hi, mx with
      | some s, none, none, none => some (off + n * s ≤ cs.length, .snap ((cs.drop off).take (n * s)) n true)
      | _, _, _, _ => none
    | _, _ => none
  | .call { callee := .builtin b, args, argTypes } => match b with
    | .len => match argTypes.toList, args.toList with
      | [t], [x] => match P.underlying t, F.eval x with
        | some (.slice _), some (.snap _ n _) => some (True, .int .i64 n)
        | some (.slice _), some (.live _ _ n _ _) => some (True, .int .i64 n)
        | some (.slice _), some .snil => some (True, .int .i64 0)
        | some .string, some (.str s) => some (True, .int .i64 s.size)
        | some (.array n _), some _ => some (True, .int .i64 n)
        | _, _ => none
      | _, _ => none
    | .cap => match argTypes.toList, args.toList with
      | [t], [x] => match P.underlying t, F.eval x with
        | some (.slice _), some .snil => some (True, .int .i64 0)
        | some (.slice _), some (.snap _ n true) => some (True, .int .i64 n)
        | _, _ => none
      | _, _ => none
    | .max => match args.toList with
      | [x, y] => match F.eval x, F.eval y with
        | some (.int k a), some (.int k' b) => bif decide (k = k') then some (True, .int k (if b > a then b else a)) else none
        | _, _ => none
      | _ => none
    | .min => match args.toList with
      | [x, y] => match F.eval x, F.eval y with
        | some (.int k a), some (.int k' b) => bif decide (k = k') then some (True, .int k (if b < a then b else a)) else none
        | _, _ => none
      | _ => none
    | .append => match argTypes.toList, args.toList with
      | [t, t'], [x, y] => bif Nat.beq t t' then match elemOfSlice P t, F.eval x, F.eval y with
          | some (_, _, _), some .snil, some .snil => some (True, .snil)
          | _, _, _ => none
        else none
      | _, _ => none
    | _ => none
  | _ => none

end Go.V

/- The logic V, part 2: what abstract values, frames and heaps say of a world; how worlds may go on. -/
namespace Go.V

theorem world_ext_heap {w w' : World} (h1 : w'.heap = w.heap) (h2 : w'.tape = w.tape) (h3 : w'.drawn = w.drawn) (h4 : w'.os = w.os) (h5 : w'.output = w.output) : w' = w := by
  cases w; cases w'; simp_all

/-- The ghost: which real blocks are never written again; where the abstract blocks lie. -/
structure Gh where
  S : Nat → Prop
  ρ : Nat → Option (Nat × Nat)

def cellsN (w : World) (k : Nat) : Option Nat := match w.heap[k]? with
  | some (.cells c _ _) => some c.size
  | _ => none

def D.one : D → Bool
  | .agg _ | .tup _ => false
  | _ => true

inductive Rep (w : World) (g : Gh) : D → Value → Prop where
  | bool (b : Bool) : Rep w g (.bool b) (.bool b)
  | int (k : IntKind) (n : Int) : Rep w g (.int k n) (.int k n)
  | str (s : ByteArray) : Rep w g (.str s) (.string s)
  | pnil : Rep w g .pnil (.pointer none)
  | ptr {b off k base : Nat} (h : g.ρ b = some (k, base)) : Rep w g (.ptr b off) (.pointer (some ⟨k, base + off, none⟩))
  | sptr {cs : List D} {off k base : Nat} (f : Nat → Value) (hS : cs ≠ [] → g.S k) (h1 : ∀ d ∈ cs, d.one = true)
      (hc : ∀ i : Nat, i < cs.length → w.cell? ⟨k, base + i, none⟩ = some (f i)) (hr : ∀ (i : Nat) (d : D), cs[i]? = some d → Rep w g d (f i)) :
      Rep w g (.sptr cs off) (.pointer (some ⟨k, base + off, none⟩))
  | snil : Rep w g .snil (.slice none 0 0)
  | snap {cs : List D} {len : Nat} {tight : Bool} {k base cap : Nat} (f : Nat → Value) (hS : cs ≠ [] → g.S k) (h1 : ∀ d ∈ cs, d.one = true)
      (hl : len ≤ cap) (ht : tight = true → cap = len)
      (hc : ∀ i : Nat, i < cs.length → w.cell? ⟨k, base + i, none⟩ = some (f i)) (hr : ∀ (i : Nat) (d : D), cs[i]? = some d → Rep w g d (f i)) :
      Rep w g (.snap cs len tight) (.slice (some ⟨k, base, none⟩) len cap)
  | snapNil (a : Option Addr) (tight : Bool) : Rep w g (.snap [] 0 tight) (.slice a 0 0)
  | live {b off len c sz k base x cap : Nat} (h : g.ρ b = some (k, base)) (hx : cap = 0 ∨ x = base + off) (hl : len ≤ c) (hc : c ≤ cap)
      (hn : cap = 0 ∨ ∃ n, cellsN w k = some n ∧ x + cap * sz ≤ n) :
      Rep w g (.live b off len c sz) (.slice (some ⟨k, x, none⟩) len cap)
  | fn {f : FuncId} {ds : List D} {vs : Array Value} (hn : vs.size = ds.length) (h : ∀ (i : Nat) (d : D) (v : Value), ds[i]? = some d → vs[i]? = some v → Rep w g d v) :
      Rep w g (.fn f ds) (.func (.func f) #[] vs)
  | yield {b k base : Nat} (h : g.ρ b = some (k, base)) : Rep w g (.yield b) (.func (.yield k) #[] #[])
  | fnil : Rep w g .fnil .nilFunc
  | iface {t : TypeId} {d : D} {v : Value} (h : Rep w g d v) : Rep w g (.iface t d) (.iface t v)
  | inil : Rep w g .inil .nilIface
  | agg {cs : List D} {vs : Array Value} (hn : vs.size = cs.length) (h1 : ∀ d ∈ cs, d.one = true) (h : ∀ (i : Nat) (d : D) (v : Value), cs[i]? = some d → vs[i]? = some v → Rep w g d v) :
      Rep w g (.agg cs) (.agg vs)
  | tup {cs : List D} {vs : Array Value} (hn : vs.size = cs.length) (h : ∀ (i : Nat) (d : D) (v : Value), cs[i]? = some d → vs[i]? = some v → Rep w g d v) :
      Rep w g (.tup cs) (.tuple vs)

def RepL (w : World) (g : Gh) (ds : List D) (vs : List Value) : Prop :=
  vs.length = ds.length ∧ ∀ (i : Nat) (d : D) (v : Value), ds[i]? = some d → vs[i]? = some v → Rep w g d v

def FRel (w : World) (g : Gh) (F : Fr) (tm : Array Value) : Prop := ∀ t d, F.get t = some d → ∃ v, tm[t]? = some v ∧ Rep w g d v

/-- The real blocks that the live abstract blocks lie in. -/
def Lof (g : Gh) (H : Hp) (k : Nat) : Prop := ∃ b x base, H[b]? = some (some x) ∧ g.ρ b = some (k, base)

structure HRel (w : World) (g : Gh) (H : Hp) : Prop where
  scell : ∀ k, g.S k → ∃ n, cellsN w k = some n
  sL : ∀ k, g.S k → ¬ Lof g H k
  dom : ∀ b, H.length ≤ b → g.ρ b = none
  blk : ∀ b cs, H[b]? = some (some (.cells cs)) → ∃ k base c e, g.ρ b = some (k, base) ∧ w.heap[k]? = some (.cells c e (0, 0)) ∧ base + cs.length ≤ c.size ∧
    (∀ d ∈ cs, d.one = true) ∧ ∀ (i : Nat) (d : D), cs[i]? = some d → ∃ v, c[base + i]? = some v ∧ Rep w g d v
  loop : ∀ b r F, H[b]? = some (some (.loop r F)) → ∃ k, g.ρ b = some (k, 0) ∧ w.heap[k]? = some (.loop r) ∧ FRel w g F r.tmps
  inj : ∀ b b' k base base' x x', H[b]? = some (some x) → H[b']? = some (some x') → g.ρ b = some (k, base) → g.ρ b' = some (k, base') → b = b'

/-- How a world may go on: what was not live is as it was. -/
structure Ev (N : Nat) (w : World) (g : Gh) (L : Nat → Prop) (w' : World) (g' : Gh) (L' : Nat → Prop) : Prop where
  os : w'.os = w.os
  tape : w'.tape = w.tape
  output : w'.output = w.output
  size : w.heap.size ≤ w'.heap.size
  keep : ∀ k, k < w.heap.size → ¬ L k → w'.heap[k]? = w.heap[k]?
  shape : ∀ k n, cellsN w k = some n → cellsN w' k = some n
  s1 : ∀ k, g.S k → g'.S k
  s2 : ∀ k, g'.S k → g.S k ∨ L k ∨ w.heap.size ≤ k
  l2 : ∀ k, L' k → L k ∨ w.heap.size ≤ k
  ρ : ∀ b, b < N → g'.ρ b = g.ρ b

section
variable {w w' w1 w2 : World} {g g' g1 g2 : Gh} {L L' L1 L2 : Nat → Prop} {H H' : Hp} {F : Fr} {tm : Array Value} {d d' : D} {v : Value} {ds : List D} {vs : List Value}

theorem Ev.refl (N : Nat) (w : World) (g : Gh) (L : Nat → Prop) : Ev N w g L w g L :=
  ⟨rfl, rfl, rfl, Nat.le_refl _, fun _ _ _ => rfl, fun _ _ h => h, fun _ h => h, fun _ h => .inl h, fun _ h => .inl h, fun _ _ => rfl⟩

theorem Ev.trans {N : Nat} (a : Ev N w g L w1 g1 L1) (b : Ev N w1 g1 L1 w2 g2 L2) : Ev N w g L w2 g2 L2 := by
  refine ⟨b.os.trans a.os, b.tape.trans a.tape, b.output.trans a.output, Nat.le_trans a.size b.size, ?_, fun k n h => b.shape k n (a.shape k n h), fun k h => b.s1 k (a.s1 k h), ?_, ?_, fun c h => (b.ρ c h).trans (a.ρ c h)⟩
  · intro k hk hL
    rw [b.keep k (Nat.lt_of_lt_of_le hk a.size) (fun h => (a.l2 k h).elim hL (fun h => absurd hk (Nat.not_lt.2 h)))]
    exact a.keep k hk hL
  · intro k h
    rcases b.s2 k h with h | h | h
    · exact a.s2 k h
    · exact .inr (a.l2 k h)
    · exact .inr (.inr (Nat.le_trans a.size h))
  · intro k h
    rcases b.l2 k h with h | h
    · exact a.l2 k h
    · exact .inr (Nat.le_trans a.size h)

theorem cell?_eq_of_heap {w w' : World} {a : Addr} (h : w'.heap[a.block]? = w.heap[a.block]?) : w'.cell? a = w.cell? a := by simp [World.cell?, h]

def oneV : Value → Bool
  | .agg _ | .tuple _ => false
  | _ => true

theorem Rep.one (h : Rep w g d v) (h1 : d.one = true) : oneV v = true := by
  cases h <;> first | rfl | (simp [D.one] at h1)

/-- What was live or fixed under g reads the same under g'. -/
structure Keeps (w : World) (g : Gh) (w' : World) (g' : Gh) : Prop where
  cells : ∀ k, g.S k → w'.heap[k]? = w.heap[k]?
  shape : ∀ k n, cellsN w k = some n → cellsN w' k = some n
  S : ∀ k, g.S k → g'.S k
  ρ : ∀ b x, g.ρ b = some x → g'.ρ b = some x

theorem Rep.keeps (e : Keeps w g w' g') (h : Rep w g d v) : Rep w' g' d v := by
  induction h with
  | bool b => exact .bool b
  | int k n => exact .int k n
  | str s => exact .str s
  | pnil => exact .pnil
  | ptr h => exact .ptr (e.ρ _ _ h)
  | sptr f hS h1 hc hr ih =>
    refine .sptr f (fun h => e.S _ (hS h)) h1 (fun i hi => ?_) ih
    rw [← hc i hi]
    exact cell?_eq_of_heap (e.cells _ (hS (fun h => by rw [h] at hi; simp at hi)))
  | snil => exact .snil
  | snap f hS h1 hl ht hc hr ih =>
    refine .snap f (fun h => e.S _ (hS h)) h1 hl ht (fun i hi => ?_) ih
    rw [← hc i hi]
    exact cell?_eq_of_heap (e.cells _ (hS (fun h => by rw [h] at hi; simp at hi)))
  | snapNil a t => exact .snapNil a t
  | live h hx hl hc hn => exact .live (e.ρ _ _ h) hx hl hc (hn.imp id fun ⟨n, a, b⟩ => ⟨n, e.shape _ _ a, b⟩)
  | fn hn h ih => exact .fn hn ih
  | yield h => exact .yield (e.ρ _ _ h)
  | fnil => exact .fnil
  | iface h ih => exact .iface ih
  | inil => exact .inil
  | agg hn h1 h ih => exact .agg hn h1 ih
  | tup hn h ih => exact .tup hn ih

theorem cellsN_lt {k n : Nat} (h : cellsN w k = some n) : k < w.heap.size := by
  unfold cellsN at h
  split at h
  · rename_i hk; exact (Array.getElem?_eq_some_iff.1 hk).1
  · cases h

theorem HRel.slt (h : HRel w g H) (k : Nat) (hk : g.S k) : k < w.heap.size := let ⟨_, hn⟩ := h.scell k hk; cellsN_lt hn

theorem HRel.sok (h : HRel w g H) : ∀ k, g.S k → k < w.heap.size ∧ ¬ Lof g H k := fun k hk => ⟨h.slt k hk, h.sL k hk⟩

theorem Ev.keeps {N : Nat} (e : Ev N w g (Lof g H) w' g' L') (h : HRel w g H) (hN : H.length ≤ N) : Keeps w g w' g' :=
  ⟨fun k hk => e.keep k (h.slt k hk) (h.sL k hk), e.shape, e.s1, fun b x hb => by
    rw [e.ρ b, hb]
    rcases Nat.lt_or_ge b H.length with h1 | h1
    · exact Nat.lt_of_lt_of_le h1 hN
    · rw [h.dom b h1] at hb; cases hb⟩

theorem Keeps.refl (w : World) (g : Gh) : Keeps w g w g := ⟨fun _ _ => rfl, fun _ _ h => h, fun _ h => h, fun _ _ h => h⟩

theorem Ev.le {N M : Nat} (e : Ev N w g L w' g' L') (h : M ≤ N) : Ev M w g L w' g' L' :=
  { e with ρ := fun b hb => e.ρ b (Nat.lt_of_lt_of_le hb h) }

theorem RepL.keeps (e : Keeps w g w' g') (h : RepL w g ds vs) : RepL w' g' ds vs :=
  ⟨h.1, fun i d v a b => (h.2 i d v a b).keeps e⟩

theorem FRel.keeps (e : Keeps w g w' g') (h : FRel w g F tm) : FRel w' g' F tm :=
  fun t d hd => let ⟨v, a, b⟩ := h t d hd; ⟨v, a, b.keeps e⟩

/-- No live memory anywhere in it. -/
inductive Pure : D → Prop where
  | bool (b : Bool) : Pure (.bool b)
  | int (k : IntKind) (n : Int) : Pure (.int k n)
  | str (s : ByteArray) : Pure (.str s)
  | pnil : Pure .pnil
  | sptr {cs : List D} {off : Nat} (h : ∀ d ∈ cs, Pure d) : Pure (.sptr cs off)
  | snil : Pure .snil
  | snap {cs : List D} {len : Nat} {t : Bool} (h : ∀ d ∈ cs, Pure d) : Pure (.snap cs len t)
  | fn {f : FuncId} {ds : List D} (h : ∀ d ∈ ds, Pure d) : Pure (.fn f ds)
  | fnil : Pure .fnil
  | iface {t : TypeId} {d : D} (h : Pure d) : Pure (.iface t d)
  | inil : Pure .inil
  | agg {cs : List D} (h : ∀ d ∈ cs, Pure d) : Pure (.agg cs)
  | tup {cs : List D} (h : ∀ d ∈ cs, Pure d) : Pure (.tup cs)

theorem Rep.ofPure {w : World} {g g' : Gh} (hS : ∀ k, g.S k → g'.S k) {d : D} {v : Value} (h : Rep w g d v) : Pure d → Rep w g' d v := by
  induction h with
  | bool b => exact fun _ => .bool b
  | int k n => exact fun _ => .int k n
  | str s => exact fun _ => .str s
  | pnil => exact fun _ => .pnil
  | ptr h => exact fun hp => by cases hp
  | sptr f hs h1 hc hr ih =>
    intro hp
    cases hp with
    | sptr hp => exact .sptr f (fun h => hS _ (hs h)) h1 hc (fun i d hd => ih i d hd (hp d (List.mem_of_getElem? hd)))
  | snil => exact fun _ => .snil
  | snap f hs h1 hl ht hc hr ih =>
    intro hp
    cases hp with
    | snap hp => exact .snap f (fun h => hS _ (hs h)) h1 hl ht hc (fun i d hd => ih i d hd (hp d (List.mem_of_getElem? hd)))
  | snapNil a t => exact fun _ => .snapNil a t
  | live h hx hl hc hn => exact fun hp => by cases hp
  | fn hn h ih =>
    intro hp
    cases hp with
    | fn hp => exact .fn hn (fun i d v hd hv => ih i d v hd hv (hp d (List.mem_of_getElem? hd)))
  | yield h => exact fun hp => by cases hp
  | fnil => exact fun _ => .fnil
  | iface h ih =>
    intro hp
    cases hp with
    | iface hp => exact .iface (ih hp)
  | inil => exact fun _ => .inil
  | agg hn h1 h ih =>
    intro hp
    cases hp with
    | agg hp => exact .agg hn h1 (fun i d v hd hv => ih i d v hd hv (hp d (List.mem_of_getElem? hd)))
  | tup hn h ih =>
    intro hp
    cases hp with
    | tup hp => exact .tup hn (fun i d v hd hv => ih i d v hd hv (hp d (List.mem_of_getElem? hd)))

/-- No live memory but blocks below m. -/
inductive Bel (m : Nat) : D → Prop where
  | bool (b : Bool) : Bel m (.bool b)
  | int (k : IntKind) (n : Int) : Bel m (.int k n)
  | str (s : ByteArray) : Bel m (.str s)
  | pnil : Bel m .pnil
  | ptr {b off : Nat} (h : b < m) : Bel m (.ptr b off)
  | sptr {cs : List D} {off : Nat} (h : ∀ d ∈ cs, Bel m d) : Bel m (.sptr cs off)
  | snil : Bel m .snil
  | snap {cs : List D} {len : Nat} {t : Bool} (h : ∀ d ∈ cs, Bel m d) : Bel m (.snap cs len t)
  | live {b off len c sz : Nat} (h : b < m) : Bel m (.live b off len c sz)
  | fn {f : FuncId} {ds : List D} (h : ∀ d ∈ ds, Bel m d) : Bel m (.fn f ds)
  | yield {b : Nat} (h : b < m) : Bel m (.yield b)
  | fnil : Bel m .fnil
  | iface {t : TypeId} {d : D} (h : Bel m d) : Bel m (.iface t d)
  | inil : Bel m .inil
  | agg {cs : List D} (h : ∀ d ∈ cs, Bel m d) : Bel m (.agg cs)
  | tup {cs : List D} (h : ∀ d ∈ cs, Bel m d) : Bel m (.tup cs)

theorem Rep.bel {m : Nat} (hS : ∀ k, g.S k → g'.S k) (hρ : ∀ b, b < m → g'.ρ b = g.ρ b) (h : Rep w g d v) : Bel m d → Rep w g' d v := by
  induction h with
  | bool b => exact fun _ => .bool b
  | int k n => exact fun _ => .int k n
  | str s => exact fun _ => .str s
  | pnil => exact fun _ => .pnil
  | ptr h => exact fun hp => by cases hp with | ptr hb => exact .ptr ((hρ _ hb).trans h)
  | sptr f hs h1 hc hr ih =>
    intro hp
    cases hp with
    | sptr hp => exact .sptr f (fun h => hS _ (hs h)) h1 hc (fun i d hd => ih i d hd (hp d (List.mem_of_getElem? hd)))
  | snil => exact fun _ => .snil
  | snap f hs h1 hl ht hc hr ih =>
    intro hp
    cases hp with
    | snap hp => exact .snap f (fun h => hS _ (hs h)) h1 hl ht hc (fun i d hd => ih i d hd (hp d (List.mem_of_getElem? hd)))
  | snapNil a t => exact fun _ => .snapNil a t
  | live h hx hl hc hn => exact fun hp => by cases hp with | live hb => exact .live ((hρ _ hb).trans h) hx hl hc hn
  | fn hn h ih =>
    intro hp
    cases hp with
    | fn hp => exact .fn hn (fun i d v hd hv => ih i d v hd hv (hp d (List.mem_of_getElem? hd)))
  | yield h => exact fun hp => by cases hp with | yield hb => exact .yield ((hρ _ hb).trans h)
  | fnil => exact fun _ => .fnil
  | iface h ih =>
    intro hp
    cases hp with
    | iface hp => exact .iface (ih hp)
  | inil => exact fun _ => .inil
  | agg hn h1 h ih =>
    intro hp
    cases hp with
    | agg hp => exact .agg hn h1 (fun i d v hd hv => ih i d v hd hv (hp d (List.mem_of_getElem? hd)))
  | tup hn h ih =>
    intro hp
    cases hp with
    | tup hp => exact .tup hn (fun i d v hd hv => ih i d v hd hv (hp d (List.mem_of_getElem? hd)))

theorem Pure.bel {m : Nat} (h : Pure d) : Bel m d := by
  induction h with
  | bool b => exact .bool b
  | int k n => exact .int k n
  | str s => exact .str s
  | pnil => exact .pnil
  | sptr h ih => exact .sptr ih
  | snil => exact .snil
  | snap h ih => exact .snap ih
  | fn h ih => exact .fn ih
  | fnil => exact .fnil
  | iface h ih => exact .iface ih
  | inil => exact .inil
  | agg h ih => exact .agg ih
  | tup h ih => exact .tup ih

/-- What tells less of a value: a nil slice may be told as an empty one. -/
inductive Wk : D → D → Prop where
  | refl (d : D) : Wk d d
  | snil (t : Bool) : Wk .snil (.snap [] 0 t)
  | snap {cs cs' : List D} {n : Nat} {t t' : Bool} (hn : cs'.length ≤ cs.length) (ht : t' = true → t = true) (h : ∀ (i : Nat) (x y : D), cs[i]? = some x → cs'[i]? = some y → Wk x y) : Wk (.snap cs n t) (.snap cs' n t')
  | sptr {cs cs' : List D} {off : Nat} (hn : cs'.length ≤ cs.length) (h : ∀ (i : Nat) (x y : D), cs[i]? = some x → cs'[i]? = some y → Wk x y) : Wk (.sptr cs off) (.sptr cs' off)
  | iface {t : TypeId} {d d' : D} (h : Wk d d') : Wk (.iface t d) (.iface t d')
  | fn {f : FuncId} {cs cs' : List D} (hn : cs'.length = cs.length) (h : ∀ (i : Nat) (x y : D), cs[i]? = some x → cs'[i]? = some y → Wk x y) : Wk (.fn f cs) (.fn f cs')
  | agg {cs cs' : List D} (hn : cs'.length = cs.length) (h : ∀ (i : Nat) (x y : D), cs[i]? = some x → cs'[i]? = some y → Wk x y) : Wk (.agg cs) (.agg cs')
  | tup {cs cs' : List D} (hn : cs'.length = cs.length) (h : ∀ (i : Nat) (x y : D), cs[i]? = some x → cs'[i]? = some y → Wk x y) : Wk (.tup cs) (.tup cs')

theorem Wk.one {d d' : D} (h : Wk d d') : d'.one = d.one := by cases h <;> rfl

theorem get_both {cs cs' : List D} (hn : cs'.length ≤ cs.length) {i : Nat} {y : D} (hy : cs'[i]? = some y) : ∃ x, cs[i]? = some x := by
  have hi : i < cs'.length := by
    rcases Nat.lt_or_ge i cs'.length with h | h
    · exact h
    · simp [List.getElem?_eq_none h] at hy
  exact ⟨cs[i], by simp⟩

theorem ones_of {cs cs' : List D} (hn : cs'.length ≤ cs.length) (h : ∀ (i : Nat) (x y : D), cs[i]? = some x → cs'[i]? = some y → y.one = x.one) (h1 : ∀ d ∈ cs, d.one = true) : ∀ d ∈ cs', d.one = true := by
  intro d hd
  obtain ⟨i, hi, rfl⟩ := List.getElem_of_mem hd
  obtain ⟨x, hx⟩ := get_both hn (i := i) (y := cs'[i]) (by simp)
  rw [h i x _ hx (by simp)]
  exact h1 x (List.mem_of_getElem? hx)

theorem Rep.wk {w : World} {g : Gh} {d d' : D} (hw : Wk d d') : ∀ {v}, Rep w g d v → Rep w g d' v := by
  induction hw with
  | refl d => exact fun h => h
  | snil t => intro v h; cases h; exact .snapNil _ t
  | @snap cs cs' n t t' hn ht h ih =>
    intro v hr
    cases hr with
    | snap f hS h1 hl ht' hc hr =>
      refine .snap f (fun hne => hS (fun e => hne (List.eq_nil_of_length_eq_zero (by rw [e] at hn; simpa using hn)))) (ones_of hn (fun i x y hx hy => (h i x y hx hy).one) h1) hl (fun e => ht' (ht e)) (fun i hi => hc i (by omega)) ?_
      intro i y hy
      obtain ⟨x, hx⟩ := get_both hn hy
      exact ih i x y hx hy (hr i x hx)
    | snapNil a t =>
      have : cs' = [] := List.eq_nil_of_length_eq_zero (by simpa using hn)
      subst this
      exact .snapNil _ _
  | @sptr cs cs' off hn h ih =>
    intro v hr
    cases hr with
    | sptr f hS h1 hc hr =>
      refine .sptr f (fun hne => hS (fun e => hne (List.eq_nil_of_length_eq_zero (by rw [e] at hn; simpa using hn)))) (ones_of hn (fun i x y hx hy => (h i x y hx hy).one) h1) (fun i hi => hc i (by omega)) ?_
      intro i y hy
      obtain ⟨x, hx⟩ := get_both hn hy
      exact ih i x y hx hy (hr i x hx)
  | iface h ih =>
    intro v hr
    cases hr with
    | iface hr => exact .iface (ih hr)
  | fn hn h ih =>
    intro v hr
    cases hr with
    | fn hn' hr =>
      refine .fn (hn'.trans hn.symm) fun i y v hy hv => ?_
      obtain ⟨x, hx⟩ := get_both (Nat.le_of_eq hn) hy
      exact ih i x y hx hy (hr i x v hx hv)
  | agg hn h ih =>
    intro v hr
    cases hr with
    | agg hn' h1 hr =>
      refine .agg (hn'.trans hn.symm) (ones_of (Nat.le_of_eq hn) (fun i x y hx hy => (h i x y hx hy).one) h1) fun i y v hy hv => ?_
      obtain ⟨x, hx⟩ := get_both (Nat.le_of_eq hn) hy
      exact ih i x y hx hy (hr i x v hx hv)
  | tup hn h ih =>
    intro v hr
    cases hr with
    | tup hn' hr =>
      refine .tup (hn'.trans hn.symm) fun i y v hy hv => ?_
      obtain ⟨x, hx⟩ := get_both (Nat.le_of_eq hn) hy
      exact ih i x y hx hy (hr i x v hx hv)

/-- What a value is once all live memory is let go: live slices become snapshots. -/
inductive Frz (H : Hp) : D → D → Prop where
  | pure {d d' : D} (h : Pure d) (hw : Wk d d') : Frz H d d'
  | live {b off len c sz : Nat} {cs ds : List D} (hb : H[b]? = some (some (.cells cs))) (hn : off + len * sz ≤ cs.length) (hd : ds.length = len * sz)
      (h : ∀ (i : Nat) (x y : D), cs[off + i]? = some x → ds[i]? = some y → Frz H x y) : Frz H (.live b off len c sz) (.snap ds len false)
  | snap {cs cs' : List D} {n : Nat} {t t' : Bool} (hn : cs'.length ≤ cs.length) (ht : t' = true → t = true) (h : ∀ (i : Nat) (x y : D), cs[i]? = some x → cs'[i]? = some y → Frz H x y) : Frz H (.snap cs n t) (.snap cs' n t')
  | ptr {b off : Nat} {cs ds : List D} (hb : H[b]? = some (some (.cells cs))) (hd : ds.length ≤ cs.length)
      (h : ∀ (i : Nat) (x y : D), cs[i]? = some x → ds[i]? = some y → Frz H x y) : Frz H (.ptr b off) (.sptr ds off)
  | sptr {cs cs' : List D} {off : Nat} (hn : cs'.length ≤ cs.length) (h : ∀ (i : Nat) (x y : D), cs[i]? = some x → cs'[i]? = some y → Frz H x y) : Frz H (.sptr cs off) (.sptr cs' off)
  | fn {f : FuncId} {cs cs' : List D} (hn : cs'.length = cs.length) (h : ∀ (i : Nat) (x y : D), cs[i]? = some x → cs'[i]? = some y → Frz H x y) : Frz H (.fn f cs) (.fn f cs')
  | iface {t : TypeId} {d d' : D} (h : Frz H d d') : Frz H (.iface t d) (.iface t d')
  | agg {cs ds : List D} (hn : ds.length = cs.length) (h : ∀ (i : Nat) (x y : D), cs[i]? = some x → ds[i]? = some y → Frz H x y) : Frz H (.agg cs) (.agg ds)
  | tup {cs ds : List D} (hn : ds.length = cs.length) (h : ∀ (i : Nat) (x y : D), cs[i]? = some x → ds[i]? = some y → Frz H x y) : Frz H (.tup cs) (.tup ds)

theorem Frz.one {H : Hp} {d d' : D} (h : Frz H d d') : d'.one = d.one := by
  cases h with
  | pure h hw => exact hw.one
  | _ => rfl

theorem Rep.frz {w : World} {g g' : Gh} {H : Hp} (hH : HRel w g H) (hS : ∀ k, g.S k ∨ Lof g H k → g'.S k) {d d' : D} (hf : Frz H d d') : ∀ {v}, Rep w g d v → Rep w g' d' v := by
  induction hf with
  | pure hp hw => exact fun h => (h.ofPure (fun k hk => hS k (.inl hk)) hp).wk hw
  | @live b off len c sz cs ds hb hn hd h ih =>
    intro v hr
    cases hr with
    | @live _ _ _ _ _ k base x cap hρ hx hl hc hnn =>
      obtain ⟨k', base', arr, e, hρ', hk, hsz, hone, hcell⟩ := hH.blk b cs hb
      rw [hρ] at hρ'
      obtain ⟨rfl, rfl⟩ : k = k' ∧ base = base' := by simpa using hρ'
      have hcs : ∀ i : Nat, i < ds.length → ∃ xd yd v, cs[off + i]? = some xd ∧ ds[i]? = some yd ∧ arr[base + off + i]? = some v ∧ Rep w g' yd v := by
        intro i hi
        have h1 : off + i < cs.length := by omega
        refine ⟨cs[off + i], ds[i], ?_⟩
        obtain ⟨v, hv, hrv⟩ := hcell (off + i) cs[off + i] (by simp)
        exact ⟨v, by simp, by simp, by rw [Nat.add_assoc]; exact hv, ih i _ _ (by simp) (by simp) hrv⟩
      have h1 : ∀ d ∈ ds, d.one = true := by
        intro d hd'
        obtain ⟨i, hi, rfl⟩ := List.getElem_of_mem hd'
        obtain ⟨xd, yd, v, hx, hy, _⟩ := hcs i hi
        have : ds[i] = yd := by simpa [hi] using hy
        rw [this, (h i xd yd hx hy).one]
        exact hone _ (List.mem_of_getElem? hx)
      refine .snap (fun i => (arr[base + off + i]?).getD default) (fun _ => hS k (.inr ⟨b, _, base, hb, hρ⟩)) h1 (Nat.le_trans hl hc) (by simp) ?_ ?_
      · intro i hi
        have hcap : cap ≠ 0 := by
          rintro rfl
          have : len = 0 := by omega
          subst this
          simp [hd] at hi
        have hxe : x = base + off := hx.resolve_left hcap
        subst hxe
        obtain ⟨_, _, v, _, _, hv, _⟩ := hcs i hi
        simp [World.cell?, hk, hv]
      · intro i d hd'
        have hi : i < ds.length := by
          rcases Nat.lt_or_ge i ds.length with h | h
          · exact h
          · simp [List.getElem?_eq_none h] at hd'
        obtain ⟨_, yd, v, _, hy, hv, hr⟩ := hcs i hi
        rw [hd'] at hy
        obtain rfl : d = yd := by simpa using hy
        simpa [hv] using hr
  | @ptr b off cs ds hb hd h ih =>
    intro v hr
    cases hr with
    | @ptr _ _ k base hρ =>
      obtain ⟨k', base', arr, e, hρ', hk, hsz, hone, hcell⟩ := hH.blk b cs hb
      rw [hρ] at hρ'
      obtain ⟨rfl, rfl⟩ : k = k' ∧ base = base' := by simpa using hρ'
      refine .sptr (fun i => (arr[base + i]?).getD default) (fun _ => hS k (.inr ⟨b, _, base, hb, hρ⟩)) (ones_of hd (fun i x y hx hy => (h i x y hx hy).one) hone) ?_ ?_
      · intro i hi
        obtain ⟨v, hv, _⟩ := hcell i cs[i] (by simp)
        simp [World.cell?, hk, hv]
      · intro i y hy
        obtain ⟨x, hx⟩ := get_both hd hy
        obtain ⟨v, hv, hrv⟩ := hcell i x hx
        simpa [hv] using ih i x y hx hy hrv
  | @sptr cs cs' off hn h ih =>
    intro v hr
    cases hr with
    | sptr f hS' h1 hc hr =>
      refine .sptr f (fun hne => hS _ (.inl (hS' (fun e => hne (List.eq_nil_of_length_eq_zero (by rw [e] at hn; simpa using hn)))))) (ones_of hn (fun i x y hx hy => (h i x y hx hy).one) h1) (fun i hi => hc i (by omega)) ?_
      intro i y hy
      obtain ⟨x, hx⟩ := get_both hn hy
      exact ih i x y hx hy (hr i x hx)
  | fn hn h ih =>
    intro v hr
    cases hr with
    | fn hn' hr =>
      refine .fn (hn'.trans hn.symm) fun i y v hy hv => ?_
      obtain ⟨x, hx⟩ := get_both (Nat.le_of_eq hn) hy
      exact ih i x y hx hy (hr i x v hx hv)
  | @snap cs cs' n t t' hn ht h ih =>
    intro v hr
    cases hr with
    | snap f hS' h1 hl ht' hc hr =>
      refine .snap f (fun hne => hS _ (.inl (hS' (fun e => hne (List.eq_nil_of_length_eq_zero (by rw [e] at hn; simpa using hn)))))) (ones_of hn (fun i x y hx hy => (h i x y hx hy).one) h1) hl (fun e => ht' (ht e)) (fun i hi => hc i (by omega)) ?_
      intro i y hy
      obtain ⟨x, hx⟩ := get_both hn hy
      exact ih i x y hx hy (hr i x hx)
    | snapNil a t =>
      have : cs' = [] := List.eq_nil_of_length_eq_zero (by simpa using hn)
      subst this
      exact .snapNil _ _
  | iface h ih =>
    intro v hr
    cases hr with
    | iface hr => exact .iface (ih hr)
  | @agg cs ds hn h ih =>
    intro v hr
    cases hr with
    | agg hn' h1' hr =>
      refine .agg (hn'.trans hn.symm) (ones_of (Nat.le_of_eq hn) (fun i x y hx hy => (h i x y hx hy).one) h1') fun i d v hd hv => ?_
      have hi : i < cs.length := by
        rw [← hn]
        rcases Nat.lt_or_ge i ds.length with h | h
        · exact h
        · simp [List.getElem?_eq_none h] at hd
      exact ih i cs[i] d (by simp) hd (hr i cs[i] v (by simp) hv)
  | @tup cs ds hn h ih =>
    intro v hr
    cases hr with
    | tup hn' hr =>
      refine .tup (hn'.trans hn.symm) fun i d v hd hv => ?_
      have hi : i < cs.length := by
        rw [← hn]
        rcases Nat.lt_or_ge i ds.length with h | h
        · exact h
        · simp [List.getElem?_eq_none h] at hd
      exact ih i cs[i] d (by simp) hd (hr i cs[i] v (by simp) hv)

theorem Rep.cells (h : Rep w g d v) : RepL w g d.cells v.cells.toList := by
  cases h with
  | agg hn h1 h =>
    refine ⟨by simpa [D.cells, Value.cells] using hn, fun i d v hd hv => h i d v hd (by simpa [Value.cells] using hv)⟩
  | _ =>
    refine ⟨rfl, fun i d v hd hv => ?_⟩
    cases i with
    | zero =>
      simp only [D.cells, Value.cells, List.getElem?_cons_zero, Option.some.injEq] at hd hv
      subst hd; subst hv
      first
        | assumption
        | constructor <;> assumption
    | succ i => simp [D.cells] at hd

theorem Rep.cells_one (h : Rep w g d v) (hn : d.notTup = true) : ∀ x ∈ d.cells, x.one = true := by
  cases h with
  | agg hn h1 h => exact h1
  | tup hn' h => simp [D.notTup] at hn
  | _ => intro x hx; simp only [D.cells, List.mem_singleton] at hx; subst hx; rfl

end
end Go.V

/- The logic V, part 3: the machine's steps through code, at a frame that may be a round of a range over a function. -/
namespace Go.V

def on (b : Frame) (tm : Array Value) (df : List Deferred) (todo : List Item) : Frame := { b with tmps := tm, todo := todo, defers := df, mode := .run }

def evalT (tm : Array Value) : Operand → Value
  | .tmp t => tm.getD t undef
  | .const v => v
  | .global g => .pointer (some ⟨g, 0, none⟩)
  | .func f => .func (.func f) #[] #[]

theorem eval_on (b : Frame) (tm : Array Value) (df : List Deferred) (todo : List Item) (x : Operand) : (on b tm df todo).eval x = evalT tm x := by cases x <;> rfl
theorem eval_on' (b : Frame) (tm : Array Value) (df : List Deferred) (todo : List Item) : (on b tm df todo).eval = evalT tm := funext (eval_on b tm df todo)

def putV (tm : Array Value) : Option Tmp → Value → Array Value
  | some d, v => tm.setIfInBounds d v
  | none, _ => tm

section steps
variable {P : Program} {b : Frame} {tm : Array Value} {df : List Deferred} {k : List Item} {cs : List Frame} {w : World}
theorem st_skip : step P (lone (on b tm df (.code .skip :: k)) cs w) = .next (lone (on b tm df k) cs w) := step_lone_go (by simp [stepG, stepG.exec, on])
theorem st_label {l : Nat} : step P (lone (on b tm df (.code (.label l) :: k)) cs w) = .next (lone (on b tm df k) cs w) := step_lone_go (by simp [stepG, stepG.exec, on])
theorem st_inBlock {i : Nat} : step P (lone (on b tm df (.inBlock i :: k)) cs w) = .next (lone (on b tm df k) cs w) := step_lone_go (by simp [stepG, stepG.exec, on])
theorem st_inScope {c : Code} : step P (lone (on b tm df (.inScope c :: k)) cs w) = .next (lone (on b tm df k) cs w) := step_lone_go (by simp [stepG, stepG.exec, on])
theorem st_seq {x y : Code} : step P (lone (on b tm df (.code (.seq x y) :: k)) cs w) = .next (lone (on b tm df (.code x :: .code y :: k)) cs w) := step_lone_go (by simp [stepG, stepG.exec, on])
theorem st_cond {c : Operand} {x y : Code} {t : Bool} (h : evalT tm c = .bool t) :
    step P (lone (on b tm df (.code (.cond c x y) :: k)) cs w) = .next (lone (on b tm df (.code (if t then x else y) :: k)) cs w) :=
  step_lone_go (by
    have := eval_on b tm df (.code (.cond c x y) :: k) c
    simp only [on] at this
    simp [stepG, stepG.exec, on, this, h])
theorem st_block {i : Nat} {c : Code} : step P (lone (on b tm df (.code (.block i c) :: k)) cs w) = .next (lone (on b tm df (.code c :: .inBlock i :: k)) cs w) := step_lone_go (by simp [stepG, stepG.exec, on])
theorem st_scope {c : Code} : step P (lone (on b tm df (.code (.scope c) :: k)) cs w) = .next (lone (on b tm df (.code c :: .inScope c :: k)) cs w) := step_lone_go (by simp [stepG, stepG.exec, on])
theorem st_loop {c : Code} : step P (lone (on b tm df (.code (.loop c) :: k)) cs w) = .next (lone (on b tm df (.code c :: .inLoop c :: k)) cs w) := step_lone_go (by simp [stepG, stepG.exec, on])
theorem st_inLoop {c : Code} : step P (lone (on b tm df (.inLoop c :: k)) cs w) = .next (lone (on b tm df (.code c :: .inLoop c :: k)) cs w) := step_lone_go (by simp [stepG, stepG.exec, on])
theorem st_exit {i : Nat} {k' : List Item} (h : exitTo i k = some k') : step P (lone (on b tm df (.code (.exit i) :: k)) cs w) = .next (lone (on b tm df k') cs w) :=
  step_lone_go (by simp [stepG, stepG.exec, on, h])
theorem st_region {i : Nat} {ops : Array Oper} : step P (lone (on b tm df (.code (.region i ops false) :: k)) cs w) = .next (lone (on b tm df (.inRegion ops (List.range ops.size) :: k)) cs w) :=
  step_lone_go (by simp [stepG, stepG.exec, on])
theorem st_region_draw {i : Nat} {ops : Array Oper} :
    step P (lone (on b tm df (.code (.region i ops true) :: k)) cs w) =
      .next (lone (on b tm df (.inRegion ops (Region.schedule (P.follows .mixedOrders) ops (w.tape w.drawn (.order b.fn i))) :: k)) cs { w with drawn := w.drawn + 1 }) :=
  step_lone_go (by simp [stepG, stepG.exec, on, choose, Sem.run, Question.forced, Question.cut])
theorem st_region_end {ops : Array Oper} : step P (lone (on b tm df (.inRegion ops [] :: k)) cs w) = .next (lone (on b tm df k) cs w) := step_lone_go (by simp [stepG, stepG.exec, on])

theorem finish_on (ops : Array Oper) (i : Nat) (rest : List Nat) (v : Value) :
    (on b tm df (.inRegion ops (i :: rest) :: k)).finish v = on b (putV tm ((ops[i]?).bind (·.dst)) v) df (.inRegion ops rest :: k) := by
  cases h : (ops[i]?).bind (·.dst) <;> simp [Frame.finish, on, putV, h]

variable {ops : Array Oper} {i : Nat} {rest : List Nat} {o : Oper}
theorem st_op_skip (ho : ops[i]? = some o) (hw : Region.wanted o (yielded ops tm) = false) :
    step P (lone (on b tm df (.inRegion ops (i :: rest) :: k)) cs w) = .next (lone (on b (putV tm o.dst undef) df (.inRegion ops rest :: k)) cs w) := by
  have hf := finish_on (b := b) (tm := tm) (df := df) (k := k) ops i rest undef
  rw [ho] at hf
  rw [show o.dst = (some o).bind (·.dst) from rfl, ← hf]
  exact step_lone_go (by simp [stepG, stepG.exec, on, ho, hw])

theorem stG_op (ho : ops[i]? = some o) (hw : Region.wanted o (yielded ops tm) = true) (hd : ∀ c, o.op ≠ .defer c) :
    stepG P true { frame := on b tm df (.inRegion ops (i :: rest) :: k), callers := cs, status := .running, dying := none } w =
      stepG.apply P true (on b tm df (.inRegion ops (i :: rest) :: k)) cs none (execOp (evalT tm) o) w := by
  have he := eval_on' b tm df (.inRegion ops (i :: rest) :: k)
  simp only [on] at he
  cases hr : b.roundOf with
  | none =>
    rw [hr] at he
    simp [stepG, stepG.exec, stepG.oper, Frame.oper?, on, ho, hw, he, hr]
  | some l =>
    rw [hr] at he
    cases hop : o.op with
    | defer c => exact absurd hop (hd c)
    | _ => simp [stepG, stepG.exec, stepG.oper, Frame.oper?, on, ho, hw, he, hr, hop]

theorem st_op_value {v : Value} {w' : World} (ho : ops[i]? = some o) (hw : Region.wanted o (yielded ops tm) = true) (hd : ∀ c, o.op ≠ .defer c)
    (hr : (execOp (evalT tm) o).run P w = .ok (.value v) w') :
    step P (lone (on b tm df (.inRegion ops (i :: rest) :: k)) cs w) = .next (lone (on b (putV tm o.dst v) df (.inRegion ops rest :: k)) cs w') := by
  have hf := finish_on (b := b) (tm := tm) (df := df) (k := k) ops i rest v
  rw [ho] at hf
  rw [show o.dst = (some o).bind (·.dst) from rfl, ← hf]
  refine step_lone_go ?_
  rw [stG_op ho hw hd]
  simp [stepG.apply, hr]

theorem st_op_unit {w' : World} (ho : ops[i]? = some o) (hw : Region.wanted o (yielded ops tm) = true) (hd : ∀ c, o.op ≠ .defer c)
    (hr : (execOp (evalT tm) o).run P w = .ok .skip w') :
    step P (lone (on b tm df (.inRegion ops (i :: rest) :: k)) cs w) = .next (lone (on b (putV tm o.dst undef) df (.inRegion ops rest :: k)) cs w') := by
  have hf := finish_on (b := b) (tm := tm) (df := df) (k := k) ops i rest undef
  rw [ho] at hf
  rw [show o.dst = (some o).bind (·.dst) from rfl, ← hf]
  refine step_lone_go ?_
  rw [stG_op ho hw hd]
  simp [stepG.apply, hr]

theorem st_op_enter {f : FuncId} {args : Array Value} {w' : World} (ho : ops[i]? = some o) (hw : Region.wanted o (yielded ops tm) = true) (hd : ∀ c, o.op ≠ .defer c)
    (hr : (execOp (evalT tm) o).run P w = .ok (.enter f args) w') :
    step P (lone (on b tm df (.inRegion ops (i :: rest) :: k)) cs w) = .next (lone (Frame.enter P f args .normal) (on b tm df (.inRegion ops (i :: rest) :: k) :: cs) w') := by
  refine step_lone_go ?_
  rw [stG_op ho hw hd]
  simp [stepG.apply, hr, on]

theorem st_op_round {l : Nat} {f : FuncId} {tmps : Array Value} {assign body : Code} {w' : World} (ho : ops[i]? = some o) (hw : Region.wanted o (yielded ops tm) = true) (hd : ∀ c, o.op ≠ .defer c)
    (hr : (execOp (evalT tm) o).run P w = .ok (.round l f tmps assign body) w') :
    step P (lone (on b tm df (.inRegion ops (i :: rest) :: k)) cs w) = .next (lone (Frame.round l f tmps assign body .normal) (on b tm df (.inRegion ops (i :: rest) :: k) :: cs) w') := by
  refine step_lone_go ?_
  rw [stG_op ho hw hd]
  simp [stepG.apply, hr, on]
end steps

/-- How a piece of code is left. -/
inductive Ex where
  | normal
  | exit (i : Nat)
  | ret

def Reach (P : Program) (m : Machine) (b : Frame) (k : List Item) (cs : List Frame) (tm : Array Value) (df : List Deferred) (w : World) : Ex → Prop
  | .normal => Steps P m (lone (on b tm df k) cs w)
  | .exit i => ∃ k', exitTo i k' = exitTo i k ∧ Steps P m (lone (on b tm df (.code (.exit i) :: k')) cs w)
  | .ret => ∃ k', Steps P m (lone (on b tm df (.code .ret :: k')) cs w)

theorem Reach.of_steps {P : Program} {m m₁ : Machine} {b : Frame} {k : List Item} {cs : List Frame} {tm : Array Value} {df : List Deferred} {w : World} {e : Ex}
    (h : Steps P m m₁) (h' : Reach P m₁ b k cs tm df w e) : Reach P m b k cs tm df w e := by
  cases e with
  | normal => exact h.trans h'
  | exit i => obtain ⟨k', a, s⟩ := h'; exact ⟨k', a, h.trans s⟩
  | ret => obtain ⟨k', s⟩ := h'; exact ⟨k', h.trans s⟩

/-- No range over a function in it. -/
def noRF : Code → Bool
  | .rangeFunc _ _ _ _ => false
  | .seq x y | .cond _ x y => noRF x && noRF y
  | .block _ c | .loop c | .scope c => noRF c
  | _ => true

/-- The frames that a piece of code may be carried out in: a function's own; a round's, if there is no further range over a function. -/
def FrOk (b : Frame) (c : Code) : Prop := b.roundOf = none ∨ noRF c = true

theorem FrOk.l {b : Frame} {x y : Code} (h : FrOk b (.seq x y)) : FrOk b x := h.imp id fun h => by simp only [noRF, Bool.and_eq_true] at h; exact h.1
theorem FrOk.r {b : Frame} {x y : Code} (h : FrOk b (.seq x y)) : FrOk b y := h.imp id fun h => by simp only [noRF, Bool.and_eq_true] at h; exact h.2
theorem FrOk.if_ {b : Frame} {o : Operand} {x y : Code} {t : Bool} (h : FrOk b (.cond o x y)) : FrOk b (if t then x else y) := h.imp id fun h => by simp only [noRF, Bool.and_eq_true] at h; cases t; exact h.2; exact h.1

def CodeTo (P : Program) (c : Code) (tm : Array Value) (df : List Deferred) (w : World) (R : Ex → Array Value → List Deferred → World → Prop) : Prop :=
  ∀ (b : Frame) (_ : FrOk b c) (k : List Item) (cs : List Frame), ∃ e tm' df' w', R e tm' df' w' ∧ Reach P (lone (on b tm df (.code c :: k)) cs w) b k cs tm' df' w' e

section rules
variable {P : Program} {tm : Array Value} {df : List Deferred} {w : World} {R R' : Ex → Array Value → List Deferred → World → Prop}

theorem CodeTo.mono {c : Code} (h : CodeTo P c tm df w R) (hr : ∀ e tm df w, R e tm df w → R' e tm df w) : CodeTo P c tm df w R' :=
  fun b hb k cs => let ⟨e, tm', df', w', r, s⟩ := h b hb k cs; ⟨e, tm', df', w', hr _ _ _ _ r, s⟩

theorem CodeTo.skip (h : R .normal tm df w) : CodeTo P .skip tm df w R := fun _ _ _ _ => ⟨.normal, tm, df, w, h, .one st_skip⟩
theorem CodeTo.label {l : Nat} (h : R .normal tm df w) : CodeTo P (.label l) tm df w R := fun _ _ _ _ => ⟨.normal, tm, df, w, h, .one st_label⟩
theorem CodeTo.exit {i : Nat} (h : R (.exit i) tm df w) : CodeTo P (.exit i) tm df w R := fun _ _ k _ => ⟨.exit i, tm, df, w, h, k, rfl, .refl _ _⟩
theorem CodeTo.ret (h : R .ret tm df w) : CodeTo P .ret tm df w R := fun _ _ k _ => ⟨.ret, tm, df, w, h, k, .refl _ _⟩

theorem CodeTo.seq {x y : Code} (h : CodeTo P x tm df w fun e tm df w => match e with | .normal => CodeTo P y tm df w R | e => R e tm df w) : CodeTo P (.seq x y) tm df w R := by
  intro b hb k cs
  obtain ⟨e, tm₁, df₁, w₁, hq, hr⟩ := h b hb.l (.code y :: k) cs
  cases e with
  | normal =>
    obtain ⟨e₂, tm₂, df₂, w₂, hq₂, hr₂⟩ := hq b hb.r k cs
    exact ⟨e₂, tm₂, df₂, w₂, hq₂, .of_steps (.head st_seq hr) hr₂⟩
  | exit i =>
    obtain ⟨k', hk, s⟩ := hr
    exact ⟨.exit i, tm₁, df₁, w₁, hq, k', hk.trans (by simp [exitTo]), .head st_seq s⟩
  | ret =>
    obtain ⟨k', s⟩ := hr
    exact ⟨.ret, tm₁, df₁, w₁, hq, k', .head st_seq s⟩

theorem CodeTo.cond {c : Operand} {x y : Code} {t : Bool} (hc : evalT tm c = .bool t) (h : CodeTo P (if t then x else y) tm df w R) : CodeTo P (.cond c x y) tm df w R :=
  fun b hb k cs => let ⟨e, tm', df', w', q, r⟩ := h b hb.if_ k cs; ⟨e, tm', df', w', q, .of_steps (.one (st_cond hc)) r⟩

theorem CodeTo.block {i : Nat} {c : Code} (h : CodeTo P c tm df w fun e tm df w => match e with
      | .exit j => if j = i then R .normal tm df w else R (.exit j) tm df w
      | e => R e tm df w) : CodeTo P (.block i c) tm df w R := by
  intro b hb k cs
  obtain ⟨e, tm₁, df₁, w₁, hq, hr⟩ := h b hb (.inBlock i :: k) cs
  cases e with
  | normal => exact ⟨.normal, tm₁, df₁, w₁, hq, .head st_block (Steps.trans hr (.one st_inBlock))⟩
  | exit j =>
    obtain ⟨k', hk, s⟩ := hr
    by_cases hij : j = i
    · subst hij
      simp only [if_true] at hq
      refine ⟨.normal, tm₁, df₁, w₁, hq, .head st_block (Steps.trans s (.one (st_exit ?_)))⟩
      rw [hk]; simp [exitTo]
    · simp only [hij, if_false] at hq
      refine ⟨.exit j, tm₁, df₁, w₁, hq, k', ?_, .head st_block s⟩
      rw [hk]
      have : (i == j) = false := by simp; exact fun h => hij h.symm
      simp [exitTo, this]
  | ret =>
    obtain ⟨k', s⟩ := hr
    exact ⟨.ret, tm₁, df₁, w₁, hq, k', .head st_block s⟩

theorem CodeTo.scope {c : Code} (h : CodeTo P c tm df w R) : CodeTo P (.scope c) tm df w R := by
  intro b hb k cs
  obtain ⟨e, tm₁, df₁, w₁, hq, hr⟩ := h b hb (.inScope c :: k) cs
  cases e with
  | normal => exact ⟨.normal, tm₁, df₁, w₁, hq, .head st_scope (Steps.trans hr (.one st_inScope))⟩
  | exit j =>
    obtain ⟨k', hk, s⟩ := hr
    exact ⟨.exit j, tm₁, df₁, w₁, hq, k', by rw [hk]; simp [exitTo], .head st_scope s⟩
  | ret =>
    obtain ⟨k', s⟩ := hr
    exact ⟨.ret, tm₁, df₁, w₁, hq, k', .head st_scope s⟩

/-- A loop: by any well-founded descent. 'I' holds at the head of each round. -/
theorem CodeTo.loop {c : Code} (I : Nat → Array Value → List Deferred → World → Prop) {n : Nat} (h0 : I n tm df w)
    (round : ∀ n tm df w, I n tm df w → CodeTo P c tm df w fun e tm' df' w' => match e with
      | .normal => ∃ m, m < n ∧ I m tm' df' w'
      | e => R e tm' df' w') : CodeTo P (.loop c) tm df w R := by
  intro b hb k cs
  have key : ∀ n tm df w, I n tm df w → ∃ e tm' df' w', R e tm' df' w' ∧ Reach P (lone (on b tm df (.code c :: .inLoop c :: k)) cs w) b k cs tm' df' w' e := by
    intro n
    induction n using Nat.strongRecOn with
    | _ n ih =>
      intro tm df w hI
      obtain ⟨e, tm₁, df₁, w₁, hq, hr⟩ := round n tm df w hI b hb (.inLoop c :: k) cs
      cases e with
      | normal =>
        obtain ⟨m, hm, hI₁⟩ := hq
        obtain ⟨e₂, tm₂, df₂, w₂, hq₂, hr₂⟩ := ih m hm tm₁ df₁ w₁ hI₁
        exact ⟨e₂, tm₂, df₂, w₂, hq₂, .of_steps (Steps.trans hr (.one st_inLoop)) hr₂⟩
      | exit i =>
        obtain ⟨k', hk, s⟩ := hr
        exact ⟨.exit i, tm₁, df₁, w₁, hq, k', by rw [hk]; simp [exitTo], s⟩
      | ret =>
        obtain ⟨k', s⟩ := hr
        exact ⟨.ret, tm₁, df₁, w₁, hq, k', s⟩
  obtain ⟨e, tm', df', w', hq, hr⟩ := key n tm df w h0
  exact ⟨e, tm', df', w', hq, .of_steps (.one st_loop) hr⟩
end rules

/-- The operations of a region in a given order. -/
def OpsTo (P : Program) (ops : Array Oper) (sched : List Nat) (tm : Array Value) (w : World) (R : Array Value → World → Prop) : Prop :=
  ∀ (b : Frame) (df : List Deferred) (k : List Item) (cs : List Frame), ∃ tm' w', R tm' w' ∧
    Steps P (lone (on b tm df (.inRegion ops sched :: k)) cs w) (lone (on b tm' df (.inRegion ops [] :: k)) cs w')

section ops
variable {P : Program} {tm : Array Value} {w : World} {ops : Array Oper} {R : Array Value → World → Prop}

theorem CodeTo.region {i : Nat} {df : List Deferred} {Q : Ex → Array Value → List Deferred → World → Prop} (h : OpsTo P ops (List.range ops.size) tm w fun tm w => Q .normal tm df w) :
    CodeTo P (.region i ops false) tm df w Q :=
  fun b _ k cs => let ⟨tm', w', q, s⟩ := h b df k cs; ⟨.normal, tm', df, w', q, .head st_region (s.trans (.one st_region_end))⟩

theorem CodeTo.region_draw {i : Nat} {df : List Deferred} {Q : Ex → Array Value → List Deferred → World → Prop}
    (h : ∀ t, OpsTo P ops (Region.schedule (P.follows .mixedOrders) ops t) tm { w with drawn := w.drawn + 1 } fun tm w => Q .normal tm df w) :
    CodeTo P (.region i ops true) tm df w Q :=
  fun b _ k cs => let ⟨tm', w', q, s⟩ := h _ b df k cs; ⟨.normal, tm', df, w', q, .head st_region_draw (s.trans (.one st_region_end))⟩

theorem OpsTo.nil (h : R tm w) : OpsTo P ops [] tm w R := fun _ _ _ _ => ⟨tm, w, h, .refl _ _⟩

variable {i : Nat} {rest : List Nat} {o : Oper}
theorem OpsTo.skip (ho : ops[i]? = some o) (hw : Region.wanted o (yielded ops tm) = false) (h : OpsTo P ops rest (putV tm o.dst undef) w R) : OpsTo P ops (i :: rest) tm w R :=
  fun b df k cs => let ⟨tm', w', r, s⟩ := h b df k cs; ⟨tm', w', r, .head (st_op_skip ho hw) s⟩

theorem OpsTo.value {v : Value} {w' : World} (ho : ops[i]? = some o) (hw : Region.wanted o (yielded ops tm) = true) (hd : ∀ c, o.op ≠ .defer c)
    (hr : (execOp (evalT tm) o).run P w = .ok (.value v) w') (h : OpsTo P ops rest (putV tm o.dst v) w' R) : OpsTo P ops (i :: rest) tm w R :=
  fun b df k cs => let ⟨tm', w', r, s⟩ := h b df k cs; ⟨tm', w', r, .head (st_op_value ho hw hd hr) s⟩

theorem OpsTo.unit {w' : World} (ho : ops[i]? = some o) (hw : Region.wanted o (yielded ops tm) = true) (hd : ∀ c, o.op ≠ .defer c)
    (hr : (execOp (evalT tm) o).run P w = .ok .skip w') (h : OpsTo P ops rest (putV tm o.dst undef) w' R) : OpsTo P ops (i :: rest) tm w R :=
  fun b df k cs => let ⟨tm', w', r, s⟩ := h b df k cs; ⟨tm', w', r, .head (st_op_unit ho hw hd hr) s⟩

/-- What a call gives back, to whatever frame called: through a function's body or a round. -/
def CallTo (P : Program) (nx : Next) (w : World) (R : Value → World → Prop) : Prop :=
  (∃ f args, nx = .enter f args ∧ Calls P f args w fun e w' => ∃ v, e = .returned v ∧ R v w') ∨
  (∃ l f tmps assign body, nx = .round l f tmps assign body ∧ ∀ c cs, ∃ v w', R v w' ∧ Steps P (lone (Frame.round l f tmps assign body .normal) (c :: cs) w) (lone (c.finish v) cs w'))

theorem OpsTo.call {nx : Next} {w' : World} (ho : ops[i]? = some o) (hw : Region.wanted o (yielded ops tm) = true) (hd : ∀ c, o.op ≠ .defer c)
    (hr : (execOp (evalT tm) o).run P w = .ok nx w') (h : CallTo P nx w' fun v w'' => OpsTo P ops rest (putV tm o.dst v) w'' R) : OpsTo P ops (i :: rest) tm w R := by
  intro b df k cs
  have hf := fun v => finish_on (b := b) (tm := tm) (df := df) (k := k) ops i rest v
  rw [ho] at hf
  rcases h with ⟨f, args, rfl, h⟩ | ⟨l, f, tmps, assign, body, rfl, h⟩
  · obtain ⟨e, w₁, fr, ⟨v, rfl, hR⟩, hcomes, _, hleave⟩ := h (on b tm df (.inRegion ops (i :: rest) :: k) :: cs)
    obtain ⟨tm', w₂, r, s⟩ := hR b df k cs
    refine ⟨tm', w₂, r, .head (st_op_enter ho hw hd hr) (Steps.trans hcomes (.head (step_leave_returned hleave) ?_))⟩
    rw [hf]; exact s
  · obtain ⟨v, w₁, hR, hst⟩ := h (on b tm df (.inRegion ops (i :: rest) :: k)) cs
    obtain ⟨tm', w₂, r, s⟩ := hR b df k cs
    refine ⟨tm', w₂, r, .head (st_op_round ho hw hd hr) (Steps.trans hst ?_)⟩
    rw [hf]; exact s
end ops
end Go.V

/- The logic V, part 4: the judgements for code and functions, and their structural rules. -/
namespace Go.V

def markOf (r : Nat) : Deferred := { target := .collected r, args := #[] }

/-- The marks that ranges over functions have left since the heap had B blocks, the youngest first. -/
structure Marks (B : Nat) (w : World) (rs : List Nat) : Prop where
  desc : rs.Pairwise (· > ·)
  ge : ∀ r ∈ rs, B ≤ r ∧ w.heap[r]? = some (.deferred (some []))

structure Nxt (N : Nat) (w : World) (g : Gh) (H : Hp) (df : List Deferred) (w' : World) (g' : Gh) (H' : Hp) (df' : List Deferred) : Prop where
  ev : Ev N w g (Lof g H) w' g' (Lof g' H')
  hrel : HRel w' g' H'
  len : N ≤ H'.length
  marks : ∃ rs, df' = rs.map markOf ++ df ∧ Marks w.heap.size w' rs

section
variable {w w1 w2 w' : World} {g g1 g2 g' : Gh} {H H1 H2 H' : Hp} {df df1 df2 df' : List Deferred} {N M : Nat}

theorem not_Lof_of_deferred (h : HRel w g H) {r : Nat} {x : Option (List Deferred)} (hr : w.heap[r]? = some (.deferred x)) : ¬ Lof g H r := by
  rintro ⟨b, y, base, hb, hρ⟩
  cases y with
  | cells cs =>
    obtain ⟨k, base', c, e, hρ', hk, _⟩ := h.blk b cs hb
    rw [hρ] at hρ'
    simp only [Option.some.injEq, Prod.mk.injEq] at hρ'
    rw [← hρ'.1, hr] at hk
    cases hk
  | loop r' F =>
    obtain ⟨k, hρ', hk, _⟩ := h.loop b r' F hb
    rw [hρ] at hρ'
    simp only [Option.some.injEq, Prod.mk.injEq] at hρ'
    rw [← hρ'.1, hr] at hk
    cases hk

theorem Marks.keep {B : Nat} {rs : List Nat} {L' : Nat → Prop} (m : Marks B w rs) (h : HRel w g H) (e : Ev N w g (Lof g H) w' g' L') : Marks B w' rs :=
  ⟨m.desc, fun r hr => by
    have hlt : r < w.heap.size := (Array.getElem?_eq_some_iff.1 (m.ge r hr).2).1
    exact ⟨(m.ge r hr).1, (e.keep r hlt (not_Lof_of_deferred h (m.ge r hr).2)).trans (m.ge r hr).2⟩⟩

theorem Nxt.refl (h : HRel w g H) (hN : N ≤ H.length) : Nxt N w g H df w g H df := ⟨.refl _ _ _ _, h, hN, [], by simp, ⟨.nil, by simp⟩⟩

theorem Nxt.trans (a : Nxt N w g H df w1 g1 H1 df1) (b : Nxt N w1 g1 H1 df1 w2 g2 H2 df2) : Nxt N w g H df w2 g2 H2 df2 := by
  refine ⟨a.ev.trans b.ev, b.hrel, b.len, ?_⟩
  obtain ⟨r1, e1, m1⟩ := a.marks
  obtain ⟨r2, e2, m2⟩ := b.marks
  refine ⟨r2 ++ r1, by rw [e2, e1]; simp, ?_, ?_⟩
  · refine List.pairwise_append.2 ⟨m2.desc, m1.desc, fun x hx y hy => ?_⟩
    have h1 := (m2.ge x hx).1
    have h2 : y < w1.heap.size := (Array.getElem?_eq_some_iff.1 (m1.ge y hy).2).1
    omega
  · intro r hr
    rcases List.mem_append.1 hr with h | h
    · exact ⟨Nat.le_trans a.ev.size (m2.ge r h).1, (m2.ge r h).2⟩
    · exact (m1.keep a.hrel b.ev).ge r h

theorem Nxt.same_df (e : Ev N w g (Lof g H) w' g' (Lof g' H')) (h : HRel w' g' H') (hl : N ≤ H'.length) : Nxt N w g H df w' g' H' df := ⟨e, h, hl, [], by simp, ⟨.nil, by simp⟩⟩
end

abbrev Post := Ex → Fr → Hp → Prop

/-- Code: from every state that the frame and the heap describe the machine comes to one that Q describes. n: the number of slots; N: how many of the heap's blocks belong to the outside. -/
def W (P : Program) (n N : Nat) (c : Code) (Q : Post) (F : Fr) (H : Hp) : Prop :=
  ∀ (w : World) (g : Gh) (tm : Array Value) (df : List Deferred), HRel w g H → FRel w g F tm → tm.size = n → N ≤ H.length →
    CodeTo P c tm df w fun e tm' df' w' => ∃ F' H' g', Q e F' H' ∧ Nxt N w g H df w' g' H' df' ∧ FRel w' g' F' tm' ∧ tm'.size = n

/-- A function with a Go body. -/
def Enters (P : Program) (f : FuncId) : Prop := ∀ (args : Array Value) (w : World), (callFunc f args).run P w = .ok (.enter f args) w

def FnTo (P : Program) (f : FuncId) (args : List D) (H : Hp) (R : D → Hp → Prop) : Prop :=
  Enters P f ∧ ∀ (w : World) (g : Gh) (vs : List Value), HRel w g H → RepL w g args vs → Calls P f vs.toArray w fun e w' =>
    ∃ v d H' g', e = .returned v ∧ R d H' ∧ Ev H.length w g (Lof g H) w' g' (Lof g' H') ∧ HRel w' g' H' ∧ H.length ≤ H'.length ∧ Rep w' g' d v

section rules
variable {P : Program} {n N : Nat} {Q Q' : Post} {F F' : Fr} {H H' : Hp}

theorem W.mono {c : Code} (h : W P n N c Q F H) (hq : ∀ e F H, Q e F H → Q' e F H) : W P n N c Q' F H :=
  fun w g tm df a b hs hl => (h w g tm df a b hs hl).mono fun _ _ _ _ ⟨F', H', g', q, r⟩ => ⟨F', H', g', hq _ _ _ q, r⟩

theorem W.skip (h : Q .normal F H) : W P n N .skip Q F H := fun _ _ _ _ a b hs hl => .skip ⟨F, H, _, h, .refl a hl, b, hs⟩
theorem W.label {l : Nat} (h : Q .normal F H) : W P n N (.label l) Q F H := fun _ _ _ _ a b hs hl => .label ⟨F, H, _, h, .refl a hl, b, hs⟩
theorem W.exit {i : Nat} (h : Q (.exit i) F H) : W P n N (.exit i) Q F H := fun _ _ _ _ a b hs hl => .exit ⟨F, H, _, h, .refl a hl, b, hs⟩
theorem W.ret (h : Q .ret F H) : W P n N .ret Q F H := fun _ _ _ _ a b hs hl => .ret ⟨F, H, _, h, .refl a hl, b, hs⟩

/-- What follows 'x' in a sequence. -/
def thenQ (P : Program) (n N : Nat) (y : Code) (Q : Post) : Post
  | .normal, F, H => W P n N y Q F H
  | e, F, H => Q e F H

theorem W.seq {x y : Code} (h : W P n N x (thenQ P n N y Q) F H) : W P n N (.seq x y) Q F H := by
  intro w g tm df a b hs hl
  refine .seq ((h w g tm df a b hs hl).mono fun e tm1 df1 w1 ⟨F1, H1, g1, q, nx, fr, sz⟩ => ?_)
  cases e with
  | normal => exact (q w1 g1 tm1 df1 nx.hrel fr sz nx.len).mono fun e tm2 df2 w2 ⟨F2, H2, g2, q2, nx2, fr2, sz2⟩ => ⟨F2, H2, g2, q2, nx.trans nx2, fr2, sz2⟩
  | exit i => exact ⟨F1, H1, g1, q, nx, fr, sz⟩
  | ret => exact ⟨F1, H1, g1, q, nx, fr, sz⟩

def blockQ (i : Nat) (Q : Post) : Post
  | .exit j, F, H => bif Nat.beq j i then Q .normal F H else Q (.exit j) F H
  | e, F, H => Q e F H

theorem W.block {i : Nat} {c : Code} (h : W P n N c (blockQ i Q) F H) : W P n N (.block i c) Q F H := by
  intro w g tm df a b hs hl
  refine .block ((h w g tm df a b hs hl).mono fun e tm1 df1 w1 ⟨F1, H1, g1, q, r⟩ => ?_)
  cases e with
  | normal => exact ⟨F1, H1, g1, q, r⟩
  | exit j =>
    simp only [blockQ] at q
    by_cases hj : j = i
    · subst hj
      have : Nat.beq j j = true := Nat.beq_refl j
      rw [this] at q
      simp only [if_true]
      exact ⟨F1, H1, g1, q, r⟩
    · have : Nat.beq j i = false := by cases hb : Nat.beq j i; rfl; exact absurd (Nat.eq_of_beq_eq_true hb) hj
      rw [this] at q
      simp only [hj, if_false]
      exact ⟨F1, H1, g1, q, r⟩
  | ret => exact ⟨F1, H1, g1, q, r⟩

theorem W.scope {c : Code} (h : W P n N c Q F H) : W P n N (.scope c) Q F H :=
  fun w g tm df a b hs hl => .scope (h w g tm df a b hs hl)

theorem evalT_of {w : World} {g : Gh} {F : Fr} {tm : Array Value} (hF : FRel w g F tm) {x : Operand} {d : D} (h : F.eval x = some d) : Rep w g d (evalT tm x) := by
  cases x with
  | tmp t =>
    obtain ⟨v, hv, hr⟩ := hF t d h
    simp only [evalT, Array.getD_eq_getD_getElem?, hv, Option.getD_some]
    exact hr
  | const v =>
    simp only [Fr.eval] at h
    simp only [evalT]
    have scalar : ∀ {v : Value} {d : D}, ofScalar v = some d → Rep w g d v ∧ d.one = true := by
      intro v d h
      unfold ofScalar at h
      split at h <;> first | (cases h; exact ⟨by constructor, rfl⟩) | (cases h)
    have scalars : ∀ {vs : List Value} {ds : List D}, ofScalars vs = some ds → vs.length = ds.length ∧ (∀ d ∈ ds, d.one = true) ∧ ∀ (i : Nat) (d : D) (v : Value), ds[i]? = some d → vs[i]? = some v → Rep w g d v := by
      intro vs
      induction vs with
      | nil => intro ds h; simp only [ofScalars, Option.some.injEq] at h; subst h; exact ⟨rfl, by simp, by simp⟩
      | cons v r ih =>
        intro ds h
        simp only [ofScalars] at h
        split at h
        · rename_i d' ds' h1 h2
          cases h
          obtain ⟨hl, h1', hr⟩ := ih h2
          obtain ⟨hs, ho⟩ := scalar h1
          refine ⟨by simp [hl], ?_, ?_⟩
          · intro x hx
            rcases List.mem_cons.1 hx with rfl | hx
            · exact ho
            · exact h1' x hx
          · intro i x y hx hy
            cases i with
            | zero => simp only [List.getElem?_cons_zero, Option.some.injEq] at hx hy; subst hx; subst hy; exact hs
            | succ i => exact hr i x y (by simpa using hx) (by simpa using hy)
        · cases h
    unfold ofVal at h
    split at h
    · rename_i cs
      split at h
      · rename_i ds hds
        cases h
        obtain ⟨hl, h1, hr⟩ := scalars hds
        exact .agg (by simpa using hl) h1 (fun i d v hd hv => hr i d v hd (by simpa using hv))
      · cases h
    · rename_i cs
      split at h
      · rename_i ds hds
        cases h
        obtain ⟨hl, h1, hr⟩ := scalars hds
        exact .tup (by simpa using hl) (fun i d v hd hv => hr i d v hd (by simpa using hv))
      · cases h
    · exact (scalar h).1
  | func f =>
    simp only [Fr.eval, Option.some.injEq] at h
    subst h
    exact .fn (by simp) (by simp)
  | global g => simp [Fr.eval] at h

theorem W.cond {c : Operand} {x y : Code} {b : Bool} (hc : F.eval c = some (.bool b)) (ht : b = true → W P n N x Q F H) (hf : b = false → W P n N y Q F H) : W P n N (.cond c x y) Q F H := by
  intro w g tm df a hF hs hl
  have hr := evalT_of hF hc
  have he : evalT tm c = .bool b := by
    generalize evalT tm c = v at hr
    cases hr; rfl
  refine .cond he ?_
  cases b with
  | true => exact ht rfl w g tm df a hF hs hl
  | false => exact hf rfl w g tm df a hF hs hl

theorem W.cond_dec {c : Operand} {x y : Code} {p : Prop} {i : Decidable p} (hc : F.eval c = some (.bool (decide p))) (ht : p → W P n N x Q F H) (hf : ¬ p → W P n N y Q F H) : W P n N (.cond c x y) Q F H :=
  .cond hc (fun h => ht (of_decide_eq_true h)) (fun h => hf (of_decide_eq_false h))

theorem W.cond_ndec {c : Operand} {x y : Code} {p : Prop} {i : Decidable p} (hc : F.eval c = some (.bool (!decide p))) (ht : ¬ p → W P n N x Q F H) (hf : p → W P n N y Q F H) : W P n N (.cond c x y) Q F H :=
  .cond hc (fun h => ht (by simpa using h)) (fun h => hf (by simpa using h))

def loopQ {α : Type} (μ : α → Nat) (a : α) (I : α → Fr → Hp → Prop) (Q : Post) : Post
  | .normal, F, H => ∃ a', μ a' < μ a ∧ I a' F H
  | e, F, H => Q e F H

theorem W.loop {c : Code} {α : Type} (μ : α → Nat) (I : α → Fr → Hp → Prop) (a0 : α) (h0 : I a0 F H)
    (round : ∀ a F H, I a F H → W P n N c (loopQ μ a I Q) F H) : W P n N (.loop c) Q F H := by
  intro w g tm df hH hF hs hl
  refine .loop (fun m tm1 df1 w1 => ∃ a F1 H1 g1, μ a = m ∧ I a F1 H1 ∧ Nxt N w g H df w1 g1 H1 df1 ∧ FRel w1 g1 F1 tm1 ∧ tm1.size = n) (n := μ a0)
    ⟨a0, F, H, g, rfl, h0, .refl hH hl, hF, hs⟩ ?_
  rintro m tm1 df1 w1 ⟨a, F1, H1, g1, rfl, hI, nx, fr, sz⟩
  refine ((round a F1 H1 hI) w1 g1 tm1 df1 nx.hrel fr sz nx.len).mono fun e tm2 df2 w2 ⟨F2, H2, g2, q, nx2, fr2, sz2⟩ => ?_
  cases e with
  | normal =>
    obtain ⟨a', hlt, hI'⟩ := q
    exact ⟨μ a', hlt, a', F2, H2, g2, rfl, hI', nx.trans nx2, fr2, sz2⟩
  | exit i => exact ⟨F2, H2, g2, q, nx.trans nx2, fr2, sz2⟩
  | ret => exact ⟨F2, H2, g2, q, nx.trans nx2, fr2, sz2⟩

/-- G tells no more than F. -/
def Fr.le (G F : Fr) : Prop := ∀ t d, G.get t = some d → F.get t = some d

def Fr.sub : Fr → Fr → Prop
  | [], _ => True
  | (t, d) :: G, F => F.get t = some d ∧ Fr.sub G F

theorem Fr.sub_le {G F : Fr} (h : G.sub F) : G.le F := by
  induction G with
  | nil => intro t d h; cases h
  | cons x G ih =>
    obtain ⟨t, d⟩ := x
    intro u e hu
    simp only [Fr.get] at hu
    cases hb : Nat.beq t u with
    | true =>
      rw [hb] at hu
      simp only [cond_true, Option.some.injEq] at hu
      subst hu
      have : t = u := Nat.eq_of_beq_eq_true hb
      subst this
      exact h.1
    | false =>
      rw [hb] at hu
      exact ih h.2 u e hu

theorem W.weaken {c : Code} {G : Fr} (hle : G.sub F) (h : W P n N c Q G H) : W P n N c Q F H :=
  fun w g tm df a b hs hl => h w g tm df a (fun t d hd => b t d (Fr.sub_le hle t d hd)) hs hl

/-- A loop over states: at the head of each round the frame tells at least 'Fs a' and the heap is 'Hs a'. -/
theorem W.loopS {c : Code} {α : Type} (C : α → Prop) (μ : α → Nat) (Fs : α → Fr) (Hs : α → Hp) (a0 : α) (hc : C a0) (hF : (Fs a0).sub F) (hH : H = Hs a0)
    (round : ∀ a, C a → W P n N c (loopQ μ a (fun a F H => C a ∧ (Fs a).sub F ∧ H = Hs a) Q) (Fs a) (Hs a)) : W P n N (.loop c) Q F H := by
  refine .loop μ (fun a F H => C a ∧ (Fs a).sub F ∧ H = Hs a) a0 ⟨hc, hF, hH⟩ ?_
  rintro a F1 H1 ⟨h1, h2, rfl⟩
  exact (round a h1).weaken h2

def belFr (m : Nat) : Fr → Prop
  | [] => True
  | (_, d) :: F => Bel m d ∧ belFr m F

theorem belFr_get {m : Nat} {F : Fr} (h : belFr m F) {t : Nat} {d : D} (hd : F.get t = some d) : Bel m d := by
  induction F with
  | nil => cases hd
  | cons x F ih =>
    obtain ⟨u, e⟩ := x
    simp only [Fr.get] at hd
    cases hb : Nat.beq u t with
    | true => rw [hb] at hd; simp only [cond_true, Option.some.injEq] at hd; subst hd; exact h.1
    | false => rw [hb] at hd; exact ih h.2 hd

def belHp (m : Nat) : Hp → Prop
  | [] => True
  | none :: H => belHp m H
  | some (.cells cs) :: H => (∀ d ∈ cs, Bel m d) ∧ belHp m H
  | some (.loop _ F) :: H => belFr m F ∧ belHp m H

theorem belHp_cells {m : Nat} {H : Hp} (h : belHp m H) {b : Nat} {cs : List D} (hb : H[b]? = some (some (.cells cs))) : ∀ d ∈ cs, Bel m d := by
  induction H generalizing b with
  | nil => cases hb
  | cons x H ih =>
    cases b with
    | zero =>
      simp only [List.getElem?_cons_zero, Option.some.injEq] at hb
      subst hb
      exact h.1
    | succ b =>
      simp only [List.getElem?_cons_succ] at hb
      cases x with
      | none => exact ih h hb
      | some x => cases x with
        | cells c => exact ih h.2 hb
        | loop r F => exact ih h.2 hb

theorem belHp_loop {m : Nat} {H : Hp} (h : belHp m H) {b : Nat} {r : Loop} {F : Fr} (hb : H[b]? = some (some (.loop r F))) : belFr m F := by
  induction H generalizing b with
  | nil => cases hb
  | cons x H ih =>
    cases b with
    | zero =>
      simp only [List.getElem?_cons_zero, Option.some.injEq] at hb
      subst hb
      exact h.1
    | succ b =>
      simp only [List.getElem?_cons_succ] at hb
      cases x with
      | none => exact ih h hb
      | some x => cases x with
        | cells c => exact ih h.2 hb
        | loop r F => exact ih h.2 hb

theorem get_append_left {H1 G : Hp} {b : Nat} {x : Option Blk} (h : H1[b]? = some x) : (H1 ++ G)[b]? = some x := by
  have hb : b < H1.length := (List.getElem?_eq_some_iff.1 h).1
  rw [List.getElem?_append_left hb]; exact h

def Gh.cut (g : Gh) (m : Nat) : Gh := { S := g.S, ρ := fun b => if b < m then g.ρ b else none }

theorem Rep.cut {w : World} {g : Gh} {m : Nat} {d : D} {v : Value} (h : Rep w g d v) (hb : Bel m d) : Rep w (g.cut m) d v :=
  Rep.bel (g := g) (g' := g.cut m) (fun _ h => h) (fun b hb => by simp [Gh.cut, hb]) h hb

/-- Blocks at the heap's end are let go, if nothing that stays leads to them. -/
theorem HRel.trunc {w : World} {g : Gh} {H1 G : Hp} (h : HRel w g (H1 ++ G)) (hb : belHp H1.length H1) :
    HRel w (g.cut H1.length) H1 := by
  refine ⟨h.scell, ?_, fun b hb => by simp [Gh.cut, Nat.not_lt.2 hb], ?_, ?_, ?_⟩
  · rintro k hk ⟨b, x, base, hb, hr⟩
    have hlt : b < H1.length := (List.getElem?_eq_some_iff.1 hb).1
    simp only [Gh.cut, hlt, if_true] at hr
    exact h.sL k hk ⟨b, x, base, get_append_left hb, hr⟩
  · intro b cs hc
    have hlt : b < H1.length := (List.getElem?_eq_some_iff.1 hc).1
    obtain ⟨k, base, c, e, h1, h2, h3, h4, h5⟩ := h.blk b cs (get_append_left hc)
    refine ⟨k, base, c, e, by simp [Gh.cut, hlt, h1], h2, h3, h4, fun i d hd => ?_⟩
    obtain ⟨v, hv, hr⟩ := h5 i d hd
    exact ⟨v, hv, hr.cut (belHp_cells hb hc d (List.mem_of_getElem? hd))⟩
  · intro b r F hc
    have hlt : b < H1.length := (List.getElem?_eq_some_iff.1 hc).1
    obtain ⟨k, h1, h2, h3⟩ := h.loop b r F (get_append_left hc)
    refine ⟨k, by simp [Gh.cut, hlt, h1], h2, fun t d hd => ?_⟩
    obtain ⟨v, hv, hr⟩ := h3 t d hd
    exact ⟨v, hv, hr.cut (belFr_get (belHp_loop hb hc) hd)⟩
  · intro b b' k base base' x x' hx hx' hr hr'
    have hlt : b < H1.length := (List.getElem?_eq_some_iff.1 hx).1
    have hlt' : b' < H1.length := (List.getElem?_eq_some_iff.1 hx').1
    simp only [Gh.cut, hlt, hlt', if_true] at hr hr'
    exact h.inj b b' k base base' x x' (get_append_left hx) (get_append_left hx') hr hr'

theorem W.trunc {c : Code} {H1 G : Hp} (hN : N ≤ H1.length) (hb : belHp H1.length H1) (hf : belFr H1.length F) (h : W P n N c Q F H1) : W P n N c Q F (H1 ++ G) := by
  intro w g tm df a hF hs hl
  have a' := a.trunc hb
  have hF' : FRel w (g.cut H1.length) F tm := fun t d hd =>
    let ⟨v, hv, hr⟩ := hF t d hd
    ⟨v, hv, hr.cut (belFr_get hf hd)⟩
  refine (h w _ tm df a' hF' hs hN).mono fun e tm1 df1 w1 ⟨F1, H2, g1, q, nx, fr, sz⟩ => ⟨F1, H2, g1, q, ?_, fr, sz⟩
  have hL : ∀ k, Lof (g.cut H1.length) H1 k → Lof g (H1 ++ G) k := by
    rintro k ⟨b, x, base, hx, hr⟩
    have hlt : b < H1.length := (List.getElem?_eq_some_iff.1 hx).1
    simp only [Gh.cut, hlt, if_true] at hr
    exact ⟨b, x, base, get_append_left hx, hr⟩
  refine ⟨⟨nx.ev.os, nx.ev.tape, nx.ev.output, nx.ev.size, fun k hk hn => nx.ev.keep k hk (fun h => hn (hL k h)), nx.ev.shape, nx.ev.s1, fun k hk => ?_, fun k hk => ?_, fun b hb => ?_⟩, nx.hrel, nx.len, nx.marks⟩
  · rcases nx.ev.s2 k hk with h | h | h
    · exact .inl h
    · exact .inr (.inl (hL k h))
    · exact .inr (.inr h)
  · rcases nx.ev.l2 k hk with h | h
    · exact .inl (hL k h)
    · exact .inr h
  · rw [nx.ev.ρ b hb]; simp [Gh.cut, Nat.lt_of_lt_of_le hb hN]
end rules
end Go.V

/- The logic V, part 5: functions: from a body's judgement to a call's, and what calls give their callers. -/
namespace Go.V

def argsFr : Nat → List D → Fr
  | _, [] => []
  | i, d :: r => (i, d) :: argsFr (i + 1) r

def resL (P : Program) (F : Fr) (H : Hp) : List ResultVar → Option (List D)
  | [] => some []
  | .tmp t :: r => match F.get t, resL P F H r with
    | some d, some ds => some (d :: ds)
    | _, _ => none
  | .cell a t :: r => match F.get a, P.underlying t, tySize P t, resL P F H r with
    | some (.ptr b off), some u, some s, some ds => match H[b]? with
      | some (some (.cells cs)) => bif isAggB u then match takeR cs off s with
          | some x => some (.agg x :: ds)
          | none => none
        else match cs[off]? with
          | some d => some (d :: ds)
          | none => none
      | _ => none
    | _, _, _, _ => none

def resD (P : Program) (rs : List ResultVar) (F : Fr) (H : Hp) : Option D := match resL P F H rs with
  | some [d] => some d
  | some ds => some (.tup ds)
  | none => none

def retQ (P : Program) (fn : Func) (R : D → Hp → Prop) : Post := fun e F H =>
  match e with
  | .exit _ => False
  | _ => ∃ d, resD P fn.results.toList F H = some d ∧ R d H

theorem takeR_spec : ∀ (cs : List D) (o n : Nat) (r : List D), takeR cs o n = some r → r.length = n ∧ ∀ i, i < n → ∃ d, cs[o + i]? = some d ∧ r[i]? = some d
  | cs, 0, 0, r, h => by
    cases cs <;> (simp only [takeR, Option.some.injEq] at h; subst h; exact ⟨rfl, fun i hi => absurd hi (Nat.not_lt_zero i)⟩)
  | [], 0, n + 1, r, h => by simp [takeR] at h
  | c :: cs, 0, n + 1, r, h => by
    simp only [takeR] at h
    split at h
    · rename_i r' hr
      cases h
      obtain ⟨hl, hi⟩ := takeR_spec cs 0 n r' hr
      refine ⟨by simp [hl], fun i hi' => ?_⟩
      cases i with
      | zero => exact ⟨c, by simp, by simp⟩
      | succ i =>
        obtain ⟨d, h1, h2⟩ := hi i (by omega)
        refine ⟨d, ?_, by simpa using h2⟩
        rw [show 0 + (i + 1) = (0 + i) + 1 by omega]
        simpa using h1
    · cases h
  | [], o + 1, n, r, h => by simp [takeR] at h
  | c :: cs, o + 1, n, r, h => by
    simp only [takeR] at h
    obtain ⟨hl, hi⟩ := takeR_spec cs o n r h
    refine ⟨hl, fun i hi' => ?_⟩
    obtain ⟨d, h1, h2⟩ := hi i hi'
    refine ⟨d, ?_, h2⟩
    rw [show o + 1 + i = (o + i) + 1 by omega]
    simpa using h1

theorem isAgg_run (P : Program) (w : World) {t : TypeId} {u : TypeDesc} (hu : P.underlying t = some u) : (isAgg t).run P w = .ok (isAggB u) w := by
  simp only [isAgg, underlying, Sem.run_bind, run_program, Result.andThen_ok, hu]
  cases u <;> rfl

theorem tySize_info {P : Program} {t : TypeId} {s : Nat} (h : tySize P t = some s) : ∃ i, P.info? t = some i ∧ i.size = s := by
  unfold tySize at h
  split at h
  · rename_i i hi; exact ⟨i, hi, by simpa using h⟩
  · cases h

theorem sizeOf_run (P : Program) (w : World) {t : TypeId} {s : Nat} (h : tySize P t = some s) : (sizeOf t).run P w = .ok s w := by
  obtain ⟨i, hi, rfl⟩ := tySize_info h
  simp [sizeOf, typeInfo, hi]

theorem add_none (k base n : Nat) : (⟨k, base, none⟩ : Addr).add n = ⟨k, base + n, none⟩ := by unfold Addr.add; split <;> simp_all

/-- A value read out of cells: one cell, or an aggregate. -/
theorem loadVar_agg (P : Program) (w : World) {t : TypeId} {u : TypeDesc} {s k base : Nat} (hu : P.underlying t = some u) (ha : isAggB u = true) (hs : tySize P t = some s)
    (vs : List Value) (hl : vs.length = s) (hc : ∀ j v, vs[j]? = some v → w.cell? ⟨k, base + j, none⟩ = some v) :
    (loadVar t ⟨k, base, none⟩).run P w = .ok (.agg vs.toArray) w := by
  have := run_loadCells_list (P := P) (w := w) ⟨k, base, none⟩ vs (fun j v hj => by rw [add_none]; exact hc j v hj)
  simp only [loadVar, Sem.run_bind, isAgg_run P w hu, ha, sizeOf_run P w hs, Result.andThen_ok, if_true]
  rw [← hl]
  simp [this]

theorem loadVar_one (P : Program) (w : World) {t : TypeId} {u : TypeDesc} {k base : Nat} (hu : P.underlying t = some u) (ha : isAggB u = false)
    {v : Value} (hc : w.cell? ⟨k, base, none⟩ = some v) : (loadVar t ⟨k, base, none⟩).run P w = .ok v w := by
  simp [loadVar, isAgg_run P w hu, ha, hc]

section
variable {P : Program} {w : World} {g : Gh} {H : Hp} {F : Fr} {tm : Array Value}

/-- Reading from a live block. -/
theorem load_live (hH : HRel w g H) {b off : Nat} {cs : List D} (hb : H[b]? = some (some (.cells cs))) {k base : Nat} (hρ : g.ρ b = some (k, base)) {t : TypeId} {u : TypeDesc} {s : Nat} (hu : P.underlying t = some u) (hs : tySize P t = some s) :
    (isAggB u = true → ∀ r, takeR cs off s = some r → ∃ v, (loadVar t ⟨k, base + off, none⟩).run P w = .ok v w ∧ Rep w g (.agg r) v) ∧
    (isAggB u = false → ∀ d, cs[off]? = some d → ∃ v, (loadVar t ⟨k, base + off, none⟩).run P w = .ok v w ∧ Rep w g d v) := by
  obtain ⟨k', base', c, e, hρ', hk, hsz, hone, hcell⟩ := hH.blk b cs hb
  rw [hρ] at hρ'
  obtain ⟨rfl, rfl⟩ : k = k' ∧ base = base' := by simpa using hρ'
  constructor
  · intro ha r hr
    obtain ⟨hl, hi⟩ := takeR_spec cs off s r hr
    have hv : ∀ i, i < s → ∃ v d, c[base + off + i]? = some v ∧ r[i]? = some d ∧ cs[off + i]? = some d ∧ Rep w g d v := by
      intro i hi'
      obtain ⟨d, h1, h2⟩ := hi i hi'
      obtain ⟨v, h3, h4⟩ := hcell (off + i) d h1
      exact ⟨v, d, by rw [Nat.add_assoc]; exact h3, h2, h1, h4⟩
    refine ⟨.agg ((List.range s).map fun i => (c[base + off + i]?).getD default).toArray, loadVar_agg P w hu ha hs _ (by simp) ?_, ?_⟩
    · intro j v hj
      have hj0 := hj
      rw [List.getElem?_map, List.getElem?_range] at hj
      · simp only [Option.map_some, Option.some.injEq] at hj
        subst hj
        have hjs : j < s := by
          rcases Nat.lt_or_ge j s with h | h
          · exact h
          · rw [List.getElem?_map, List.getElem?_eq_none (by simpa using h)] at hj0; cases hj0
        obtain ⟨v, d, h1, _⟩ := hv j hjs
        simp [World.cell?, hk, h1]
      · rcases Nat.lt_or_ge j s with h | h
        · exact h
        · rw [List.getElem?_map, List.getElem?_eq_none (by simpa using h)] at hj0; cases hj0
    · refine .agg (by simp [hl]) (fun d hd => ?_) ?_
      · obtain ⟨i, hi', rfl⟩ := List.getElem_of_mem hd
        obtain ⟨_, d, _, h2, h3, _⟩ := hv i (by omega)
        have : r[i] = d := by rw [List.getElem?_eq_getElem hi'] at h2; simpa using h2
        rw [this]
        exact hone d (List.mem_of_getElem? h3)
      · intro i d v hd hv'
        have his : i < s := by
          rw [← hl]
          exact (List.getElem?_eq_some_iff.1 hd).1
        obtain ⟨v', d', h1, h2, _, h4⟩ := hv i his
        rw [hd] at h2
        cases h2
        simp only [List.getElem?_toArray, List.getElem?_map, List.getElem?_range his, Option.map_some, Option.some.injEq, h1, Option.getD_some] at hv'
        subst hv'
        exact h4
  · intro ha d hd
    obtain ⟨v, h3, h4⟩ := hcell off d hd
    exact ⟨v, loadVar_one P w hu ha (by simp [World.cell?, hk, h3]), h4⟩

def resV (tm : Array Value) : ResultVar → Sem Value
  | .tmp t => pure (tm.getD t undef)
  | .cell a t => do loadVar t (← asAddr (tm.getD a undef))

theorem results_eq (fn : Func) (tm : Array Value) : results fn tm = (do
    let vs ← fn.results.mapM (resV tm)
    pure (if h : vs.size = 1 then vs[0] else .tuple vs)) := by
  unfold results
  congr 1

theorem resL_run (hH : HRel w g H) (hF : FRel w g F tm) : ∀ (rs : List ResultVar) (ds : List D), resL P F H rs = some ds →
    ∃ vs : List Value, (rs.mapM (resV tm)).run P w = .ok vs w ∧ RepL w g ds vs
  | [], ds, h => by
    simp only [resL, Option.some.injEq] at h
    subst h
    exact ⟨[], rfl, rfl, by simp⟩
  | .tmp t :: r, ds, h => by
    simp only [resL] at h
    split at h
    · rename_i d ds' hd hds
      cases h
      obtain ⟨vs, hr, hl, hrep⟩ := resL_run hH hF r ds' hds
      obtain ⟨v, hv, hrv⟩ := hF t d hd
      refine ⟨v :: vs, ?_, by simp [hl], ?_⟩
      · simp [resV, hr, Array.getD_eq_getD_getElem?, hv]
      · intro i x y hx hy
        cases i with
        | zero => simp only [List.getElem?_cons_zero, Option.some.injEq] at hx hy; subst hx; subst hy; exact hrv
        | succ i => exact hrep i x y (by simpa using hx) (by simpa using hy)
    · cases h
  | .cell a t :: r, ds, h => by
    simp only [resL] at h
    split at h
    · rename_i b off u s ds' ha hu hs hds
      obtain ⟨vs, hr, hl, hrep⟩ := resL_run hH hF r ds' hds
      obtain ⟨v, hv, hrv⟩ := hF a _ ha
      cases hrv with
      | @ptr _ _ k base hρ =>
        have key : ∀ d, (∃ v, (loadVar t ⟨k, base + off, none⟩).run P w = .ok v w ∧ Rep w g d v) → ∃ vs : List Value,
            ((ResultVar.cell a t :: r).mapM (resV tm)).run P w = .ok vs w ∧ RepL w g (d :: ds') vs := by
          rintro d ⟨x, hx, hrx⟩
          refine ⟨x :: vs, ?_, by simp [hl], ?_⟩
          · simp [resV, Array.getD_eq_getD_getElem?, hv, asAddr, hr, hx]
          · intro i y z hy hz
            cases i with
            | zero => simp only [List.getElem?_cons_zero, Option.some.injEq] at hy hz; subst hy; subst hz; exact hrx
            | succ i => exact hrep i y z (by simpa using hy) (by simpa using hz)
        split at h
        · rename_i cs hb
          have ld := load_live (P := P) hH hb hρ (off := off) hu hs
          cases hagg : isAggB u with
          | true =>
            rw [hagg] at h
            simp only [cond_true] at h
            split at h
            · rename_i x hx
              cases h
              exact key _ (ld.1 hagg _ hx)
            · cases h
          | false =>
            rw [hagg] at h
            simp only [cond_false] at h
            split at h
            · rename_i d hd
              cases h
              exact key _ (ld.2 hagg _ hd)
            · cases h
        · cases h
    · cases h

theorem results_run (hH : HRel w g H) (hF : FRel w g F tm) {fn : Func} {d : D} (h : resD P fn.results.toList F H = some d) :
    ∃ v, (results fn tm).run P w = .ok v w ∧ Rep w g d v := by
  unfold resD at h
  have hm : fn.results = fn.results.toList.toArray := by simp
  cases hr : resL P F H fn.results.toList with
  | none => rw [hr] at h; cases h
  | some ds =>
    rw [hr] at h
    obtain ⟨vs, hrun, hl, hrep⟩ := resL_run hH hF _ ds hr
    have hrun' : (fn.results.mapM (resV tm)).run P w = .ok vs.toArray w := by
      rw [hm, List.mapM_toArray]
      simp [hrun]
    rw [results_eq, Sem.run_bind, hrun', Result.andThen_ok]
    match ds, vs, hl with
    | [x], [v], _ =>
      simp only [Option.some.injEq] at h
      subst h
      exact ⟨v, by simp [pure], hrep 0 x v rfl rfl⟩
    | [], [], _ =>
      simp only [Option.some.injEq] at h
      subst h
      exact ⟨.tuple #[], by simp [pure], .tup rfl (by simp)⟩
    | x :: y :: z, vs, hl =>
      simp only [Option.some.injEq] at h
      subst h
      refine ⟨.tuple vs.toArray, ?_, .tup (by simpa using hl) (fun i d v hd hv => hrep i d v hd (by simpa using hv))⟩
      simp [pure]
      intro h1
      simp [hl] at h1
end

/-- The frame at its return. -/
def rets (b : Frame) (tm : Array Value) (df : List Deferred) (todo : List Item) : Frame := { on b tm df todo with mode := .returning }

theorem st_ret {P : Program} {b : Frame} {tm : Array Value} {df : List Deferred} {k : List Item} {cs : List Frame} {w : World} (hb : b.roundOf = none) :
    step P (lone (on b tm df (.code .ret :: k)) cs w) = .next (lone (rets b tm df (.code .ret :: k)) cs w) :=
  step_lone_go (by simp [stepG, stepG.exec, on, rets, hb])

theorem st_end {P : Program} {b : Frame} {tm : Array Value} {df : List Deferred} {cs : List Frame} {w : World} (hb : b.roundOf = none) :
    step P (lone (on b tm df []) cs w) = .next (lone (rets b tm df []) cs w) :=
  step_lone_go (by simp [stepG, stepG.exec, on, rets, hb])

def setObjW (w : World) (r : Nat) (o : Obj) : World := { w with heap := w.heap.setIfInBounds r o }

theorem st_unwind {P : Program} {b : Frame} {tm : Array Value} {df : List Deferred} {todo : List Item} {cs : List Frame} {w : World} {r : Nat} {ds : List Deferred} (hr : w.heap[r]? = some (.deferred (some ds))) :
    step P (lone (rets b tm (markOf r :: df) todo) cs w) = .next (lone (rets b tm (ds ++ df) todo) cs (setObjW w r (.deferred none))) :=
  step_lone_go (by
    have hrun : (Instr.takeDeferred r).run P w = .ok ds (setObjW w r (.deferred none)) := by
      simp [Instr.takeDeferred, getObj, setObj, Sem.run, hr, setObjW]
    simp [stepG, rets, on, unwind, markOf, hrun])

theorem unwind_all {P : Program} {b : Frame} {tm : Array Value} {todo : List Item} {cs : List Frame} : ∀ (rs : List Nat) (w : World) {B : Nat}, Marks B w rs →
    ∃ w', Steps P (lone (rets b tm (rs.map markOf) todo) cs w) (lone (rets b tm [] todo) cs w') ∧ w'.os = w.os ∧ w'.tape = w.tape ∧ w'.output = w.output ∧ w'.heap.size = w.heap.size ∧
      ∀ k, k ∉ rs → w'.heap[k]? = w.heap[k]?
  | [], w, _, _ => ⟨w, .refl _ _, rfl, rfl, rfl, rfl, fun _ _ => rfl⟩
  | r :: rs, w, B, m => by
    have hr := (m.ge r (by simp)).2
    have hd := List.pairwise_cons.1 m.desc
    have m' : Marks B (setObjW w r (.deferred none)) rs := ⟨hd.2, fun x hx => ⟨(m.ge x (by simp [hx])).1, by
      have hne : r ≠ x := by have := hd.1 x hx; omega
      simp only [setObjW, Array.getElem?_setIfInBounds_ne hne]
      exact (m.ge x (by simp [hx])).2⟩⟩
    obtain ⟨w', s, a1, a2, a3, a4, a5⟩ := unwind_all rs _ m'
    refine ⟨w', .head (st_unwind hr) s, a1, a2, a3, by rw [a4]; simp [setObjW], fun k hk => ?_⟩
    rw [a5 k (fun h => hk (by simp [h]))]
    have hne : r ≠ k := fun h => hk (by simp [h])
    simp only [setObjW, Array.getElem?_setIfInBounds_ne hne]

theorem argsFr_rel {w : World} {g : Gh} : ∀ (args : List D) (i : Nat) (vs : List Value) (tm : Array Value), vs.length = args.length →
    (∀ (j : Nat) (d : D) (v : Value), args[j]? = some d → vs[j]? = some v → Rep w g d v) → (∀ j v, vs[j]? = some v → tm[i + j]? = some v) → FRel w g (argsFr i args) tm
  | [], _, _, _, _, _, _ => fun t d h => by cases h
  | a :: args, i, [], tm, hl, _, _ => by simp at hl
  | a :: args, i, v :: vs, tm, hl, hr, ht => by
    intro t d hd
    simp only [argsFr, Fr.get] at hd
    cases hb : Nat.beq i t with
    | true =>
      rw [hb] at hd
      simp only [cond_true, Option.some.injEq] at hd
      subst hd
      have : i = t := Nat.eq_of_beq_eq_true hb
      subst this
      exact ⟨v, ht 0 v rfl, hr 0 a v rfl rfl⟩
    | false =>
      rw [hb] at hd
      exact argsFr_rel args (i + 1) vs tm (by simpa using hl) (fun j d v h1 h2 => hr (j + 1) d v (by simpa using h1) (by simpa using h2))
        (fun j v h => by rw [show i + 1 + j = i + (j + 1) by omega]; exact ht (j + 1) v (by simpa using h)) t d hd

theorem FnTo.of_W {P : Program} {f : FuncId} {fn : Func} {c : Code} {args : List D} {H : Hp} {R : D → Hp → Prop} (he : Enters P f) (hf : P.funcs[f]? = some fn) (hb : fn.body = some c)
    (hn : args.length ≤ fn.ntmps) (h : W P fn.ntmps H.length c (retQ P fn R) (argsFr 0 args) H) : FnTo P f args H R := by
  refine ⟨he, fun w g vs hH hA cs => ?_⟩
  let b : Frame := { (default : Frame) with fn := f, kind := .normal }
  have hro : b.roundOf = none := rfl
  have hvs : vs.length = args.length := hA.1
  have henter : Frame.enter P f vs.toArray .normal = on b (vs.toArray ++ Array.replicate (fn.ntmps - vs.toArray.size) undef) [] [.code c] := by
    simp [Frame.enter, on, hf, hb, b]
    rfl
  have hF : FRel w g (argsFr 0 args) (vs.toArray ++ Array.replicate (fn.ntmps - vs.toArray.size) undef) :=
    argsFr_rel args 0 vs _ hvs hA.2 (fun j v hj => by
      have hlt : j < vs.length := (List.getElem?_eq_some_iff.1 hj).1
      rw [Nat.zero_add, Array.getElem?_append_left (by simpa using hlt)]
      simpa using hj)
  obtain ⟨e, tm1, df1, w1, ⟨F1, H1, g1, hq, nx, fr, sz⟩, hreach⟩ := h w g _ [] hH hF (by simp; omega) (Nat.le_refl _) b (.inl rfl) [] cs
  rw [← henter] at hreach
  obtain ⟨rs, hdf, hm⟩ := nx.marks
  rw [List.append_nil] at hdf
  have fin : ∀ todo, Steps P (lone (Frame.enter P f vs.toArray .normal) cs w) (lone (rets b tm1 df1 todo) cs w1) → (∃ d, resD P fn.results.toList F1 H1 = some d ∧ R d H1) →
      ∃ e w' fr, (∃ v d H' g', e = Ending.returned v ∧ R d H' ∧ Ev H.length w g (Lof g H) w' g' (Lof g' H') ∧ HRel w' g' H' ∧ H.length ≤ H'.length ∧ Rep w' g' d v) ∧
        Comes P (lone (Frame.enter P f vs.toArray .normal) cs w) (lone fr cs w') e ∧ fr.fn = f ∧ fr.leaving P w' e := by
    rintro todo hs ⟨d, hd, hR⟩
    rw [hdf] at hs
    obtain ⟨w2, s2, o1, o2, o3, o4, o5⟩ := unwind_all (P := P) (b := b) (tm := tm1) (todo := todo) (cs := cs) rs w1 hm
    have hnc : ∀ k, (∃ x ∈ rs, x = k) → ∃ x, w1.heap[k]? = some (.deferred x) := fun k ⟨x, hx, e⟩ => ⟨_, e ▸ (hm.ge x hx).2⟩
    have hcell : ∀ k n, cellsN w1 k = some n → w2.heap[k]? = w1.heap[k]? := fun k n hk => o5 k (fun hx => by
      obtain ⟨x, hx⟩ := hnc k ⟨k, hx, rfl⟩
      unfold cellsN at hk; rw [hx] at hk; cases hk)
    have kp : Keeps w1 g1 w2 g1 := ⟨fun k hk => let ⟨n, hn⟩ := nx.hrel.scell k hk; hcell k n hn, fun k n hk => by
      have := hcell k n hk
      unfold cellsN at hk ⊢; rw [this]; exact hk, fun _ h => h, fun _ _ h => h⟩
    have hH2 : HRel w2 g1 H1 := by
      refine ⟨fun k hk => let ⟨n, hn⟩ := nx.hrel.scell k hk; ⟨n, kp.shape k n hn⟩, nx.hrel.sL, nx.hrel.dom, ?_, ?_, nx.hrel.inj⟩
      · intro b cs hb
        obtain ⟨k, base, c, e, h1, h2, h3, h4, h5⟩ := nx.hrel.blk b cs hb
        refine ⟨k, base, c, e, h1, ?_, h3, h4, fun i d hd => let ⟨v, a, b⟩ := h5 i d hd; ⟨v, a, b.keeps kp⟩⟩
        rw [hcell k c.size (by simp [cellsN, h2])]; exact h2
      · intro b r F hb
        obtain ⟨k, h1, h2, h3⟩ := nx.hrel.loop b r F hb
        refine ⟨k, h1, ?_, h3.keeps kp⟩
        rw [o5 k (fun hx => by obtain ⟨x, hx⟩ := hnc k ⟨k, hx, rfl⟩; rw [hx] at h2; cases h2)]; exact h2
    obtain ⟨v, hrun, hrep⟩ := results_run hH2 (fr.keeps kp) hd
    refine ⟨.returned v, w2, rets b tm1 [] todo, ⟨v, d, H1, g1, rfl, hR, ?_, hH2, nx.len, hrep⟩, Steps.trans hs s2, rfl, rfl, rfl, rfl, fn, hf, hrun⟩
    refine ⟨o1.trans nx.ev.os, o2.trans nx.ev.tape, o3.trans nx.ev.output, by rw [o4]; exact nx.ev.size, fun k hk hn => ?_, fun k n hk => kp.shape k n (nx.ev.shape k n hk), nx.ev.s1, nx.ev.s2, nx.ev.l2, nx.ev.ρ⟩
    rw [o5 k (fun hx => by have := (hm.ge k hx).1; omega)]
    exact nx.ev.keep k hk hn
  cases e with
  | normal => exact fin [] (Steps.trans hreach (.one (st_end hro))) hq
  | exit i => exact hq.elim
  | ret =>
    obtain ⟨k', hk'⟩ := hreach
    exact fin _ (Steps.trans hk' (.one (st_ret hro))) hq

theorem FnTo.mono {P : Program} {f : FuncId} {args : List D} {H : Hp} {R R' : D → Hp → Prop} (h : FnTo P f args H R) (hr : ∀ d H, R d H → R' d H) : FnTo P f args H R' :=
  ⟨h.1, fun w g vs a b => (h.2 w g vs a b).mono fun _ _ ⟨v, d, H', g', e, r, s⟩ => ⟨v, d, H', g', e, hr _ _ r, s⟩⟩

/-- The function computes d from the arguments, whatever lies in the heap, and leaves the heap alone. -/
def PureFn (P : Program) (f : FuncId) (args : List D) (d : D) : Prop := ∀ H, FnTo P f args H fun d' H' => d' = d ∧ H' = H

section
variable {w w' : World} {g g' g1 : Gh} {H H' H1 : Hp}
/-- A caller's heap, over a call that ran beside it. -/
theorem HRel.beside {S' : Nat → Prop} (h : HRel w g H) (hk : ∀ k, k < w.heap.size → w'.heap[k]? = w.heap[k]?) (hs : ∀ k, g.S k → S' k) (hs2 : ∀ k, S' k → g.S k ∨ w.heap.size ≤ k)
    (hc : ∀ k, S' k → ∃ n, cellsN w' k = some n) (hsh : ∀ k n, cellsN w k = some n → cellsN w' k = some n) : HRel w' { S := S', ρ := g.ρ } H := by
  have kp : Keeps w g w' { S := S', ρ := g.ρ } := ⟨fun k hk' => hk k (h.slt k hk'), hsh, hs, fun _ _ h => h⟩
  refine ⟨hc, ?_, h.dom, ?_, ?_, h.inj⟩
  · rintro k hk' ⟨b, x, base, hb, hr⟩
    rcases hs2 k hk' with h1 | h1
    · exact h.sL k h1 ⟨b, x, base, hb, hr⟩
    · have : k < w.heap.size := by
        cases x with
        | cells cs =>
          obtain ⟨k', base', c, e, hρ', hk'', _⟩ := h.blk b cs hb
          simp only at hr
          rw [hr] at hρ'
          obtain ⟨rfl, _⟩ : k = k' ∧ base = base' := by simpa using hρ'
          exact (Array.getElem?_eq_some_iff.1 hk'').1
        | loop r F =>
          obtain ⟨k', hρ', hk'', _⟩ := h.loop b r F hb
          simp only at hr
          rw [hr] at hρ'
          obtain ⟨rfl, _⟩ : k = k' ∧ base = 0 := by simpa using hρ'
          exact (Array.getElem?_eq_some_iff.1 hk'').1
      omega
  · intro b cs hb
    obtain ⟨k, base, c, e, h1, h2, h3, h4, h5⟩ := h.blk b cs hb
    exact ⟨k, base, c, e, h1, by rw [hk k (Array.getElem?_eq_some_iff.1 h2).1]; exact h2, h3, h4, fun i d hd => let ⟨v, a, b⟩ := h5 i d hd; ⟨v, a, b.keeps kp⟩⟩
  · intro b r F hb
    obtain ⟨k, h1, h2, h3⟩ := h.loop b r F hb
    exact ⟨k, h1, by rw [hk k (Array.getElem?_eq_some_iff.1 h2).1]; exact h2, h3.keeps kp⟩

theorem Lof_cells (h : HRel w g H) {k : Nat} (hl : Lof g H k) (hno : ∀ (b : Nat) (r : Loop) (F : Fr), H[b]? ≠ some (some (.loop r F))) : ∃ n, cellsN w k = some n := by
  obtain ⟨b, x, base, hb, hr⟩ := hl
  cases x with
  | cells cs =>
    obtain ⟨k', base', c, e, hρ', hk', _⟩ := h.blk b cs hb
    rw [hr] at hρ'
    obtain ⟨rfl, _⟩ : k = k' ∧ base = base' := by simpa using hρ'
    exact ⟨c.size, by simp [cellsN, hk']⟩
  | loop r F => exact absurd hb (hno b r F)
end

theorem HRel.nil {w : World} {S : Nat → Prop} (h : ∀ k, S k → ∃ n, cellsN w k = some n) : HRel w { S := S, ρ := fun _ => none } [] :=
  { scell := h
    sL := by rintro k _ ⟨b, x, base, hb, _⟩; cases hb
    dom := fun _ _ => rfl
    blk := by intro b cs h; cases h
    loop := by intro b r F h; cases h
    inj := by intro b b' k base base' x x' h; cases h }

/-- Run on an empty heap: the result, let go of all live memory, is what the function gives beside any heap. -/
theorem PureFn.of_nil {P : Program} {f : FuncId} {args : List D} {d : D} (hp : ∀ a ∈ args, Pure a)
    (h : FnTo P f args [] fun d' H' => Frz H' d' d ∧ ∀ (b : Nat) (r : Loop) (F : Fr), H'[b]? ≠ some (some (.loop r F))) : PureFn P f args d := by
  intro H
  refine ⟨h.1, fun w g vs hH hA => ?_⟩
  have hH0 : HRel w { S := g.S, ρ := fun _ => none } [] := HRel.nil hH.scell
  have hA0 : RepL w { S := g.S, ρ := fun _ => none } args vs := ⟨hA.1, fun i d v hd hv => Rep.ofPure (g := g) (g' := { S := g.S, ρ := fun _ => none }) (fun _ h => h) (hA.2 i d v hd hv) (hp d (List.mem_of_getElem? hd))⟩
  refine (h.2 w _ vs hH0 hA0).mono ?_
  rintro e w' ⟨v, d', H', g1, rfl, ⟨hz, hno⟩, ev, hH', _, hrep⟩
  have hL0 : ∀ k, ¬ Lof { S := g.S, ρ := fun _ => none } [] k := by rintro k ⟨b, x, base, hb, _⟩; cases hb
  have hkeep : ∀ k, k < w.heap.size → w'.heap[k]? = w.heap[k]? := fun k hk => ev.keep k hk (hL0 k)
  have hs2 : ∀ k, (g1.S k ∨ Lof g1 H' k) → g.S k ∨ w.heap.size ≤ k := by
    rintro k (h1 | h1)
    · rcases ev.s2 k h1 with h2 | h2 | h2
      · exact .inl h2
      · exact (hL0 k h2).elim
      · exact .inr h2
    · rcases ev.l2 k h1 with h2 | h2
      · exact (hL0 k h2).elim
      · exact .inr h2
  refine ⟨v, d, H, { S := fun k => g1.S k ∨ Lof g1 H' k, ρ := g.ρ }, rfl, ⟨rfl, rfl⟩, ?_, ?_, Nat.le_refl _, ?_⟩
  · exact ⟨ev.os, ev.tape, ev.output, ev.size, fun k hk _ => hkeep k hk, ev.shape, fun k hk => .inl (ev.s1 k hk), fun k hk => (hs2 k hk).imp id .inr, fun k hk => .inl hk, fun _ _ => rfl⟩
  · exact hH.beside hkeep (fun k hk => .inl (ev.s1 k hk)) hs2 (fun k hk => hk.elim (hH'.scell k) (fun h => Lof_cells hH' h hno)) ev.shape
  · exact hrep.frz hH' (fun k hk => hk) hz

/-- A call with live slices as arguments, of a function whose result has no memory in it. -/
theorem FnTo.borrow {P : Program} {f : FuncId} {args args' : List D} {H : Hp} {d : D} (hz : args'.length = args.length ∧ ∀ (i : Nat) (x y : D), args[i]? = some x → args'[i]? = some y → Frz H x y)
    (hno : ∀ (b : Nat) (r : Loop) (F : Fr), H[b]? ≠ some (some (.loop r F))) (hd : d.flat = true) (h : PureFn P f args' d) : FnTo P f args H fun d' H' => d' = d ∧ H' = H := by
  refine ⟨(h []).1, fun w g vs hH hA => ?_⟩
  have hc : ∀ k, g.S k ∨ Lof g H k → ∃ n, cellsN w k = some n := fun k hk => hk.elim (hH.scell k) (fun h => Lof_cells hH h hno)
  have hH0 : HRel w { S := fun k => g.S k ∨ Lof g H k, ρ := fun _ => none } [] := HRel.nil hc
  have hA0 : RepL w { S := fun k => g.S k ∨ Lof g H k, ρ := fun _ => none } args' vs := ⟨hA.1.trans hz.1.symm, fun i d' v hd' hv => by
    have hi : i < args.length := by rw [← hz.1]; exact (List.getElem?_eq_some_iff.1 hd').1
    exact (hA.2 i args[i] v (by simp) hv).frz hH (fun k hk => hk) (hz.2 i args[i] d' (by simp) hd')⟩
  refine ((h []).2 w _ vs hH0 hA0).mono ?_
  rintro e w' ⟨v, d', H', g1, rfl, ⟨rfl, rfl⟩, ev, hH', _, hrep⟩
  have hL0 : ∀ k, ¬ Lof { S := fun k => g.S k ∨ Lof g H k, ρ := fun _ => none } [] k := by rintro k ⟨b, x, base, hb, _⟩; cases hb
  have hkeep : ∀ k, k < w.heap.size → w'.heap[k]? = w.heap[k]? := fun k hk => ev.keep k hk (hL0 k)
  refine ⟨v, d', H, g, rfl, ⟨rfl, rfl⟩, ?_, ?_, Nat.le_refl _, ?_⟩
  · exact ⟨ev.os, ev.tape, ev.output, ev.size, fun k hk _ => hkeep k hk, ev.shape, fun k hk => hk, fun k hk => .inl hk, fun k hk => .inl hk, fun _ _ => rfl⟩
  · exact hH.beside hkeep (fun k hk => hk) (fun k hk => .inl hk) (fun k hk => let ⟨n, hn⟩ := hH.scell k hk; ⟨n, ev.shape k n hn⟩) ev.shape
  · cases d' <;> first | (cases hd; done) | (cases hrep; constructor)
end Go.V

/- The logic V, part 6: the operations that touch no live memory do what vop says. -/
namespace Go.V

/-- A world that has grown beside everything. -/
structure Grew (w : World) (g : Gh) (w' : World) (g' : Gh) : Prop where
  os : w'.os = w.os
  tape : w'.tape = w.tape
  output : w'.output = w.output
  size : w.heap.size ≤ w'.heap.size
  keep : ∀ k, k < w.heap.size → w'.heap[k]? = w.heap[k]?
  s1 : ∀ k, g.S k → g'.S k
  s2 : ∀ k, g'.S k → g.S k ∨ (w.heap.size ≤ k ∧ ∃ n, cellsN w' k = some n)
  ρ : g'.ρ = g.ρ

section
variable {P : Program} {w w' : World} {g g' : Gh} {H : Hp} {F : Fr} {tm : Array Value}

theorem Grew.refl (w : World) (g : Gh) : Grew w g w g := ⟨rfl, rfl, rfl, Nat.le_refl _, fun _ _ => rfl, fun _ h => h, fun _ h => .inl h, rfl⟩

theorem Grew.shape (e : Grew w g w' g') (k n : Nat) (h : cellsN w k = some n) : cellsN w' k = some n := by
  have := e.keep k (cellsN_lt h)
  unfold cellsN at h ⊢; rw [this]; exact h

theorem Grew.hrel (e : Grew w g w' g') (h : HRel w g H) : HRel w' g' H := by
  have := h.beside (w' := w') (S' := g'.S) e.keep e.s1 (fun k hk => (e.s2 k hk).imp id And.left)
    (fun k hk => (e.s2 k hk).elim (fun h' => let ⟨n, hn⟩ := h.scell k h'; ⟨n, e.shape k n hn⟩) And.right) e.shape
  have hg : ({ S := g'.S, ρ := g.ρ } : Gh) = g' := by rw [← e.ρ]
  rwa [hg] at this

theorem Grew.ev (e : Grew w g w' g') (N : Nat) : Ev N w g (Lof g H) w' g' (Lof g' H) :=
  ⟨e.os, e.tape, e.output, e.size, fun k hk _ => e.keep k hk, e.shape, e.s1, fun k hk => (e.s2 k hk).imp id (fun h => .inr h.1), fun k hk => .inl (by
    obtain ⟨b, x, base, hb, hr⟩ := hk
    exact ⟨b, x, base, hb, by rw [← e.ρ]; exact hr⟩), fun b _ => by rw [e.ρ]⟩

theorem Grew.alloc (w : World) (g : Gh) (c : Array Value) (e : TypeId) : Grew w g (w.alloc (.cells c e)) { S := fun k => g.S k ∨ k = w.heap.size, ρ := g.ρ } :=
  ⟨rfl, rfl, rfl, by simp, fun k hk => heap_alloc_old w _ k hk, fun _ h => .inl h,
    fun k h => h.imp id fun h => by subst h; exact ⟨Nat.le_refl _, c.size, by simp only [cellsN, heap_alloc_new w (.cells c e)]⟩, rfl⟩

/-- What an operation gives. -/
def Gives (P : Program) (tm : Array Value) (o : Oper) (w : World) (g : Gh) (d : D) : Prop :=
  ∃ v w' g', (execOp (evalT tm) o).run P w = .ok (.value v) w' ∧ Grew w g w' g' ∧ Rep w' g' d v

theorem Gives.same {o : Oper} {d : D} {v : Value} (h : (execOp (evalT tm) o).run P w = .ok (.value v) w) (hr : Rep w g d v) : Gives P tm o w g d := ⟨v, w, g, h, .refl _ _, hr⟩

theorem rep_int {k : IntKind} {n : Int} {v : Value} (h : Rep w g (.int k n) v) : v = .int k n := by cases h; rfl
theorem rep_bool {b : Bool} {v : Value} (h : Rep w g (.bool b) v) : v = .bool b := by cases h; rfl
theorem rep_str {s : ByteArray} {v : Value} (h : Rep w g (.str s) v) : v = .string s := by cases h; rfl

theorem intBinD_run {op : BinOp} {k k' : IntKind} {a b : Int} {pre : Prop} {d : D} (h : intBinD op k a b = some (pre, d)) (hp : pre) (t : TypeId) (hk : k = k' ∨ isSh op = true) :
    ∃ v, (binOp op t (.int k a) (.int k' b)).run P w = .ok v w ∧ Rep w g d v := by
  cases op <;> simp only [intBinD, Option.some.injEq, Prod.mk.injEq, reduceCtorEq] at h <;> obtain ⟨rfl, rfl⟩ := h
  case add => obtain rfl := hk.resolve_right (by simp [isSh]); exact ⟨_, by simp [binOp, Op.intArith], .int _ _⟩
  case sub => obtain rfl := hk.resolve_right (by simp [isSh]); exact ⟨_, by simp [binOp, Op.intArith], .int _ _⟩
  case mul => obtain rfl := hk.resolve_right (by simp [isSh]); exact ⟨_, by simp [binOp, Op.intArith], .int _ _⟩
  case quo => obtain rfl := hk.resolve_right (by simp [isSh]); exact ⟨_, by simp [binOp, Op.intDiv, hp], .int _ _⟩
  case rem => obtain rfl := hk.resolve_right (by simp [isSh]); exact ⟨_, by simp [binOp, Op.intDiv, hp], .int _ _⟩
  case and => obtain rfl := hk.resolve_right (by simp [isSh]); exact ⟨_, by simp only [binOp, Op.intBits]; simp, .int _ _⟩
  case or => obtain rfl := hk.resolve_right (by simp [isSh]); exact ⟨_, by simp only [binOp, Op.intBits]; simp, .int _ _⟩
  case xor => obtain rfl := hk.resolve_right (by simp [isSh]); exact ⟨_, by simp only [binOp, Op.intBits]; simp, .int _ _⟩
  case shl =>
    have : ¬ b < 0 := by omega
    exact ⟨_, by simp [binOp, Op.shift, this], .int _ _⟩
  case shr =>
    have : ¬ b < 0 := by omega
    exact ⟨_, by simp [binOp, Op.shift, this], .int _ _⟩
  case lss => obtain rfl := hk.resolve_right (by simp [isSh]); exact ⟨_, by simp [binOp, Op.intCmp], .bool _⟩
  case leq => obtain rfl := hk.resolve_right (by simp [isSh]); exact ⟨_, by simp [binOp, Op.intCmp], .bool _⟩
  case gtr => obtain rfl := hk.resolve_right (by simp [isSh]); exact ⟨_, by simp [binOp, Op.intCmp], .bool _⟩
  case geq => obtain rfl := hk.resolve_right (by simp [isSh]); exact ⟨_, by simp [binOp, Op.intCmp], .bool _⟩
  case eql =>
    obtain rfl := hk.resolve_right (by simp [isSh])
    refine ⟨.bool (decide (a = b)), ?_, .bool _⟩
    simp [binOp, Op.intCmp]
    rfl
  case neq =>
    obtain rfl := hk.resolve_right (by simp [isSh])
    refine ⟨.bool (!decide (a = b)), ?_, .bool _⟩
    simp [binOp, Op.intCmp]
    rfl

theorem bytes_eq (a b : ByteArray) : (a.toList == b.toList) = decide (a = b) := by
  rw [ByteArray.toList_eq, ByteArray.toList_eq]
  by_cases h : a = b
  · subst h; simp
  · have h' : ¬ a.data = b.data := fun e => h (by cases a; cases b; simp_all)
    simp [h, h']

theorem eqInts_rep : ∀ (cs cs' : List D) (vs vs' : List Value) (b : Bool), eqInts cs cs' = some b → RepL w g cs vs → RepL w g cs' vs' →
    vs.length = vs'.length ∧ (∀ i : Nat, i < vs.length → ∃ (k : IntKind) (n m : Int), vs[i]? = some (.int k n) ∧ vs'[i]? = some (.int k m)) ∧
      (b = true ↔ ∀ (i : Nat) (k : IntKind) (n m : Int), vs[i]? = some (.int k n) → vs'[i]? = some (.int k m) → n = m)
  | [], [], vs, vs', b, hb, h1, h2 => by
    obtain rfl : vs = [] := List.eq_nil_of_length_eq_zero h1.1
    obtain rfl : vs' = [] := List.eq_nil_of_length_eq_zero h2.1
    simp only [eqInts, Option.some.injEq] at hb
    subst hb
    exact ⟨rfl, by simp, by simp⟩
  | x :: r, y :: r', v :: vs, v' :: vs', b, hb, h1, h2 => by
    unfold eqInts at hb
    split at hb
    · rename_i heq1 heq2; cases heq1
    · rename_i k a r1 k' a' r1' heq1 heq2
      cases heq1; cases heq2
      cases hk : decide (k = k') with
      | false => rw [hk] at hb; cases hb
      | true =>
        rw [hk] at hb
        obtain rfl : k = k' := of_decide_eq_true hk
        simp only [cond_true] at hb
        split at hb
        · rename_i p hp
          cases hb
          obtain ⟨l, c, e⟩ := eqInts_rep r r' vs vs' p hp ⟨by simpa using h1.1, fun i d v hd hv => h1.2 (i + 1) d v (by simpa using hd) (by simpa using hv)⟩
            ⟨by simpa using h2.1, fun i d v hd hv => h2.2 (i + 1) d v (by simpa using hd) (by simpa using hv)⟩
          obtain rfl := rep_int (h1.2 0 (.int k a) v rfl rfl)
          obtain rfl := rep_int (h2.2 0 (.int k a') v' rfl rfl)
          refine ⟨by simp [l], ?_, ?_⟩
          · intro i hi
            cases i with
            | zero => exact ⟨k, a, a', rfl, rfl⟩
            | succ i => obtain ⟨k1, n, m, x1, x2⟩ := c i (by simpa using hi); exact ⟨k1, n, m, by simpa using x1, by simpa using x2⟩
          · simp only [Bool.and_eq_true, decide_eq_true_eq, e]
            constructor
            · rintro ⟨rfl, h⟩ i k1 n m hn hm
              cases i with
              | zero => simp only [List.getElem?_cons_zero, Option.some.injEq, Value.int.injEq] at hn hm; rw [← hn.2, ← hm.2]
              | succ i => exact h i k1 n m (by simpa using hn) (by simpa using hm)
            · intro h
              exact ⟨h 0 k a a' rfl rfl, fun i k1 n m hn hm => h (i + 1) k1 n m (by simpa using hn) (by simpa using hm)⟩
        · cases hb
    · cases hb
  | [], _ :: _, _, _, _, hb, _, _ => by simp [eqInts] at hb
  | x :: r, [], _, _, _, hb, _, _ => by cases x <;> simp [eqInts] at hb
  | _ :: _, _ :: _, [], _, _, _, h1, _ => by simp [RepL] at h1
  | _ :: _, _ :: _, _ :: _, [], _, _, _, h2 => by simp [RepL] at h2

theorem run_forIn_all (e : Nat → Bool) (f : Nat → Option Bool × PUnit → Sem (ForInStep (Option Bool × PUnit))) : ∀ (l : List Nat),
    (∀ j ∈ l, (f j (none, PUnit.unit)).run P w = .ok (if e j then .yield (none, PUnit.unit) else .done (some false, PUnit.unit)) w) →
    (forIn l (none, PUnit.unit) f).run P w = .ok (if l.all e then (none, PUnit.unit) else (some false, PUnit.unit)) w
  | [], _ => by simp
  | j :: l, h => by
    simp only [List.forIn_cons, Sem.run_bind, h j (by simp), Result.andThen_ok]
    cases he : e j with
    | true =>
      simp only [if_true]
      rw [run_forIn_all e f l (fun j hj => h j (by simp [hj]))]
      simp [he]
    | false => simp [he]

/-- '==' of two arrays of whole numbers. -/
theorem equalIn_ints {t e : TypeId} {len : Nat} {k0 : IntKind} (ht : P.underlying t = some (.array len e)) (he : P.underlying e = some (.int k0)) (hs : tySize P e = some 1) (d : Nat)
    (vs vs' : List Value) (hl : vs.length = len) (hc : ∀ i : Nat, i < vs.length → ∃ (k : IntKind) (n m : Int), vs[i]? = some (.int k n) ∧ vs'[i]? = some (.int k m)) (b : Bool)
    (hb : b = true ↔ ∀ (i : Nat) (k : IntKind) (n m : Int), vs[i]? = some (.int k n) → vs'[i]? = some (.int k m) → n = m) :
    (Op.equalIn (d + 2) t (.agg vs.toArray) (.agg vs'.toArray)).run P w = .ok b w := by
  have hpart : ∀ (us : List Value) (i : Nat) (v : Value), us[i]? = some v → (part e us.toArray i).run P w = .ok v w := by
    intro us i v hv
    simp [part, isAgg_run P w he, isAggB, hv]
  rw [Op.equalIn]
  simp only [Sem.run_bind, run_underlying ht, Result.andThen_ok, sizeOf_run P w hs, Nat.mul_one]
  rw [Std.Legacy.Range.forIn_eq_forIn_range']
  simp only [Std.Legacy.Range.size, Nat.sub_zero, Nat.add_sub_cancel, Nat.div_one]
  have hbody : ∀ j ∈ List.range' 0 len, ((do
      let a ← part e vs.toArray j
      let b ← part e vs'.toArray j
      let r ← Op.equalIn (d + 1) e a b
      if (!r) = true then pure (ForInStep.done (some false, PUnit.unit)) else pure (ForInStep.yield (none, PUnit.unit)) : Sem (ForInStep (Option Bool × PUnit)))).run P w =
      .ok (if (match vs[j]?, vs'[j]? with | some (.int _ n), some (.int _ m) => decide (n = m) | _, _ => false) then .yield (none, PUnit.unit) else .done (some false, PUnit.unit)) w := by
    intro j hj
    have hj' : j < vs.length := by rw [hl]; simpa using hj
    obtain ⟨k, n, m, h1, h2⟩ := hc j hj'
    simp only [Sem.run_bind, hpart _ _ _ h1, hpart _ _ _ h2, Result.andThen_ok, run_equalIn_int w d e k k0 n m he, h1, h2]
    by_cases hnm : n = m
    · subst hnm; simp
    · simp [hnm]
  have := run_forIn_all (P := P) (w := w) (fun j => match vs[j]?, vs'[j]? with | some (.int _ n), some (.int _ m) => decide (n = m) | _, _ => false)
    (fun j _ => do
      let a ← part e vs.toArray j
      let b ← part e vs'.toArray j
      let r ← Op.equalIn (d + 1) e a b
      if (!r) = true then pure (ForInStep.done (some false, PUnit.unit)) else pure (ForInStep.yield (none, PUnit.unit))) (List.range' 0 len) hbody
  rw [this]
  have hall : (List.range' 0 len).all (fun j => match vs[j]?, vs'[j]? with | some (.int _ n), some (.int _ m) => decide (n = m) | _, _ => false) = b := by
    rw [Bool.eq_iff_iff, hb, List.all_eq_true]
    constructor
    · intro h i k n m hn hm
      have hi : i < len := by rw [← hl]; exact (List.getElem?_eq_some_iff.1 hn).1
      have := h i (by simpa using hi)
      rw [hn, hm] at this
      simpa using this
    · intro h j hj
      have hj' : j < vs.length := by rw [hl]; simpa using hj
      obtain ⟨k, n, m, h1, h2⟩ := hc j hj'
      rw [h1, h2]
      simpa using h j k n m h1 h2
  rw [hall]
  cases b <;> simp
end
end Go.V

/- The logic V, part 7: vop is sound. -/
namespace Go.V
section
variable {P : Program} {w w' : World} {g g' : Gh} {H : Hp} {F : Fr} {tm : Array Value}

theorem exec_v {o : Oper} {s : Sem Value} (h : execOp (evalT tm) o = (do pure (.value (← s)) : Sem Next)) {v : Value} {w' : World} (hs : s.run P w = .ok v w') :
    (execOp (evalT tm) o).run P w = .ok (.value v) w' := by
  rw [h]; simp [hs]

theorem eqGuard_plain (op : BinOp) (t : TypeId) (x y : Operand) {a b : Value} (h : ¬ (a = .nilIface ∧ b = .nilIface) ∧ ¬ (∃ c d, a = .agg c ∧ b = .agg d)) :
    (eqGuard op t x y a b).run P w = .ok () w := by
  unfold eqGuard
  cases op <;> first
    | rfl
    | (simp only [Bool.not_true, Bool.false_eq_true, if_false]
       split
       · exact absurd ⟨rfl, rfl⟩ h.1
       · exact absurd ⟨_, _, rfl, rfl⟩ h.2
       · rfl)

theorem underlying_run {t : TypeId} {u : TypeDesc} (h : P.underlying t = some u) : (underlying t).run P w = .ok u w := by simp [underlying, h]

theorem eq_run {t : TypeId} {x y : Value} {b : Bool} (h : ∀ d, (Op.equalIn (d + 2) t x y).run P w = .ok b w) : (Op.equal t x y).run P w = .ok b w := h 9998

theorem eql_run {t : TypeId} {x y : Value} {b : Bool} (hb : binOp .eql t x y = (do pure (.bool (← Op.equal t x y)))) (h : ∀ d, (Op.equalIn (d + 2) t x y).run P w = .ok b w) : (binOp .eql t x y).run P w = .ok (.bool b) w := by
  rw [hb]; simp only [Sem.run_bind, eq_run h, Result.andThen_ok, Sem.run_pure]

theorem neq_run {t : TypeId} {x y : Value} {b : Bool} (hb : binOp .neq t x y = (do pure (.bool (!(← Op.equal t x y))))) (h : ∀ d, (Op.equalIn (d + 2) t x y).run P w = .ok b w) : (binOp .neq t x y).run P w = .ok (.bool (!b)) w := by
  rw [hb]; simp only [Sem.run_bind, eq_run h, Result.andThen_ok, Sem.run_pure]

theorem binD_run {op : BinOp} {t : TypeId} {x y : D} {pre : Prop} {d : D} (h : binD P op t x y = some (pre, d)) (hp : pre) {a b : Value} (ha : Rep w g x a) (hb : Rep w g y b) :
    (¬ (a = .nilIface ∧ b = .nilIface) ∧ ¬ (∃ c d, a = .agg c ∧ b = .agg d)) ∧ ∃ v, (binOp op t a b).run P w = .ok v w ∧ Rep w g d v := by
  unfold binD at h
  split at h
  · rename_i k a' k' b'
    obtain rfl := rep_int ha
    obtain rfl := rep_int hb
    refine ⟨⟨by simp, by simp⟩, ?_⟩
    cases hk : (decide (k = k') || isSh op) with
    | false => rw [hk] at h; cases h
    | true =>
      rw [hk] at h
      exact intBinD_run h hp t (by simpa using hk)
  · rename_i a' b'
    obtain rfl := rep_bool ha
    obtain rfl := rep_bool hb
    refine ⟨⟨by simp, by simp⟩, ?_⟩
    split at h
    · rename_i hu; cases h
      exact ⟨_, eql_run rfl (fun d => run_equalIn_bool w (d + 1) t a' b' hu), .bool _⟩
    · rename_i hu; cases h
      exact ⟨_, neq_run rfl (fun d => run_equalIn_bool w (d + 1) t a' b' hu), .bool _⟩
    · cases h
  · rename_i a' b'
    obtain rfl := rep_str ha
    obtain rfl := rep_str hb
    refine ⟨⟨by simp, by simp⟩, ?_⟩
    split at h
    · cases h; exact ⟨_, by simp [binOp, Op.stringOp, bytes_eq], .bool _⟩
    · cases h; exact ⟨_, by simp [binOp, Op.stringOp, bytes_eq], .bool _⟩
    · cases h
      have hp' : ¬ (((a'.size + b'.size : Nat) : Int) > IntKind.i64.max) := by
        have : IntKind.i64.max = 9223372036854775807 := by decide
        rw [this]; omega
      exact ⟨_, by simp only [binOp, Op.stringOp, hp', if_false]; rfl, .str _⟩
    · cases h
  · cases ha; cases hb
    refine ⟨⟨by simp, by simp⟩, ?_⟩
    split at h
    · rename_i hu; cases h; exact ⟨_, eql_run (b := true) rfl (fun d => by rw [Op.equalIn]; simp [underlying_run hu]), .bool _⟩
    · rename_i hu; cases h; exact ⟨_, neq_run (b := true) rfl (fun d => by rw [Op.equalIn]; simp [underlying_run hu]), .bool _⟩
    · cases h
  · cases ha; cases hb
    refine ⟨⟨by simp, by simp⟩, ?_⟩
    split at h
    · rename_i hu; cases h; exact ⟨_, eql_run (b := true) rfl (fun d => by rw [Op.equalIn]; simp [underlying_run hu]), .bool _⟩
    · rename_i hu; cases h; exact ⟨_, neq_run (b := true) rfl (fun d => by rw [Op.equalIn]; simp [underlying_run hu]), .bool _⟩
    · cases h
  · cases ha with
    | snapNil a t =>
      split at h
      · cases h; exact absurd hp (Nat.lt_irrefl 0)
      · cases h; exact absurd hp (Nat.lt_irrefl 0)
      · cases h
    | snap f hS h1 hl ht hc hr =>
      cases hb
      refine ⟨⟨by simp, by simp⟩, ?_⟩
      split at h
      · rename_i hu; cases h; exact ⟨_, eql_run (b := false) rfl (fun d => by rw [Op.equalIn]; simp [underlying_run hu]), .bool _⟩
      · rename_i hu; cases h; exact ⟨_, neq_run (b := false) rfl (fun d => by rw [Op.equalIn]; simp [underlying_run hu]), .bool _⟩
      · cases h
  · cases ha; cases hb
    refine ⟨⟨by simp, by simp⟩, ?_⟩
    split at h
    · rename_i hu; cases h; exact ⟨_, eql_run (b := false) rfl (fun d => by rw [Op.equalIn]; simp [underlying_run hu]), .bool _⟩
    · rename_i hu; cases h; exact ⟨_, neq_run (b := false) rfl (fun d => by rw [Op.equalIn]; simp [underlying_run hu]), .bool _⟩
    · cases h
  · cases ha; cases hb
    refine ⟨⟨by simp, by simp⟩, ?_⟩
    split at h
    · rename_i hu; cases h; exact ⟨_, eql_run (b := false) rfl (fun d => by rw [Op.equalIn]; simp [underlying_run hu]), .bool _⟩
    · rename_i hu; cases h; exact ⟨_, neq_run (b := false) rfl (fun d => by rw [Op.equalIn]; simp [underlying_run hu]), .bool _⟩
    · cases h
  · cases ha; cases hb
    refine ⟨⟨by simp, by simp⟩, ?_⟩
    split at h
    · rename_i hu; cases h; exact ⟨_, eql_run (b := false) rfl (fun d => by rw [Op.equalIn]; simp [underlying_run hu]), .bool _⟩
    · rename_i hu; cases h; exact ⟨_, neq_run (b := false) rfl (fun d => by rw [Op.equalIn]; simp [underlying_run hu]), .bool _⟩
    · cases h
  · cases ha; cases hb
    refine ⟨⟨by simp, by simp⟩, ?_⟩
    split at h
    · rename_i hu; cases h; exact ⟨_, eql_run (b := false) rfl (fun d => by rw [Op.equalIn]; simp [underlying_run hu]), .bool _⟩
    · rename_i hu; cases h; exact ⟨_, neq_run (b := false) rfl (fun d => by rw [Op.equalIn]; simp [underlying_run hu]), .bool _⟩
    · cases h
  · cases h

end
end Go.V

/- The logic V, part 8: vop is sound, operation by operation. -/
namespace Go.V
section
variable {P : Program} {w w' : World} {g g' : Gh} {H : Hp} {F : Fr} {tm : Array Value} {o : Oper} {pre : Prop} {d : D}

theorem gives_move {x : Operand} (ho : execOp (evalT tm) o = pure (.value (evalT tm x))) (hF : FRel w g F tm) (h : F.eval x = some d) : Gives P tm o w g d :=
  .same (by rw [ho]; rfl) (evalT_of hF h)

theorem gives_pick {c a b : Operand} {t : Bool} (ho : o.op = .pick c a b) (hF : FRel w g F tm) (hc : F.eval c = some (.bool t)) (h : F.eval (if t then a else b) = some d) : Gives P tm o w g d := by
  have he := rep_bool (evalT_of hF hc)
  refine .same (v := evalT tm (if t then a else b)) ?_ (evalT_of hF h)
  cases t <;> simp [execOp, ho, he, asBool]

theorem agg_nil_cases {a b : Value} (h : ¬ (a = .nilIface ∧ b = .nilIface) ∧ ¬ (∃ c d, a = .agg c ∧ b = .agg d)) (op : BinOp) (t : TypeId) (x y : Operand) {v : Value} (hr : (binOp op t a b).run P w = .ok v w) :
    (do eqGuard op t x y a b; binOp op t a b : Sem Value).run P w = .ok v w := by
  simp only [Sem.run_bind, eqGuard_plain op t x y h, Result.andThen_ok, hr]

theorem eqGuardIn_ints {t e : TypeId} {len : Nat} {k0 : IntKind} (ht : P.underlying t = some (.array len e)) (he : P.underlying e = some (.int k0)) : ∀ n, P.eqGuardType (n + 2) t = false
  | n => by simp [Program.eqGuardType, ht, he]

theorem gives_bin {op : BinOp} {t yt : TypeId} {x y : Operand} (ho : o.op = .binOp op t x y yt) (hF : FRel w g F tm) (h : vop P F o.op = some (pre, d)) (hp : pre) : Gives P tm o w g d := by
  rw [ho] at h
  simp only [vop] at h
  split at h
  · rename_i cs cs' ha hb
    have ra := evalT_of hF ha
    have rb := evalT_of hF hb
    split at h
    · rename_i n e ht
      split at h
      · rename_i k0 he hs
        cases hl : (Nat.beq cs.length n && Nat.beq cs'.length n) with
        | false => rw [hl] at h; cases h
        | true =>
          rw [hl] at h
          simp only [cond_true] at h
          simp only [Bool.and_eq_true] at hl
          have hl1 := Nat.eq_of_beq_eq_true hl.1
          have hl2 := Nat.eq_of_beq_eq_true hl.2
          split at h
          · rename_i b hbe
            generalize hva : evalT tm x = va at ra
            generalize hvb : evalT tm y = vb at rb
            cases ra with
            | @agg _ vs hn h1 hr =>
              cases rb with
              | @agg _ vs' hn' h1' hr' =>
                have := eqInts_rep (w := w) (g := g) cs cs' vs.toList vs'.toList b hbe ⟨by simpa using hn, fun i d v hd hv => hr i d v hd (by simpa using hv)⟩ ⟨by simpa using hn', fun i d v hd hv => hr' i d v hd (by simpa using hv)⟩
                have eqq : ∀ d, (Op.equalIn (d + 2) t (.agg vs) (.agg vs')).run P w = .ok b w := fun d => by
                  have := equalIn_ints (P := P) (w := w) ht he hs d vs.toList vs'.toList (by simp [hn, hl1]) this.2.1 b this.2.2
                  simpa using this
                have hg : (eqGuard op t x y (.agg vs) (.agg vs')).run P w = .ok () w := by
                  have hgt : P.eqGuardType P.depth t = false := by
                    have : P.depth = 2 * (P.types.size + Made.depth) + 2 := rfl
                    rw [this]
                    exact eqGuardIn_ints ht he _
                  unfold eqGuard
                  cases op <;> first
                    | rfl
                    | simp [hgt]
                split at h
                · cases h
                  refine .same (v := .bool b) ?_ (.bool _)
                  rw [execOp]
                  simp only [ho, hva, hvb, Sem.run_bind, hg, Result.andThen_ok, eql_run rfl eqq, Sem.run_pure]
                · cases h
                  refine .same (v := .bool (!b)) ?_ (.bool _)
                  rw [execOp]
                  simp only [ho, hva, hvb, Sem.run_bind, hg, Result.andThen_ok, neq_run rfl eqq, Sem.run_pure]
                · cases h
          · cases h
      · cases h
    · cases h
  · rename_i ha hb
    have ra := evalT_of hF ha
    have rb := evalT_of hF hb
    generalize hva : evalT tm x = va at ra
    generalize hvb : evalT tm y = vb at rb
    cases ra
    cases rb
    cases hcc : (isC x || isC y) with
    | false => rw [hcc] at h; cases h
    | true =>
      rw [hcc] at h
      simp only [cond_true] at h
      have hg : (eqGuard op t x y .nilIface .nilIface).run P w = .ok () w := by
        unfold eqGuard
        cases x <;> cases y <;> first
          | (simp [isC] at hcc; done)
          | (cases op <;> rfl)
      split at h
      · rename_i hu
        cases h
        refine .same (v := .bool true) ?_ (.bool _)
        rw [execOp]
        simp only [ho, hva, hvb, Sem.run_bind, hg, Result.andThen_ok, Sem.run_pure]
        rw [eql_run (b := true) rfl (fun d => by rw [Op.equalIn]; simp [underlying_run hu])]
        rfl
      · rename_i hu
        cases h
        refine .same (v := .bool false) ?_ (.bool _)
        rw [execOp]
        simp only [ho, hva, hvb, Sem.run_bind, hg, Result.andThen_ok, Sem.run_pure]
        rw [neq_run (b := true) rfl (fun d => by rw [Op.equalIn]; simp [underlying_run hu])]
        rfl
      · cases h
  · rename_i a b _ _ ha hb
    have ra := evalT_of hF ha
    have rb := evalT_of hF hb
    obtain ⟨hn, v, hr, hrep⟩ := binD_run h hp ra rb
    refine .same (v := v) ?_ hrep
    rw [execOp]
    simp only [ho]
    have := agg_nil_cases hn op t x y hr
    simp only [Sem.run_bind] at this ⊢
    rw [this]
    rfl
  · cases h

theorem gives_un {op : UnOp} {t : TypeId} {x : Operand} (ho : o.op = .unOp op t x) (hF : FRel w g F tm) (h : vop P F o.op = some (pre, d)) : Gives P tm o w g d := by
  rw [ho] at h
  simp only [vop] at h
  split at h
  · rename_i b hx
    cases h
    have := rep_bool (evalT_of hF hx)
    exact .same (v := .bool (!b)) (by simp [execOp, ho, this, Op.unary]) (.bool _)
  · rename_i k n hx
    cases h
    have := rep_int (evalT_of hF hx)
    exact .same (v := .int k (k.wrap (0 - n))) (by simp [execOp, ho, this, Op.unary, Op.intArith]) (.int _ _)
  · rename_i k n hx
    cases h
    have := rep_int (evalT_of hF hx)
    exact .same (v := .int k (k.wrap ((BitVec.ofInt k.bits (if k.signed then -1 else k.max) ^^^ BitVec.ofInt k.bits n).toNat))) (by simp only [execOp, ho, this, Op.unary, Op.intBits]; simp) (.int _ _)
  · cases h

theorem gives_convert {s t : TypeId} {x : Operand} (ho : o.op = .convert s t x) (hF : FRel w g F tm) (h : vop P F o.op = some (pre, d)) : Gives P tm o w g d := by
  rw [ho] at h
  simp only [vop] at h
  split at h
  · rename_i u k k' n hu ht hx
    cases h
    have := rep_int (evalT_of hF hx)
    refine .same (v := .int k (k.wrap n)) ?_ (.int _ _)
    simp only [execOp, ho, this, convert, Sem.run_bind, underlying_run hu, underlying_run ht, Result.andThen_ok]
    cases u <;> simp [Conv.intToInt]
  · rename_i u s' hu ht hx
    cases h
    have := rep_str (evalT_of hF hx)
    refine .same (v := .string s') ?_ (.str _)
    simp only [execOp, ho, this, convert, Sem.run_bind, underlying_run hu, underlying_run ht, Result.andThen_ok]
    cases u <;> simp
  · cases h
end
end Go.V

/- The logic V, part 9: vop is sound: reading snapshots, addresses, aggregates. -/
namespace Go.V
section
variable {P : Program} {w w' : World} {g g' : Gh} {H : Hp} {F : Fr} {tm : Array Value} {o : Oper} {pre : Prop} {d : D}

theorem rep_sptr {cs : List D} {off : Nat} {v : Value} (h : Rep w g (.sptr cs off) v) : ∃ (k base : Nat) (f : Nat → Value), v = .pointer (some ⟨k, base + off, none⟩) ∧ (cs ≠ [] → g.S k) ∧ (∀ d ∈ cs, d.one = true) ∧
    (∀ i : Nat, i < cs.length → w.cell? ⟨k, base + i, none⟩ = some (f i)) ∧ ∀ (i : Nat) (d : D), cs[i]? = some d → Rep w g d (f i) := by
  cases h with
  | sptr f hS h1 hc hr => exact ⟨_, _, f, rfl, hS, h1, hc, hr⟩

theorem rep_ptr {b off : Nat} {v : Value} (h : Rep w g (.ptr b off) v) : ∃ (k base : Nat), v = .pointer (some ⟨k, base + off, none⟩) ∧ g.ρ b = some (k, base) := by
  cases h with
  | ptr h => exact ⟨_, _, rfl, h⟩

theorem rep_agg {cs : List D} {v : Value} (h : Rep w g (.agg cs) v) : ∃ vs, v = .agg vs ∧ vs.size = cs.length ∧ (∀ d ∈ cs, d.one = true) ∧ ∀ (i : Nat) (d : D) (v : Value), cs[i]? = some d → vs[i]? = some v → Rep w g d v := by
  cases h with
  | agg hn h1 h => exact ⟨_, rfl, hn, h1, h⟩

theorem rep_tup {cs : List D} {v : Value} (h : Rep w g (.tup cs) v) : ∃ vs, v = .tuple vs ∧ vs.size = cs.length ∧ ∀ (i : Nat) (d : D) (v : Value), cs[i]? = some d → vs[i]? = some v → Rep w g d v := by
  cases h with
  | tup hn h => exact ⟨_, rfl, hn, h⟩

theorem lt_of_getElem? {α : Type} {l : List α} {i : Nat} {x : α} (h : l[i]? = some x) : i < l.length := (List.getElem?_eq_some_iff.1 h).1

theorem gives_load {t : TypeId} {x : Operand} (ho : o.op = .load t x) (hF : FRel w g F tm) (h : vop P F o.op = some (pre, d)) : Gives P tm o w g d := by
  rw [ho] at h
  simp only [vop] at h
  split at h
  · rename_i cs off u s hx hu hs
    obtain ⟨k, base, f, hv, hS, h1, hc, hr⟩ := rep_sptr (evalT_of hF hx)
    have ex : ∀ {v : Value}, (loadVar t ⟨k, base + off, none⟩).run P w = .ok v w → (execOp (evalT tm) o).run P w = .ok (.value v) w := fun hl => by
      simp only [execOp, ho, hv, Instr.loadAt, Instr.sureAddr]
      simp [hl]
    cases ha : isAggB u with
    | true =>
      rw [ha] at h
      simp only [cond_true] at h
      split at h
      · rename_i r hr'
        cases h
        obtain ⟨hl, hi⟩ := takeR_spec cs off s r hr'
        refine .same (v := .agg ((List.range s).map fun i => f (off + i)).toArray) (ex (loadVar_agg P w hu ha hs _ (by simp) ?_)) (.agg (by simp [hl]) (fun d hd => ?_) ?_)
        · intro j v hj
          have hj' : j < s := by have := lt_of_getElem? hj; simpa using this
          simp only [List.getElem?_map, List.getElem?_range hj', Option.map_some, Option.some.injEq] at hj
          subst hj
          obtain ⟨d, hd, _⟩ := hi j hj'
          rw [Nat.add_assoc]
          exact hc (off + j) (lt_of_getElem? hd)
        · obtain ⟨i, hi', rfl⟩ := List.getElem_of_mem hd
          obtain ⟨d, h2, h3⟩ := hi i (by omega)
          have : r[i] = d := by rw [List.getElem?_eq_getElem hi'] at h3; simpa using h3
          rw [this]
          exact h1 d (List.mem_of_getElem? h2)
        · intro i d v hd hv'
          have his : i < s := by rw [← hl]; exact lt_of_getElem? hd
          obtain ⟨d', h2, h3⟩ := hi i his
          rw [hd] at h3
          cases h3
          simp only [List.getElem?_toArray, List.getElem?_map, List.getElem?_range his, Option.map_some, Option.some.injEq] at hv'
          subst hv'
          exact hr (off + i) d h2
      · cases h
    | false =>
      rw [ha] at h
      simp only [cond_false] at h
      split at h
      · rename_i d' hd
        cases h
        exact .same (ex (loadVar_one P w hu ha (hc off (lt_of_getElem? hd)))) (hr off _ hd)
      · cases h
  · cases h

theorem gives_nilCheck {x : Operand} (ho : o.op = .nilCheck x) (hF : FRel w g F tm) (h : vop P F o.op = some (pre, d)) : Gives P tm o w g d := by
  rw [ho] at h
  simp only [vop] at h
  split at h
  · rename_i b off hx
    cases h
    have hr := evalT_of hF hx
    obtain ⟨k, base, hv, _⟩ := rep_ptr hr
    exact .same (v := evalT tm x) (by simp [execOp, ho, hv]) hr
  · rename_i cs off hx
    cases h
    have hr := evalT_of hF hx
    obtain ⟨k, base, f, hv, _⟩ := rep_sptr hr
    exact .same (v := evalT tm x) (by simp [execOp, ho, hv]) hr
  · cases h

theorem gives_makeInterface {t : TypeId} {x : Operand} (ho : o.op = .makeInterface t x) (hF : FRel w g F tm) (h : vop P F o.op = some (pre, d)) : Gives P tm o w g d := by
  rw [ho] at h
  simp only [vop] at h
  split at h
  · cases h
  · rename_i u d' hne hu hx
    cases h
    refine .same (v := .iface t (evalT tm x)) ?_ (.iface (evalT_of hF hx))
    simp only [execOp, ho, Instr.makeInterface, Sem.run_bind, underlying_run hu, Result.andThen_ok]
    cases u <;> first | rfl | (exact absurd hu (fun h => hne _ h))
  · cases h

theorem evals_rep (hF : FRel w g F tm) : ∀ (xs : List Operand) (ds : List D), evals F xs = some ds → RepL w g ds (xs.map (evalT tm))
  | [], ds, h => by simp only [evals, Option.some.injEq] at h; subst h; exact ⟨rfl, by simp⟩
  | x :: r, ds, h => by
    simp only [evals] at h
    split at h
    · rename_i d ds' hx hr
      cases h
      obtain ⟨hl, hrep⟩ := evals_rep hF r ds' hr
      refine ⟨by simpa using hl, fun i y z hy hz => ?_⟩
      cases i with
      | zero => simp only [List.map_cons, List.getElem?_cons_zero, Option.some.injEq] at hy hz; subst hy; subst hz; exact evalT_of hF hx
      | succ i => exact hrep i y z (by simpa using hy) (by simpa using hz)
    · cases h

theorem gives_makeFunc {f : Fn} {a c : Array Operand} (ho : o.op = .makeFunc f a c) (hF : FRel w g F tm) (h : vop P F o.op = some (pre, d)) : Gives P tm o w g d := by
  rw [ho] at h
  cases f <;> simp only [vop] at h <;> try (cases h; done)
  rename_i f
  split at h
  · rename_i ds ha hc
    cases h
    have he := evals_rep hF _ _ hc
    have ha' : a = #[] := by cases a; simp_all
    subst ha'
    refine .same (v := .func (.func f) #[] (c.map (evalT tm))) (by simp [execOp, ho, Instr.makeFunc]) (.fn (by simpa using he.1) (fun i d v hd hv => he.2 i d v hd ?_))
    have : (c.map (evalT tm)).toList[i]? = some v := by simpa using hv
    simpa using this
  · cases h

theorem fieldPlace_run {f : Field} {s : Nat} (hs : tySize P f.type = some (s + 1)) (k off : Nat) : (fieldPlace ⟨k, off, none⟩ f).run P w = .ok ⟨k, off + f.offset, none⟩ w := by
  unfold fieldPlace
  simp only [Sem.run_bind, sizeOf_run P w hs, Result.andThen_ok]
  simp [add_none]

theorem gives_fieldAddr {s : TypeId} {x : Operand} {i : Nat} (ho : o.op = .fieldAddr s x i) (hF : FRel w g F tm) (h : vop P F o.op = some (pre, d)) : Gives P tm o w g d := by
  rw [ho] at h
  simp only [vop] at h
  split at h
  · rename_i fs d' hu hx
    split at h
    · rename_i f hf
      have hf' : fs[i]? = some f := by simpa using hf
      split at h
      · rename_i sz hs
        have ex : ∀ k off, evalT tm x = .pointer (some ⟨k, off, none⟩) → (execOp (evalT tm) o).run P w = .ok (.value (.pointer (some ⟨k, off + f.offset, none⟩))) w := fun k off hv => by
          simp only [execOp, ho, Instr.fieldAt, Sem.run_bind, underlying_run hu, Result.andThen_ok, hf', hv, Instr.sureAddr, Sem.run_pure, fieldPlace_run hs k off]
        split at h
        · cases h
          obtain ⟨k, base, hv, hρ⟩ := rep_ptr (evalT_of hF hx)
          exact .same (ex _ _ hv) (by rw [Nat.add_assoc]; exact .ptr hρ)
        · cases h
          obtain ⟨k, base, f', hv, hS, h1, hc, hr⟩ := rep_sptr (evalT_of hF hx)
          exact .same (ex _ _ hv) (by rw [Nat.add_assoc]; exact .sptr f' hS h1 hc hr)
        · cases h
      · cases h
    · cases h
  · cases h

theorem part_run {t : TypeId} {u : TypeDesc} {n off : Nat} {cs : List D} {vs : Array Value} (hu : P.underlying t = some u) (hn : tySize P t = some n) (hl : vs.size = cs.length) (h1 : ∀ d ∈ cs, d.one = true)
    (hr : ∀ (i : Nat) (d : D) (v : Value), cs[i]? = some d → vs[i]? = some v → Rep w g d v) :
    (isAggB u = true → ∀ r, takeR cs off n = some r → ∃ v, (part t vs off).run P w = .ok v w ∧ Rep w g (.agg r) v) ∧
    (isAggB u = false → ∀ d, cs[off]? = some d → ∃ v, (part t vs off).run P w = .ok v w ∧ Rep w g d v) := by
  constructor
  · intro ha r hr'
    obtain ⟨hlr, hi⟩ := takeR_spec cs off n r hr'
    refine ⟨.agg (vs.extract off (off + n)), ?_, .agg ?_ ?_ ?_⟩
    · simp [part, isAgg_run P w hu, ha, sizeOf_run P w hn]
    · rcases Nat.eq_zero_or_pos n with h0 | h0
      · subst h0; simp [hlr]; omega
      · obtain ⟨d, h2, _⟩ := hi (n - 1) (by omega)
        have := lt_of_getElem? h2
        rw [Array.size_extract, hlr, hl]; omega
    · intro d hd
      obtain ⟨i, hi', rfl⟩ := List.getElem_of_mem hd
      obtain ⟨d, h2, h3⟩ := hi i (by omega)
      have : r[i] = d := by rw [List.getElem?_eq_getElem hi'] at h3; simpa using h3
      rw [this]
      exact h1 d (List.mem_of_getElem? h2)
    · intro i d v hd hv
      have his : i < n := by rw [← hlr]; exact lt_of_getElem? hd
      obtain ⟨d', h2, h3⟩ := hi i his
      rw [hd] at h3
      cases h3
      refine hr (off + i) d v h2 ?_
      rw [Array.getElem?_extract] at hv
      split at hv
      · exact hv
      · cases hv
  · intro ha d hd
    have hlt : off < vs.size := by rw [hl]; exact lt_of_getElem? hd
    refine ⟨vs[off], ?_, hr off d _ hd (by simp)⟩
    simp [part, isAgg_run P w hu, ha, hlt]

theorem gives_field {s : TypeId} {x : Operand} {i : Nat} (ho : o.op = .field s x i) (hF : FRel w g F tm) (h : vop P F o.op = some (pre, d)) : Gives P tm o w g d := by
  rw [ho] at h
  simp only [vop] at h
  split at h
  · rename_i fs cs hu hx
    split at h
    · rename_i f hf
      have hf' : fs[i]? = some f := by simpa using hf
      split at h
      · rename_i u n hfu hn
        obtain ⟨vs, hv, hl, h1, hr⟩ := rep_agg (evalT_of hF hx)
        have pr := part_run (P := P) (off := f.offset) hfu hn hl h1 hr
        have ex : ∀ {v : Value}, (part f.type vs f.offset).run P w = .ok v w → (execOp (evalT tm) o).run P w = .ok (.value v) w := fun hp => by
          simp only [execOp, ho, Instr.field, Sem.run_bind, underlying_run hu, Result.andThen_ok, hf', hv, asAgg, Sem.run_pure, hp]
        cases ha : isAggB u with
        | true =>
          rw [ha] at h
          simp only [cond_true] at h
          split at h
          · rename_i r hr'
            cases h
            obtain ⟨v, a, b⟩ := pr.1 ha r hr'
            exact .same (ex a) b
          · cases h
        | false =>
          rw [ha] at h
          simp only [cond_false] at h
          split at h
          · rename_i d' hd
            cases h
            obtain ⟨v, a, b⟩ := pr.2 ha _ hd
            exact .same (ex a) b
          · cases h
      · cases h
    · cases h
  · cases h

theorem rep_snap {cs : List D} {len : Nat} {t : Bool} {v : Value} (h : Rep w g (.snap cs len t) v) : ∃ (a : Option Addr) (k base cap : Nat) (f : Nat → Value), v = .slice a len cap ∧ (a = some ⟨k, base, none⟩ ∨ (len = 0 ∧ cap = 0 ∧ cs = [])) ∧ (cs ≠ [] → g.S k) ∧ (∀ d ∈ cs, d.one = true) ∧
    len ≤ cap ∧ (t = true → cap = len) ∧ (∀ i : Nat, i < cs.length → w.cell? ⟨k, base + i, none⟩ = some (f i)) ∧ ∀ (i : Nat) (d : D), cs[i]? = some d → Rep w g d (f i) := by
  cases h with
  | snap f hS h1 hl ht hc hr => exact ⟨_, _, _, _, f, rfl, .inl rfl, hS, h1, hl, ht, hc, hr⟩
  | snapNil a t => exact ⟨a, 0, 0, 0, fun _ => default, rfl, .inr ⟨rfl, rfl, rfl⟩, by simp, by simp, Nat.le_refl _, by simp, by simp, by simp⟩

theorem rep_live {b off len c sz : Nat} {v : Value} (h : Rep w g (.live b off len c sz) v) : ∃ (k base x cap : Nat), v = .slice (some ⟨k, x, none⟩) len cap ∧ g.ρ b = some (k, base) ∧ (cap = 0 ∨ x = base + off) ∧ len ≤ c ∧ c ≤ cap ∧
    (cap = 0 ∨ ∃ n, cellsN w k = some n ∧ x + cap * sz ≤ n) := by
  cases h with
  | live h hx hl hc hn => exact ⟨_, _, _, _, rfl, h, hx, hl, hc, hn⟩

theorem gives_indexAddr {t : TypeId} {x i : Operand} (ho : o.op = .indexAddr t x i) (hF : FRel w g F tm) (h : vop P F o.op = some (pre, d)) (hp : pre) : Gives P tm o w g d := by
  rw [ho] at h
  simp only [vop] at h
  split at h
  · rename_i e d' kk n hu hx hi
    have hi' := rep_int (evalT_of hF hi)
    split at h
    · rename_i s hs
      have ex : ∀ k off len cap, evalT tm x = .slice (some ⟨k, off, none⟩) len cap → 0 ≤ n → n < len → (execOp (evalT tm) o).run P w = .ok (.value (.pointer (some ⟨k, off + n.toNat * s, none⟩))) w := fun k off len cap hv h0 h1 => by
        simp only [execOp, ho, Instr.indexAt, Sem.run_bind, hi', asIntOf, Sem.run_pure, underlying_run hu, Result.andThen_ok, hv]
        simp [h0, h1, add_none, sizeOf_run P w hs]
      split at h
      · cases h
        obtain ⟨a, k, base, cap, f, hv, ha, hS, h1, hl, ht, hc, hr⟩ := rep_snap (evalT_of hF hx)
        obtain rfl := ha.resolve_right (fun h => by have := hp.1; have := hp.2; omega)
        exact .same (ex _ _ _ _ hv hp.1 hp.2) (.sptr f hS h1 hc hr)
      · cases h
        obtain ⟨k, base, x', cap, hv, hρ, hxx, hl, hc, hn⟩ := rep_live (evalT_of hF hx)
        have : cap ≠ 0 := by have := hp.2; have := hp.1; omega
        obtain rfl := hxx.resolve_left this
        exact .same (ex _ _ _ _ hv hp.1 hp.2) (by rw [Nat.add_assoc]; exact .ptr hρ)
      · cases h
    · cases h
  · rename_i len e d' kk n hu hx hi
    have hi' := rep_int (evalT_of hF hi)
    split at h
    · rename_i s hs
      have ex : ∀ k off, evalT tm x = .pointer (some ⟨k, off, none⟩) → 0 ≤ n → n < len → (execOp (evalT tm) o).run P w = .ok (.value (.pointer (some ⟨k, off + n.toNat * s, none⟩))) w := fun k off hv h0 h1 => by
        simp only [execOp, ho, Instr.indexAt, Sem.run_bind, hi', asIntOf, Sem.run_pure, underlying_run hu, Result.andThen_ok, hv, Instr.sureAddr]
        simp [h0, h1, add_none, sizeOf_run P w hs]
      split at h
      · cases h
        obtain ⟨k, base, f, hv, hS, h1, hc, hr⟩ := rep_sptr (evalT_of hF hx)
        exact .same (ex _ _ hv hp.1 hp.2) (by rw [Nat.add_assoc]; exact .sptr f hS h1 hc hr)
      · cases h
        obtain ⟨k, base, hv, hρ⟩ := rep_ptr (evalT_of hF hx)
        exact .same (ex _ _ hv hp.1 hp.2) (by rw [Nat.add_assoc]; exact .ptr hρ)
      · cases h
    · cases h
  · cases h

theorem gives_index {t : TypeId} {x i : Operand} (ho : o.op = .index t x i) (hF : FRel w g F tm) (h : vop P F o.op = some (pre, d)) (hp : pre) : Gives P tm o w g d := by
  rw [ho] at h
  simp only [vop] at h
  split at h
  · rename_i len e cs kk n hu hx hi
    have hi' := rep_int (evalT_of hF hi)
    split at h
    · rename_i u s hue hs
      obtain ⟨vs, hv, hl, h1, hr⟩ := rep_agg (evalT_of hF hx)
      cases hb : (isAggB u || !Nat.beq s 1) with
      | true => rw [hb] at h; cases h
      | false =>
        rw [hb] at h
        simp only [cond_false, Option.some.injEq, Prod.mk.injEq] at h
        obtain ⟨rfl, rfl⟩ := h
        simp only [Bool.or_eq_false_iff, Bool.not_eq_false'] at hb
        have hs1 := Nat.eq_of_beq_eq_true hb.2
        subst hs1
        obtain ⟨⟨h0, hn⟩, hc⟩ := hp
        have hd : cs[n.toNat]? = some (cs.getD n.toNat .inil) := by simp [List.getD_eq_getElem?_getD, hc]
        obtain ⟨v, a, b⟩ := (part_run (P := P) (off := n.toNat) hue hs hl h1 hr).2 hb.1 _ hd
        refine .same (v := v) ?_ b
        simp only [execOp, ho, Instr.index, Sem.run_bind, hi', asIntOf, Sem.run_pure, underlying_run hu, Result.andThen_ok, hv]
        simp [h0, hn, sizeOf_run P w hs, a]
    · cases h
  · rename_i s kk n hu hx hi
    cases h
    have hi' := rep_int (evalT_of hF hi)
    have hs := rep_str (evalT_of hF hx)
    have hlt : n.toNat < s.size := by omega
    refine .same (v := .int .u8 ((s.data.toList.getD n.toNat 0).toNat : Int)) ?_ (.int _ _)
    simp only [execOp, ho, Instr.index, Sem.run_bind, hi', asIntOf, Sem.run_pure, underlying_run hu, Result.andThen_ok, hs]
    have hb : s[n.toNat]? = some (s.data.toList.getD n.toNat 0) := by
      rw [getElem?_pos s n.toNat hlt]
      congr 1
      have : n.toNat < s.data.toList.length := by simpa using hlt
      rw [List.getD_eq_getElem?_getD, List.getElem?_eq_getElem this]
      rfl
    simp only [hp.1, if_true, hb]
    rfl
  · cases h

theorem gives_extract {x : Operand} {i : Nat} (ho : o.op = .extract x i) (hF : FRel w g F tm) (h : vop P F o.op = some (pre, d)) : Gives P tm o w g d := by
  rw [ho] at h
  simp only [vop] at h
  split at h
  · rename_i ds hx
    split at h
    · rename_i d' hd
      cases h
      obtain ⟨vs, hv, hl, hr⟩ := rep_tup (evalT_of hF hx)
      have hlt : i < vs.size := by rw [hl]; exact lt_of_getElem? hd
      exact .same (v := vs[i]) (by simp [execOp, ho, hv, Instr.extract, hlt]) (hr i _ _ hd (by simp))
    · cases h
  · cases h

theorem zeroD_run {t : TypeId} {z : D} (h : zeroD P t = some z) : ∃ v, (zeroValue t).run P w = .ok v w ∧ Rep w g z v := by
  unfold zeroD at h
  split at h
  · rename_i i hi
    split at h
    · rename_i v hz
      refine ⟨v, by simp [zeroValue, typeInfo, hi, hz], ?_⟩
      exact evalT_of (F := []) (tm := #[]) (x := .const v) (fun t d hd => by cases hd) h
    · cases h
  · cases h

theorem gives_typeAssert {x : Operand} {a b : TypeId} {ok : Bool} (ho : o.op = .typeAssert x a b ok) (hF : FRel w g F tm) (h : vop P F o.op = some (pre, d)) : Gives P tm o w g d := by
  rw [ho] at h
  simp only [vop] at h
  split at h
  · cases h
  · rename_i u t d' hne hu hx
    have hr := evalT_of hF hx
    obtain ⟨v, hv, hrv⟩ : ∃ v, evalT tm x = .iface t v ∧ Rep w g d' v := by
      generalize evalT tm x = y at hr
      cases hr with
      | iface hr => exact ⟨_, rfl, hr⟩
    cases htb : Nat.beq t b with
    | true =>
      rw [htb] at h
      obtain rfl := Nat.eq_of_beq_eq_true htb
      simp only [cond_true] at h
      have hex : ∀ vv, (if ok then Value.tuple #[v, .bool true] else v) = vv → (execOp (evalT tm) o).run P w = .ok (.value vv) w := fun vv hvv => by
        subst hvv
        simp only [execOp, ho, Instr.typeAssert, Sem.run_bind, underlying_run hu, Result.andThen_ok, hv]
        cases u <;> first | (exact absurd hu (fun h => hne _ h)) | simp
      cases ok with
      | true => cases h; exact .same (hex _ rfl) (.tup rfl (by
          intro i d v' hd hv'
          match i with
          | 0 => simp at hd hv'; subst hd; subst hv'; exact hrv
          | 1 => simp at hd hv'; subst hd; subst hv'; exact .bool _
          | i + 2 => simp at hd))
      | false => cases h; exact .same (hex _ rfl) hrv
    | false =>
      rw [htb] at h
      simp only [cond_false] at h
      have htne : t ≠ b := fun e => by subst e; rw [Nat.beq_refl] at htb; cases htb
      cases ok with
      | false => cases h
      | true =>
        simp only [cond_true] at h
        split at h
        · rename_i z hz
          cases h
          obtain ⟨zv, hzr, hzrep⟩ := zeroD_run (P := P) (w := w) (g := g) hz
          refine .same (v := .tuple #[zv, .bool false]) ?_ (.tup rfl (by
            intro i d v' hd hv'
            match i with
            | 0 => simp at hd hv'; subst hd; subst hv'; exact hzrep
            | 1 => simp at hd hv'; subst hd; subst hv'; exact .bool _
            | i + 2 => simp at hd))
          simp only [execOp, ho, Instr.typeAssert, Sem.run_bind, underlying_run hu, Result.andThen_ok, hv]
          cases u <;> first | (exact absurd hu (fun h => hne _ h)) | simp [htne, hzr]
        · cases h
  · rename_i u hne hu hx
    have hr := evalT_of hF hx
    have hv : evalT tm x = .nilIface := by
      generalize evalT tm x = y at hr
      cases hr; rfl
    cases ok with
    | false => cases h
    | true =>
      simp only [cond_true] at h
      split at h
      · rename_i z hz
        cases h
        obtain ⟨zv, hzr, hzrep⟩ := zeroD_run (P := P) (w := w) (g := g) hz
        refine .same (v := .tuple #[zv, .bool false]) ?_ (.tup rfl (by
          intro i d v' hd hv'
          match i with
          | 0 => simp at hd hv'; subst hd; subst hv'; exact hzrep
          | 1 => simp at hd hv'; subst hd; subst hv'; exact .bool _
          | i + 2 => simp at hd))
        simp only [execOp, ho, Instr.typeAssert, Sem.run_bind, underlying_run hu, Result.andThen_ok, hv]
        cases u <;> first | (exact absurd hu (fun h => hne _ h)) | simp [hzr]
      · cases h
  · cases h
end
end Go.V

/- The logic V, part 10: vop is sound: slices, len, build. -/
namespace Go.V
section
variable {P : Program} {w w' : World} {g g' : Gh} {H : Hp} {F : Fr} {tm : Array Value} {o : Oper} {pre : Prop} {d : D}

theorem bound_run (hF : FRel w g F tm) {x : Option Operand} {dflt n : Int} (h : bound F x dflt = some n) : (x = none ∧ n = dflt) ∨ ∃ y k, x = some y ∧ evalT tm y = .int k n := by
  cases x with
  | none => simp only [bound, Option.some.injEq] at h; exact .inl ⟨rfl, h.symm⟩
  | some y =>
    simp only [bound] at h
    split at h
    · rename_i k n' hy
      cases h
      exact .inr ⟨y, k, rfl, rep_int (evalT_of hF hy)⟩
    · cases h

theorem sliceBounds2 (len cap : Nat) (l h : Int) (lo hi : Option Value) (hl : (lo = none ∧ l = 0) ∨ ∃ k, lo = some (.int k l)) (hh : (hi = none ∧ h = len) ∨ ∃ k, hi = some (.int k h)) (h0 : 0 ≤ l) (h1 : l ≤ h) (h2 : h ≤ cap) :
    (Instr.sliceBounds true len cap lo hi none).run P w = .ok (l.toNat, h.toNat, cap) w := by
  have hh0 : 0 ≤ h := by omega
  have e2 : (h.toNat : Int) = h := Int.toNat_of_nonneg hh0
  rcases hl with ⟨rfl, rfl⟩ | ⟨k, rfl⟩ <;> rcases hh with ⟨rfl, rfl⟩ | ⟨k', rfl⟩
  · simp [Instr.sliceBounds]
  · simp [Instr.sliceBounds, run_sliceBound w k' h cap _ hh0 h2]
  · simp [Instr.sliceBounds, run_sliceBound w k l len _ h0 h1]
  · simp [Instr.sliceBounds, run_sliceBound w k' h cap _ hh0 h2, run_sliceBound w k l h.toNat _ h0 (by omega)]

theorem sliceBounds3 (len cap : Nat) (l h m : Int) (lo : Option Value) (k2 k3 : IntKind) (hl : (lo = none ∧ l = 0) ∨ ∃ k, lo = some (.int k l)) (h0 : 0 ≤ l) (h1 : l ≤ h) (h2 : h ≤ m) (h3 : m ≤ cap) :
    (Instr.sliceBounds true len cap lo (some (.int k2 h)) (some (.int k3 m))).run P w = .ok (l.toNat, h.toNat, m.toNat) w := by
  have hh0 : 0 ≤ h := by omega
  have hm0 : 0 ≤ m := by omega
  rcases hl with ⟨rfl, rfl⟩ | ⟨k, rfl⟩
  · simp [Instr.sliceBounds, run_sliceBound w k3 m cap _ hm0 h3, run_sliceBound w k2 h m.toNat _ hh0 (by omega)]
  · simp [Instr.sliceBounds, run_sliceBound w k3 m cap _ hm0 h3, run_sliceBound w k2 h m.toNat _ hh0 (by omega), run_sliceBound w k l h.toNat _ h0 (by omega)]

theorem sliceAt_run {t e : TypeId} {s : Nat} (ht : P.underlying t = some (.slice e)) (hs : tySize P e = some s) {a : Option Addr} {len cap l h m : Nat} {lo hi mx : Option Value}
    (hb : (Instr.sliceBounds true len cap lo hi mx).run P w = .ok (l, h, m) w) :
    (Instr.sliceAt t (.slice a len cap) lo hi mx).run P w = .ok (.slice (if m = l then a else a.map (·.add (l * s))) (h - l) (m - l)) w := by
  simp only [Instr.sliceAt, Sem.run_bind, underlying_run ht, Result.andThen_ok, Instr.slice, hb, sizeOf_run P w hs, Sem.run_pure]

theorem snap_slice {cs : List D} {len cap k base : Nat} {f : Nat → Value} (hS : cs ≠ [] → g.S k) (h1 : ∀ d ∈ cs, d.one = true)
    (hc : ∀ i : Nat, i < cs.length → w.cell? ⟨k, base + i, none⟩ = some (f i)) (hr : ∀ (i : Nat) (d : D), cs[i]? = some d → Rep w g d (f i))
    {l h m s : Nat} {tight : Bool} (hlh : l ≤ h) (hhm : h ≤ m) (ht : tight = true → m = h) (_ : m ≤ cap) (_ : len ≤ cap) :
    Rep w g (.snap ((cs.drop (l * s)).take ((h - l) * s)) (h - l) tight) (.slice (if m = l then some ⟨k, base, none⟩ else (some ⟨k, base, none⟩ : Option Addr).map (·.add (l * s))) (h - l) (m - l)) := by
  have hmem : ∀ d ∈ (cs.drop (l * s)).take ((h - l) * s), d ∈ cs := fun d hd => List.mem_of_mem_drop (List.mem_of_mem_take hd)
  by_cases hml : m = l
  · have : h = l := by omega
    subst hml; subst this
    simp only [if_true, Nat.sub_self, Nat.zero_mul, List.take_zero]
    exact .snap f (by simp) (by simp) (Nat.le_refl _) (by simp) (by simp) (by simp)
  · simp only [hml, if_false, Option.map_some, add_none]
    refine .snap (fun i => f (l * s + i)) (fun hne => hS (fun e => hne (by simp [e]))) (fun d hd => h1 d (hmem d hd)) (by omega) (fun h => by have := ht h; omega) ?_ ?_
    · intro i hi
      have hi' : l * s + i < cs.length := by simp at hi; omega
      rw [Nat.add_assoc]
      exact hc _ hi'
    · intro i d hd
      refine hr (l * s + i) d ?_
      rw [List.getElem?_take] at hd
      split at hd
      · rwa [List.getElem?_drop] at hd
      · cases hd

theorem gives_slice {t : TypeId} {x : Operand} {lo hi mx : Option Operand} (ho : o.op = .slice t x lo hi mx) (hF : FRel w g F tm) (h : vop P F o.op = some (pre, d)) (hp : pre) : Gives P tm o w g d := by
  rw [ho] at h
  simp only [vop] at h
  split at h
  · rename_i e d' hu hx
    split at h
    · rename_i s l hh hs hlo hhi
      have hx' := evalT_of hF hx
      have hl' : (lo.map (evalT tm) = none ∧ l = 0) ∨ ∃ k, lo.map (evalT tm) = some (.int k l) := by
        rcases bound_run hF hlo with ⟨rfl, rfl⟩ | ⟨y, k, rfl, hy⟩
        · exact .inl ⟨rfl, rfl⟩
        · exact .inr ⟨k, by simp [hy]⟩
      have hh' : (hi.map (evalT tm) = none ∧ hh = lenD d') ∨ ∃ k, hi.map (evalT tm) = some (.int k hh) := by
        rcases bound_run hF hhi with ⟨rfl, rfl⟩ | ⟨y, k, rfl, hy⟩
        · exact .inl ⟨rfl, rfl⟩
        · exact .inr ⟨k, by simp [hy]⟩
      have ex : ∀ {v : Value}, (Instr.sliceAt t (evalT tm x) (lo.map (evalT tm)) (hi.map (evalT tm)) (mx.map (evalT tm))).run P w = .ok v w → (execOp (evalT tm) o).run P w = .ok (.value v) w := fun hr => by
        rw [execOp]
        simp only [ho, Sem.run_bind, hr, Result.andThen_ok, Sem.run_pure]
      split at h
      · -- two indices
        unfold sliceD2 at h
        split at h
        · rename_i cs len tight
          cases h
          obtain ⟨h0, h1, h2⟩ := hp
          obtain ⟨a, k, base, cap, f, hv, ha, hS, h1', hl, ht, hc, hr⟩ := rep_snap hx'
          have hb := sliceBounds2 (P := P) (w := w) len cap l hh (lo.map (evalT tm)) (hi.map (evalT tm)) hl' (by simpa [lenD] using hh') h0 h1 (by omega)
          have hrun := sliceAt_run (P := P) (a := a) hu hs hb
          rw [← hv] at hrun
          rcases ha with rfl | ⟨rfl, rfl, rfl⟩
          rotate_left
          · have e1 : l.toNat = 0 := by omega
            have e2 : hh.toNat = 0 := by omega
            refine .same (ex hrun) ?_
            rw [e1, e2]
            simp only [List.drop_nil, List.take_nil, Nat.sub_self, if_true]; exact .snapNil _ _
          exact .same (ex hrun) (snap_slice hS h1' hc hr (by omega) (by omega) (fun e => by simp at e; have := ht e.1; omega) (Nat.le_refl _) hl)
        · rename_i b off len c z
          cases hz : Nat.beq z s with
          | false => rw [hz] at h; cases h
          | true =>
            rw [hz] at h
            obtain rfl := Nat.eq_of_beq_eq_true hz
            cases h
            obtain ⟨h0, h1, h2⟩ := hp
            obtain ⟨k, base, x', cap, hv, hρ, hxx, hl, hc, hn⟩ := rep_live hx'
            have hb := sliceBounds2 (P := P) (w := w) len cap l hh (lo.map (evalT tm)) (hi.map (evalT tm)) hl' (by simpa [lenD] using hh') h0 h1 (by omega)
            have hrun := sliceAt_run (P := P) (a := some ⟨k, x', none⟩) hu hs hb
            rw [← hv] at hrun
            refine .same (ex hrun) ?_
            by_cases hml : cap = l.toNat
            · simp only [hml, if_true, Nat.sub_self]
              exact .live hρ (.inl rfl) (by omega) (by omega) (.inl rfl)
            · simp only [hml, if_false, Option.map_some, add_none]
              have hc0 : cap ≠ 0 := by omega
              obtain rfl := hxx.resolve_left hc0
              obtain ⟨n, hn1, hn2⟩ := hn.resolve_left hc0
              refine .live hρ (.inr (by omega)) (by omega) (by omega) (.inr ⟨n, hn1, ?_⟩)
              have : cap * z = l.toNat * z + (cap - l.toNat) * z := by rw [← Nat.add_mul]; congr 1; omega
              omega
        · cases h
          obtain ⟨rfl, rfl⟩ := hp
          have hv : evalT tm x = .slice none 0 0 := by
            generalize evalT tm x = y at hx'
            cases hx'; rfl
          have hb := sliceBounds2 (P := P) (w := w) 0 0 0 0 (lo.map (evalT tm)) (hi.map (evalT tm)) hl' (by simpa [lenD] using hh') (by omega) (by omega) (by omega)
          have hrun := sliceAt_run (P := P) (a := none) hu hs hb
          rw [← hv] at hrun
          exact .same (ex hrun) .snil
        · cases h
      · -- three
        rename_i ymx
        split at h
        · rename_i yhi km m hm
          have hm' := rep_int (evalT_of hF hm)
          obtain ⟨k2, hk2⟩ : ∃ k, evalT tm yhi = .int k hh := by
            rcases hh' with ⟨e, _⟩ | ⟨k, e⟩
            · cases e
            · exact ⟨k, by simpa using e⟩
          simp only [Option.map_some, hm', hk2] at ex
          unfold sliceD3 at h
          split at h
          · rename_i cs len tight
            cases h
            obtain ⟨h0, h1, h2, h3⟩ := hp
            obtain ⟨a, k, base, cap, f, hv, ha, hS, h1', hl, ht, hc, hr⟩ := rep_snap hx'
            have hb := sliceBounds3 (P := P) (w := w) len cap l hh m (lo.map (evalT tm)) k2 km hl' h0 h1 h2 (by omega)
            have hrun := sliceAt_run (P := P) (a := a) hu hs hb
            rw [← hv] at hrun
            rcases ha with rfl | ⟨rfl, rfl, rfl⟩
            rotate_left
            · have e1 : l.toNat = 0 := by omega
              have e2 : hh.toNat = 0 := by omega
              have e3 : m.toNat = 0 := by omega
              refine .same (ex hrun) ?_
              rw [e1, e2, e3]
              simp only [List.drop_nil, List.take_nil, Nat.sub_self, if_true]; exact .snapNil _ _
            exact .same (ex hrun) (snap_slice hS h1' hc hr (by omega) (by omega) (fun e => by have := of_decide_eq_true e; omega) (by omega) hl)
          · rename_i b off len c z
            cases hz : Nat.beq z s with
            | false => rw [hz] at h; cases h
            | true =>
              rw [hz] at h
              obtain rfl := Nat.eq_of_beq_eq_true hz
              cases h
              obtain ⟨h0, h1, h2, h3⟩ := hp
              obtain ⟨k, base, x', cap, hv, hρ, hxx, hl, hc, hn⟩ := rep_live hx'
              have hb := sliceBounds3 (P := P) (w := w) len cap l hh m (lo.map (evalT tm)) k2 km hl' h0 h1 h2 (by omega)
              have hrun := sliceAt_run (P := P) (a := some ⟨k, x', none⟩) hu hs hb
              rw [← hv] at hrun
              refine .same (ex hrun) ?_
              by_cases hml : m.toNat = l.toNat
              · simp only [hml, if_true, Nat.sub_self]
                exact .live hρ (.inl rfl) (by omega) (by omega) (.inl rfl)
              · simp only [hml, if_false, Option.map_some, add_none]
                have hc0 : cap ≠ 0 := by omega
                obtain rfl := hxx.resolve_left hc0
                obtain ⟨n, hn1, hn2⟩ := hn.resolve_left hc0
                refine .live hρ (.inr (by omega)) (by omega) (by omega) (.inr ⟨n, hn1, ?_⟩)
                have h4 : l.toNat * z + (m.toNat - l.toNat) * z = m.toNat * z := by rw [← Nat.add_mul]; congr 1; omega
                have h5 : m.toNat * z ≤ cap * z := Nat.mul_le_mul_right _ (by omega)
                omega
          · cases h
            obtain ⟨rfl, rfl, rfl⟩ := hp
            have hv : evalT tm x = .slice none 0 0 := by
              generalize evalT tm x = y at hx'
              cases hx'; rfl
            have hb := sliceBounds3 (P := P) (w := w) 0 0 0 0 0 (lo.map (evalT tm)) k2 km hl' (by omega) (by omega) (by omega) (by omega)
            have hrun := sliceAt_run (P := P) (a := none) hu hs hb
            rw [← hv] at hrun
            exact .same (ex hrun) .snil
          · cases h
        · cases h
    · cases h
  · rename_i n e cs off hu hx
    split at h
    · rename_i s hs
      cases h
      obtain ⟨k, base, f, hv, hS, h1, hc, hr⟩ := rep_sptr (evalT_of hF hx)
      have ex : (execOp (evalT tm) o).run P w = .ok (.value (.slice (some ⟨k, base + off, none⟩) n n)) w := by
        rw [execOp]
        simp only [ho, Option.map_none, Instr.sliceAt, Sem.run_bind, underlying_run hu, Result.andThen_ok, hv, Instr.sureAddr, Sem.run_pure, Instr.sliceBounds, sizeOf_run P w hs]
        by_cases hn : n = 0
        · subst hn; simp
        · simp [hn, add_none]
      refine .same ex (.snap (fun i => f (off + i)) (fun hne => hS (fun e => hne (by simp [e]))) (fun d hd => h1 d (List.mem_of_mem_drop (List.mem_of_mem_take hd))) (Nat.le_refl _) (fun _ => rfl) ?_ ?_)
      · intro i hi
        have hi' : off + i < cs.length := by simp at hi; omega
        rw [Nat.add_assoc]
        exact hc _ hi'
      · intro i d hd
        refine hr (off + i) d ?_
        rw [List.getElem?_take] at hd
        split at hd
        · rwa [List.getElem?_drop] at hd
        · cases hd
    · cases h
  · cases h
end
end Go.V

/- The logic V, part 11: vop is sound: len, max, min, build; and all together. -/
namespace Go.V
section
variable {P : Program} {w w' : World} {g g' : Gh} {H : Hp} {F : Fr} {tm : Array Value} {o : Oper} {pre : Prop} {d : D}

theorem overR_spec : ∀ (cs : List D) (off : Nat) (xs r : List D), overR cs off xs = some r → r.length = cs.length ∧ off + xs.length ≤ cs.length ∧
    ∀ i : Nat, r[i]? = if off ≤ i ∧ i < off + xs.length then xs[i - off]? else cs[i]?
  | cs, 0, [], r, h => by
    have : overR cs 0 [] = some cs := by cases cs <;> rfl
    rw [this] at h; cases h
    exact ⟨rfl, by simp, fun i => by rw [if_neg (by simp)]⟩
  | [], 0, _ :: _, r, h => by simp [overR] at h
  | _ :: cs, 0, x :: xs, r, h => by
    simp only [overR] at h
    split at h
    · rename_i r' hr
      cases h
      obtain ⟨h1, h2, h3⟩ := overR_spec cs 0 xs r' hr
      refine ⟨by simp [h1], by simp at h2 ⊢; omega, fun i => ?_⟩
      cases i with
      | zero => simp
      | succ i =>
        simp only [List.getElem?_cons_succ, h3 i, Nat.zero_le, true_and, Nat.zero_add, List.length_cons, Nat.sub_zero, Nat.add_lt_add_iff_right]
    · cases h
  | [], _ + 1, _, r, h => by simp [overR] at h
  | c :: cs, o + 1, xs, r, h => by
    simp only [overR] at h
    split at h
    · rename_i r' hr
      cases h
      obtain ⟨h1, h2, h3⟩ := overR_spec cs o xs r' hr
      refine ⟨by simp [h1], by simp; omega, fun i => ?_⟩
      cases i with
      | zero => simp
      | succ i =>
        simp only [List.getElem?_cons_succ, h3 i]
        by_cases hc : o ≤ i ∧ i < o + xs.length
        · rw [if_pos hc, if_pos (by omega)]
          congr 1
          omega
        · rw [if_neg hc, if_neg (by omega)]
    · cases h

theorem fold_set : ∀ (vs : List Value) (k off : Nat) (A : Array Value), off + k + vs.length ≤ A.size →
    ((vs.zipIdx k).foldl (fun cs (x : Value × Nat) => cs.setIfInBounds (off + x.2) x.1) A).size = A.size ∧
    ∀ i : Nat, ((vs.zipIdx k).foldl (fun cs (x : Value × Nat) => cs.setIfInBounds (off + x.2) x.1) A)[i]? = if off + k ≤ i ∧ i < off + k + vs.length then vs[i - (off + k)]? else A[i]?
  | [], k, off, A, _ => by
    refine ⟨rfl, fun i => ?_⟩
    rw [if_neg (by simp)]
    rfl
  | v :: vs, k, off, A, h => by
    simp only [List.length_cons] at h
    obtain ⟨h1, h2⟩ := fold_set vs (k + 1) off (A.setIfInBounds (off + k) v) (by simp; omega)
    simp only [List.zipIdx_cons, List.foldl_cons]
    refine ⟨by rw [h1]; simp, fun i => ?_⟩
    rw [h2 i]
    by_cases hc : off + (k + 1) ≤ i ∧ i < off + (k + 1) + vs.length
    · rw [if_pos hc, if_pos (by simp; omega)]
      rw [show i - (off + k) = (i - (off + (k + 1))) + 1 by omega]
      simp
    · rw [if_neg hc]
      by_cases hi : i = off + k
      · subst hi
        rw [if_pos (by simp), Array.getElem?_setIfInBounds_self_of_lt (by omega)]
        simp
      · rw [if_neg (by simp; omega)]
        rw [Array.getElem?_setIfInBounds_ne (by omega)]

theorem overR_rep {cs xs r : List D} {off : Nat} {A : Array Value} {v : Value} (h : overR cs off xs = some r) (hA : RepL w g cs A.toList) (hv : RepL w g xs v.cells.toList) :
    off + v.cells.size ≤ A.size ∧ RepL w g r (v.cells.zipIdx.foldl (fun cs (x : Value × Nat) => cs.setIfInBounds (off + x.2) x.1) A).toList := by
  obtain ⟨h1, h2, h3⟩ := overR_spec cs off xs r h
  have hAl : A.size = cs.length := by simpa using hA.1
  have hvl : v.cells.size = xs.length := by simpa using hv.1
  have hf := fold_set v.cells.toList 0 off A (by simp; omega)
  have he : v.cells.zipIdx.foldl (fun cs (x : Value × Nat) => cs.setIfInBounds (off + x.2) x.1) A = (v.cells.toList.zipIdx 0).foldl (fun cs (x : Value × Nat) => cs.setIfInBounds (off + x.2) x.1) A := by
    rw [← Array.foldl_toList]; simp
  rw [he]
  refine ⟨by omega, by rw [Array.length_toList, hf.1, hAl, h1], fun i d y hd hy => ?_⟩
  rw [h3 i] at hd
  have hy' : ((v.cells.toList.zipIdx 0).foldl (fun cs (x : Value × Nat) => cs.setIfInBounds (off + x.2) x.1) A)[i]? = some y := by simpa using hy
  rw [hf.2 i] at hy'
  simp only [Nat.add_zero, Array.length_toList] at hy'
  by_cases hc : off ≤ i ∧ i < off + xs.length
  · rw [if_pos hc] at hd
    rw [if_pos (by omega)] at hy'
    exact hv.2 _ d y hd hy'
  · rw [if_neg hc] at hd
    rw [if_neg (by omega)] at hy'
    exact hA.2 i d y hd (by simpa using hy')

theorem fillR_rep (place : Nat → Option (Nat × Nat)) (hF : FRel w g F tm) : ∀ (parts : List (Nat × Operand)) (cs r : List D) (A : Array Value), fillR place cs (parts.map fun (i, x) => (i, F.eval x)) = some r →
    RepL w g cs A.toList → (∀ d ∈ cs, d.one = true) → ∃ A', Instr.fill place A (parts.map fun (i, x) => (i, evalT tm x)) = some A' ∧ RepL w g r A'.toList ∧ (∀ d ∈ r, d.one = true)
  | [], cs, r, A, h, hA, h1 => by simp only [List.map_nil, fillR, Option.some.injEq] at h; subst h; exact ⟨A, rfl, hA, h1⟩
  | (i, x) :: parts, cs, r, A, h, hA, h1 => by
    simp only [List.map_cons] at h
    cases hx : F.eval x with
    | none => rw [hx] at h; simp [fillR] at h
    | some d =>
      rw [hx] at h
      simp only [fillR] at h
      split at h
      · rename_i off size hp
        cases hb : (Nat.beq d.cells.length size && d.notTup) with
        | false => rw [hb] at h; cases h
        | true =>
          rw [hb] at h
          simp only [cond_true] at h
          simp only [Bool.and_eq_true] at hb
          split at h
          · rename_i cs' hcs
            have hr := evalT_of hF hx
            have hsz := Nat.eq_of_beq_eq_true hb.1
            have hc := hr.cells
            obtain ⟨hle, hA'⟩ := overR_rep hcs hA hc
            have h1' : ∀ d ∈ cs', d.one = true := by
              intro y hy
              obtain ⟨j, hj, rfl⟩ := List.getElem_of_mem hy
              have h3 := (overR_spec cs off d.cells cs' hcs).2.2 j
              rw [List.getElem?_eq_getElem hj] at h3
              split at h3
              · exact hr.cells_one hb.2 _ (List.mem_of_getElem? h3.symm)
              · exact h1 _ (List.mem_of_getElem? h3.symm)
            obtain ⟨A', e1, e2, e3⟩ := fillR_rep place hF parts cs' r _ h hA' h1'
            refine ⟨A', ?_, e2, e3⟩
            have hvs : (evalT tm x).cells.size = size := by
              have := hc.1
              simp only [Array.length_toList] at this
              omega
            simp only [List.map_cons, Instr.fill, hp]
            have : ((evalT tm x).cells.size ≠ size || off + (evalT tm x).cells.size > A.size) = false := by
              simp [hvs]; omega
            rw [hvs] at this hle
            simp only [hvs]
            rw [if_neg (by simp; omega)]
            exact e1
          · cases h
      · cases h

theorem fields_mapM : ∀ (fs : List Field) , (∀ f ∈ fs, (tySize P f.type).isSome = true) →
    (fs.mapM (fun f => (do pure (f.offset, ← sizeOf f.type) : Sem (Nat × Nat)))).run P w = .ok (fs.map fun f => (f.offset, (tySize P f.type).getD 0)) w
  | [], _ => by simp
  | f :: fs, h => by
    obtain ⟨s, hs⟩ := Option.isSome_iff_exists.1 (h f (by simp))
    simp only [List.mapM_cons, Sem.run_bind, sizeOf_run P w hs, Result.andThen_ok, Sem.run_pure, fields_mapM fs (fun f hf => h f (by simp [hf])), List.map_cons, hs, Option.getD_some]

theorem gives_build {t : TypeId} {parts : Array (Nat × Operand)} (ho : o.op = .build t parts) (hF : FRel w g F tm) (h : vop P F o.op = some (pre, d)) : Gives P tm o w g d := by
  rw [ho] at h
  simp only [vop] at h
  split at h
  · rename_i fs z hu hz
    cases hall : fs.toList.all (fun f => (tySize P f.type).isSome) with
    | false => rw [hall] at h; cases h
    | true =>
      rw [hall] at h
      simp only [cond_true] at h
      split at h
      · rename_i cs hcs
        cases h
        obtain ⟨zv, hzr, hzrep⟩ := zeroD_run (P := P) (w := w) (g := g) hz
        cases hzt : z.notTup with
        | false => rw [hzt] at hcs; cases hcs
        | true =>
          rw [hzt] at hcs
          simp only [cond_true] at hcs
          obtain ⟨A', e1, e2, e3⟩ := fillR_rep _ hF parts.toList z.cells cs zv.cells hcs hzrep.cells (hzrep.cells_one hzt)
          refine .same (v := .agg A') ?_ (.agg (by simpa using e2.1) e3 (fun i d v hd hv => e2.2 i d v hd (by simpa using hv)))
          rw [execOp]
          have hm := fields_mapM (P := P) (w := w) fs.toList (fun f hf => List.all_eq_true.1 hall f hf)
          have hm' : (fs.mapM (fun f => (do pure (f.offset, ← sizeOf f.type) : Sem (Nat × Nat)))).run P w = .ok (fs.toList.map fun f => (f.offset, (tySize P f.type).getD 0)).toArray w := by
            have : fs = fs.toList.toArray := by simp
            rw [this, List.mapM_toArray]
            simp only [Sem.run_map, hm, Result.andThen_ok]
          simp only [ho, Instr.build, Sem.run_bind, hzr, Result.andThen_ok, underlying_run hu, hm']
          have hpl : (fun (x : Nat) => ((fs.toList.map fun f => (f.offset, (tySize P f.type).getD 0)).toArray)[x]?) = (fun i => match fs.toList[i]? with
              | some f => match tySize P f.type with
                | some s => some (f.offset, s)
                | none => none
              | none => none) := by
            funext i
            simp only [List.getElem?_toArray, List.getElem?_map]
            cases hi : fs.toList[i]? with
            | none => rfl
            | some f =>
              obtain ⟨s, hs⟩ := Option.isSome_iff_exists.1 (List.all_eq_true.1 hall f (List.mem_of_getElem? hi))
              simp [hs]
          have hparts : (parts.map fun (x : Nat × Operand) => (x.1, evalT tm x.2)).toList = parts.toList.map fun (i, x) => (i, evalT tm x) := by simp
          have e1' : Instr.fill (fun (x : Nat) => ((fs.toList.map fun f => (f.offset, (tySize P f.type).getD 0)).toArray)[x]?) zv.cells (parts.toList.map fun (i, x) => (i, evalT tm x)) = some A' := by
            rw [hpl]; exact e1
          simp only [hparts, e1']
          rfl
      · cases h
  · rename_i n e z hu hz
    split at h
    · rename_i s hs
      split at h
      · rename_i cs hcs
        cases h
        obtain ⟨zv, hzr, hzrep⟩ := zeroD_run (P := P) (w := w) (g := g) hz
        cases hzt : z.notTup with
        | false => rw [hzt] at hcs; cases hcs
        | true =>
          rw [hzt] at hcs
          simp only [cond_true] at hcs
          obtain ⟨A', e1, e2, e3⟩ := fillR_rep _ hF parts.toList z.cells cs zv.cells hcs hzrep.cells (hzrep.cells_one hzt)
          refine .same (v := .agg A') ?_ (.agg (by simpa using e2.1) e3 (fun i d v hd hv => e2.2 i d v hd (by simpa using hv)))
          rw [execOp]
          have hparts : (parts.map fun (x : Nat × Operand) => (x.1, evalT tm x.2)).toList = parts.toList.map fun (i, x) => (i, evalT tm x) := by simp
          simp only [ho, Instr.build, Sem.run_bind, hzr, Result.andThen_ok, underlying_run hu, sizeOf_run P w hs, hparts, e1]
          rfl
      · cases h
    · cases h
  · cases h
end
end Go.V

/- The logic V, part 12: vop is sound: literals of slices, len, cap, max, min; and all operations together. -/
namespace Go.V
section
variable {P : Program} {w w' : World} {g g' : Gh} {H : Hp} {F : Fr} {tm : Array Value} {o : Oper} {pre : Prop} {d : D}

theorem repR_rep {z : D} {zv : Value} (hz : RepL w g z.cells zv.cells.toList) (h1 : ∀ d ∈ z.cells, d.one = true) (s n : Nat) (hs : z.cells.length = s) (hp : 1 ≤ s) :
    RepL w g (repR n z.cells) ((Array.range (n * s)).map (fun i => zv.cells[i % zv.cells.size]!)).toList ∧ ∀ d ∈ repR n z.cells, d.one = true := by
  have hzs : zv.cells.size = s := by have := hz.1; simp only [Array.length_toList] at this; omega
  have hlen : ∀ n, (repR n z.cells).length = n * s := by
    intro n
    induction n with
    | zero => simp [repR]
    | succ n ih => simp only [repR, List.length_append, ih, hs, Nat.add_mul, Nat.one_mul]; omega
  have hget : ∀ n (i : Nat), i < n * s → (repR n z.cells)[i]? = z.cells[i % s]? := by
    intro n
    induction n with
    | zero => intro i hi; simp at hi
    | succ n ih =>
      intro i hi
      simp only [repR]
      rw [List.getElem?_append]
      split
      · rw [Nat.mod_eq_of_lt (by omega)]
      · rw [hs]
        have : (i - s) % s = i % s := by rw [Nat.mod_eq_sub_mod (a := i) (by omega)]
        rw [ih (i - s) (by rw [Nat.add_mul] at hi; omega), this]
  refine ⟨⟨by simp [hlen], fun i d v hd hv => ?_⟩, ?_⟩
  · have hi : i < n * s := by rw [← hlen n]; exact lt_of_getElem? hd
    rw [hget n i hi] at hd
    have hm : i % s < s := Nat.mod_lt _ hp
    simp only [Array.toList_map, List.getElem?_map, Array.toList_range, List.getElem?_range hi, Option.map_some, Option.some.injEq] at hv
    subst hv
    refine hz.2 _ d _ hd ?_
    rw [hzs]
    have hm' : i % s < zv.cells.size := by omega
    simp [hm']
  · intro d hd
    obtain ⟨i, hi, rfl⟩ := List.getElem_of_mem hd
    have h := hget n i (by rw [← hlen n]; exact hi)
    rw [List.getElem?_eq_getElem hi] at h
    exact h1 _ (List.mem_of_getElem? h.symm)

theorem rep_of_list {cs : List D} {A : Array Value} {k : Nat} {e : TypeId} {fr : Nat × Nat} (hw : w.heap[k]? = some (.cells A e fr)) (hA : RepL w g cs A.toList) :
    (∀ i : Nat, i < cs.length → w.cell? ⟨k, 0 + i, none⟩ = some ((A[i]?).getD default)) ∧ ∀ (i : Nat) (d : D), cs[i]? = some d → Rep w g d ((A[i]?).getD default) := by
  have hl : A.size = cs.length := by simpa using hA.1
  constructor
  · intro i hi
    have : i < A.size := by omega
    simp [World.cell?, hw, this]
  · intro i d hd
    have : i < A.size := by have := lt_of_getElem? hd; omega
    exact hA.2 i d _ hd (by simp [this])

theorem gives_buildSlice {t : TypeId} {n : Nat} {parts : Array (Nat × Operand)} (ho : o.op = .buildSlice t n parts) (hH : HRel w g H) (hF : FRel w g F tm) (h : vop P F o.op = some (pre, d)) : Gives P tm o w g d := by
  rw [ho] at h
  simp only [vop] at h
  split at h
  · rename_i e s by_ hel
    cases hc : (Nat.ble (n * s) 16777216 && Nat.ble 1 s) with
    | false => rw [hc] at h; cases h
    | true =>
      rw [hc] at h
      simp only [cond_true] at h
      simp only [Bool.and_eq_true, Nat.ble_eq] at hc
      split at h
      · rename_i z hz
        cases hzc : (Nat.beq z.cells.length s && z.notTup) with
        | false => rw [hzc] at h; cases h
        | true =>
          rw [hzc] at h
          simp only [cond_true] at h
          simp only [Bool.and_eq_true] at hzc
          have hzl := Nat.eq_of_beq_eq_true hzc.1
          split at h
          · rename_i cs hcs
            cases h
            obtain ⟨zv, hzr, hzrep⟩ := zeroD_run (P := P) (w := w) (g := g) hz
            have hsl : P.underlying t = some (.slice e) ∧ tySize P e = some s := by
              unfold elemOfSlice at hel
              split at hel
              · rename_i e' hu
                split at hel
                · rename_i i hi
                  simp only [Option.some.injEq, Prod.mk.injEq] at hel
                  obtain ⟨rfl, rfl, _⟩ := hel
                  exact ⟨hu, by simp [tySize, hi]⟩
                · cases hel
              · cases hel
            obtain ⟨hR, hR1⟩ := repR_rep (w := w) (g := g) hzrep.cells (hzrep.cells_one hzc.2) s n hzl hc.2
            obtain ⟨A', e1, e2, e3⟩ := fillR_rep _ hF parts.toList _ cs _ hcs hR hR1
            have hg' := Grew.alloc w g A' e
            refine ⟨.slice (some ⟨w.heap.size, 0, none⟩) n n, _, _, ?_, hg', ?_⟩
            · rw [execOp]
              have hparts : (parts.map fun (x : Nat × Operand) => (x.1, evalT tm x.2)).toList = parts.toList.map fun (i, x) => (i, evalT tm x) := by simp
              simp only [ho, Instr.buildSlice, Sem.run_bind, underlying_run hsl.1, Result.andThen_ok, sizeOf_run P w hsl.2]
              rw [if_neg (by omega)]
              simp only [Sem.run_pure]
              by_cases hn0 : n * s = 0
              · have : n = 0 := by rcases Nat.mul_eq_zero.1 hn0 with h | h; exact h; omega
                subst this
                simp only [Nat.zero_mul, if_true, hparts]
                simp only [Nat.zero_mul] at e1
                have e1' : Instr.fill (fun i => some (i * s, s)) (Array.map (fun x => (#[] : Array Value)[x % (#[] : Array Value).size]!) (Array.range 0)) (parts.toList.map fun (i, x) => (i, evalT tm x)) = some A' := by
                  rw [show (Array.range 0 : Array Nat) = #[] from rfl, Array.map_empty] at e1 ⊢; exact e1
                simp only [e1', newRow, Sem.run_bind, run_newObj, Result.andThen_ok, Sem.run_pure]
                rfl
              · rw [if_neg hn0]
                simp only [Sem.run_bind, hzr, Result.andThen_ok, Sem.run_pure, hparts, e1, newRow, run_newObj]
                rfl
            · have hl : A'.size = cs.length := by simpa using e2.1
              have kp := (hg'.ev (H := H) H.length).keeps hH (Nat.le_refl _)
              have hr := rep_of_list (heap_alloc_new w (.cells A' e)) (e2.keeps kp)
              exact .snap _ (fun _ => .inr rfl) e3 (Nat.le_refl _) (fun _ => rfl) hr.1 hr.2
          · cases h
      · cases h
  · cases h

theorem gives_builtin {b : Builtin} {args : Array Operand} {at_ : Array TypeId} (ho : o.op = .call { callee := .builtin b, args, argTypes := at_ }) (hF : FRel w g F tm) (h : vop P F o.op = some (pre, d)) : Gives P tm o w g d := by
  have ex : ∀ {v : Value}, (builtin b at_ o.type (args.map fun | .const _ => true | _ => false) (args.map (evalT tm))).run P w = .ok (.value v) w → (execOp (evalT tm) o).run P w = .ok (.value v) w := fun hr => by
    rw [execOp]
    simp only [ho, resolve, invoke, Sem.run_bind, Sem.run_pure, Result.andThen_ok]
    exact hr
  rw [ho] at h
  cases b <;> simp only [vop] at h <;> try (cases h; done)
  case len =>
    split at h
    · rename_i t x hat hax
      have hA : at_ = #[t] := by cases at_; simp_all
      have hX : args = #[x] := by cases args; simp_all
      subst hA; subst hX
      split at h
      · rename_i e cs n tight hu hx
        cases h
        obtain ⟨a, k, base, cap, f, hv, _⟩ := rep_snap (evalT_of hF hx)
        exact .same (ex (by simp [builtin, Builtin.len_, underlying_run hu, hv, goInt])) (.int _ _)
      · rename_i e b' off n c z hu hx
        cases h
        obtain ⟨k, base, x', cap, hv, _⟩ := rep_live (evalT_of hF hx)
        exact .same (ex (by simp [builtin, Builtin.len_, underlying_run hu, hv, goInt])) (.int _ _)
      · rename_i e hu hx
        cases h
        have hr := evalT_of hF hx
        have hv : evalT tm x = .slice none 0 0 := by
          generalize evalT tm x = y at hr
          cases hr; rfl
        exact .same (ex (by simp [builtin, Builtin.len_, underlying_run hu, hv, goInt])) (.int _ _)
      · rename_i s hu hx
        cases h
        have hv := rep_str (evalT_of hF hx)
        exact .same (ex (by simp [builtin, Builtin.len_, underlying_run hu, hv, goInt])) (.int _ _)
      · rename_i n e d' hu hx
        cases h
        refine .same (v := goInt n) (ex ?_) (.int _ _)
        simp only [builtin, Builtin.len_, Sem.run_bind]
        simp [underlying_run hu]
      · cases h
    · cases h
  case cap =>
    split at h
    · rename_i t x hat hax
      have hA : at_ = #[t] := by cases at_; simp_all
      have hX : args = #[x] := by cases args; simp_all
      subst hA; subst hX
      split at h
      · rename_i e hu hx
        cases h
        have hr := evalT_of hF hx
        have hv : evalT tm x = .slice none 0 0 := by
          generalize evalT tm x = y at hr
          cases hr; rfl
        exact .same (ex (by simp [builtin, Builtin.cap_, underlying_run hu, hv, goInt])) (.int _ _)
      · rename_i e cs n hu hx
        cases h
        obtain ⟨a, k, base, cap, f, hv, _, _, _, _, ht, _⟩ := rep_snap (evalT_of hF hx)
        obtain rfl := ht rfl
        exact .same (ex (by simp [builtin, Builtin.cap_, underlying_run hu, hv, goInt])) (.int _ _)
      · cases h
    · cases h
  case max =>
    split at h
    · rename_i x y hax
      have hX : args = #[x, y] := by cases args; simp_all
      subst hX
      split at h
      · rename_i k a k' b' hx hy
        cases hk : decide (k = k') with
        | false => rw [hk] at h; cases h
        | true =>
          rw [hk] at h
          obtain rfl : k = k' := of_decide_eq_true hk
          cases h
          have h1 := rep_int (evalT_of hF hx)
          have h2 := rep_int (evalT_of hF hy)
          exact .same (ex (by simp [builtin, Builtin.max_, h1, h2, Builtin.max2])) (.int _ _)
      · cases h
    · cases h
  case min =>
    split at h
    · rename_i x y hax
      have hX : args = #[x, y] := by cases args; simp_all
      subst hX
      split at h
      · rename_i k a k' b' hx hy
        cases hk : decide (k = k') with
        | false => rw [hk] at h; cases h
        | true =>
          rw [hk] at h
          obtain rfl : k = k' := of_decide_eq_true hk
          cases h
          have h1 := rep_int (evalT_of hF hx)
          have h2 := rep_int (evalT_of hF hy)
          exact .same (ex (by simp [builtin, Builtin.min_, h1, h2, Builtin.min2])) (.int _ _)
      · cases h
    · cases h
  case append =>
    split at h
    · rename_i t t' x y hat hax
      have hA : at_ = #[t, t'] := by cases at_; simp_all
      have hX : args = #[x, y] := by cases args; simp_all
      subst hA; subst hX
      cases htt : Nat.beq t t' with
      | false => rw [htt] at h; cases h
      | true =>
        rw [htt] at h
        obtain rfl := Nat.eq_of_beq_eq_true htt
        simp only [cond_true] at h
        split at h
        · rename_i e s by_ hel hx hy
          cases h
          have hr := evalT_of hF hx
          have hv : evalT tm x = .slice none 0 0 := by
            generalize evalT tm x = y at hr
            cases hr; rfl
          have hr' := evalT_of hF hy
          have hv' : evalT tm y = .slice none 0 0 := by
            generalize evalT tm y = z at hr'
            cases hr'; rfl
          unfold elemOfSlice at hel
          split at hel
          · rename_i e' hu
            split at hel
            · rename_i i hi
              refine .same (v := .slice none 0 0) (ex ?_) .snil
              simp [builtin, Builtin.append_, underlying_run hu, hv, hv', sizeOf, typeInfo, hi, Builtin.lenOf, Builtin.firstCells]
            · cases hel
          · cases hel
        · cases h
    · cases h

theorem vop_gives (hH : HRel w g H) (hF : FRel w g F tm) (h : vop P F o.op = some (pre, d)) (hp : pre) : Gives P tm o w g d := by
  cases ho : o.op
  case move x =>
    have h' := h
    rw [ho] at h'
    simp only [vop] at h'
    split at h'
    · rename_i d' hx
      cases h'
      exact gives_move (by rw [execOp]; simp only [ho]) hF hx
    · cases h'
  case assign x =>
    have h' := h
    rw [ho] at h'
    simp only [vop] at h'
    split at h'
    · rename_i d' hx
      cases h'
      exact gives_move (by rw [execOp]; simp only [ho]) hF hx
    · cases h'
  case pick c a b =>
    have h' := h
    rw [ho] at h'
    simp only [vop] at h'
    split at h'
    · rename_i hc
      split at h'
      · rename_i d' hx
        cases h'
        exact gives_pick ho hF hc hx
      · cases h'
    · rename_i hc
      split at h'
      · rename_i d' hx
        cases h'
        exact gives_pick ho hF hc hx
      · cases h'
    · cases h'
  case binOp => exact gives_bin ho hF h hp
  case unOp => exact gives_un ho hF h
  case convert => exact gives_convert ho hF h
  case build => exact gives_build ho hF h
  case buildSlice => exact gives_buildSlice ho hH hF h
  case load => exact gives_load ho hF h
  case nilCheck => exact gives_nilCheck ho hF h
  case makeInterface => exact gives_makeInterface ho hF h
  case makeFunc => exact gives_makeFunc ho hF h
  case fieldAddr => exact gives_fieldAddr ho hF h
  case field => exact gives_field ho hF h
  case indexAddr => exact gives_indexAddr ho hF h hp
  case index => exact gives_index ho hF h hp
  case extract => exact gives_extract ho hF h
  case typeAssert => exact gives_typeAssert ho hF h
  case slice => exact gives_slice ho hF h hp
  case call c =>
    obtain ⟨callee, args, at_⟩ := c
    cases callee with
    | builtin b => exact gives_builtin ho hF h
    | value f => rw [ho] at h; simp [vop] at h
    | invoke r m => rw [ho] at h; simp [vop] at h
  all_goals (rw [ho] at h; simp [vop] at h)
end
end Go.V

/- The logic V, part 13: what becomes of the heap's description where a block is made, written, or moved. -/
namespace Go.V

def putAt (H : Hp) (b : Nat) (x : Blk) : Hp := if b < H.length then H.set b (some x) else H ++ List.replicate (b - H.length) none ++ [some x]

theorem putAt_len (H : Hp) (x : Blk) : putAt H H.length x = H ++ [some x] := by simp [putAt]

theorem putAt_length (H : Hp) (b : Nat) (x : Blk) : H.length ≤ (putAt H b x).length ∧ b < (putAt H b x).length := by
  unfold putAt
  split
  · simp; assumption
  · simp; omega

theorem putAt_length_le {H : Hp} {b : Nat} {x : Blk} {c : Nat} (h1 : H.length ≤ c) (h2 : b < c) : (putAt H b x).length ≤ c := by
  unfold putAt
  split
  · simpa using h1
  · simp; omega

theorem putAt_same (H : Hp) (b : Nat) (x : Blk) : (putAt H b x)[b]? = some (some x) := by
  unfold putAt
  split
  · rename_i h; rw [List.getElem?_set_self h]
  · rename_i h
    have h0 : (H ++ List.replicate (b - H.length) none).length = b := by simp; omega
    rw [List.getElem?_append_right (by omega), h0, Nat.sub_self]
    rfl

theorem putAt_other {H : Hp} {b c : Nat} {x y : Blk} (h : c ≠ b) : (putAt H b x)[c]? = some (some y) ↔ H[c]? = some (some y) := by
  unfold putAt
  split
  · rw [List.getElem?_set_ne (fun e => h e.symm)]
  · rename_i hb
    by_cases hc : c < H.length
    · rw [List.getElem?_append_left (by simp; omega), List.getElem?_append_left hc]
    · rw [List.getElem?_eq_none (l := H) (by omega)]
      constructor
      · intro he
        by_cases hc2 : c < b
        · rw [List.getElem?_append_left (by simp; omega), List.getElem?_append_right (by omega)] at he
          rw [List.getElem?_replicate] at he
          split at he <;> cases he
        · rw [List.getElem?_eq_none (by simp; omega)] at he
          cases he
      · intro he; cases he

theorem putAt_mem {H : Hp} {b c : Nat} {x y : Blk} (h : (putAt H b x)[c]? = some (some y)) : (c = b ∧ y = x) ∨ (c ≠ b ∧ H[c]? = some (some y)) := by
  by_cases hc : c = b
  · subst hc
    rw [putAt_same] at h
    exact .inl ⟨rfl, by simpa using h.symm⟩
  · exact .inr ⟨hc, (putAt_other hc).1 h⟩

theorem set_mem {H : Hp} {b c : Nat} {x : Option Blk} {y : Blk} (h : (H.set b x)[c]? = some (some y)) : (c = b ∧ x = some y) ∨ (c ≠ b ∧ H[c]? = some (some y)) := by
  by_cases hc : c = b
  · subst hc
    have hl : c < H.length := by have := (List.getElem?_eq_some_iff.1 h).1; simpa using this
    rw [List.getElem?_set_self hl] at h
    exact .inl ⟨rfl, by simpa using h⟩
  · rw [List.getElem?_set_ne (fun e => hc e.symm)] at h
    exact .inr ⟨hc, h⟩

structure Did (N nx : Nat) (w : World) (g : Gh) (H : Hp) (w' : World) (g' : Gh) (H' : Hp) : Prop where
  ev : Ev N w g (Lof g H) w' g' (Lof g' H')
  hrel : HRel w' g' H'
  kp : Keeps w g w' g'
  only : ∀ c, c ≠ nx → g'.ρ c = g.ρ c

section
variable {P : Program} {w w' w1 : World} {g g' g1 : Gh} {H H' H1 : Hp} {N nx : Nat}

theorem Did.trans (a : Did N nx w g H w1 g1 H1) (b : Did N nx w1 g1 H1 w' g' H') : Did N nx w g H w' g' H' :=
  ⟨a.ev.trans b.ev, b.hrel, ⟨fun k hk => (b.kp.cells k (a.kp.S k hk)).trans (a.kp.cells k hk), fun k n h => b.kp.shape k n (a.kp.shape k n h), fun k h => b.kp.S k (a.kp.S k h), fun c x h => b.kp.ρ c x (a.kp.ρ c x h)⟩, fun c hc => (b.only c hc).trans (a.only c hc)⟩

theorem Grew.did (e : Grew w g w' g') (h : HRel w g H) (N : Nat) : Did N nx w g H w' g' H :=
  ⟨e.ev N, e.hrel h, (e.ev H.length).keeps h (Nat.le_refl _), fun _ _ => by rw [e.ρ]⟩

def Gh.at (g : Gh) (b : Nat) (x : Nat × Nat) : Gh := { S := g.S, ρ := fun c => if c = b then some x else g.ρ c }

theorem Gh.at_ne {b c : Nat} {x : Nat × Nat} (h : c ≠ b) : (g.at b x).ρ c = g.ρ c := by simp [Gh.at, h]
theorem Gh.at_same {b : Nat} {x : Nat × Nat} : (g.at b x).ρ b = some x := by simp [Gh.at]

theorem Lof_lt (h : HRel w g H) {k : Nat} (hk : Lof g H k) : k < w.heap.size := by
  obtain ⟨b, x, base, hb, hr⟩ := hk
  cases x with
  | cells cs =>
    obtain ⟨k', base', c, e, hρ', hk', _⟩ := h.blk b cs hb
    rw [hr] at hρ'
    obtain ⟨rfl, _⟩ : k = k' ∧ base = base' := by simpa using hρ'
    exact (Array.getElem?_eq_some_iff.1 hk').1
  | loop r F =>
    obtain ⟨k', hρ', hk', _⟩ := h.loop b r F hb
    rw [hr] at hρ'
    obtain ⟨rfl, _⟩ : k = k' ∧ base = 0 := by simpa using hρ'
    exact (Array.getElem?_eq_some_iff.1 hk').1

theorem keeps_alloc (w : World) (g : Gh) (hH : HRel w g H) (o : Obj) {nx : Nat} (hn : g.ρ nx = none) : Keeps w g (w.alloc o) (g.at nx (w.heap.size, 0)) :=
  ⟨fun k hk => heap_alloc_old w _ k (hH.slt k hk), fun k n hk => by
    have := heap_alloc_old w o k (cellsN_lt hk)
    unfold cellsN at hk ⊢; rw [this]; exact hk, fun _ h => h, fun b x hb => by
    rw [Gh.at_ne (fun e => by subst e; rw [hn] at hb; cases hb)]; exact hb⟩

/-- A new block. -/
theorem did_alloc (hH : HRel w g H) {nx : Nat} (hn : g.ρ nx = none) (hN : N ≤ nx) {cs : List D} {c : Array Value} {e : TypeId} (hc : RepL w g cs (c.toList.take cs.length)) (h1 : ∀ d ∈ cs, d.one = true) :
    Did N nx w g H (w.alloc (.cells c e)) (g.at nx (w.heap.size, 0)) (putAt H nx (.cells cs)) := by
  have kp := keeps_alloc w g hH (.cells c e) hn
  have hLof : ∀ k, Lof (g.at nx (w.heap.size, 0)) (putAt H nx (.cells cs)) k → Lof g H k ∨ k = w.heap.size := by
    rintro k ⟨b, x, base, hb, hr⟩
    rcases putAt_mem hb with ⟨rfl, rfl⟩ | ⟨hne, hb'⟩
    · rw [Gh.at_same] at hr
      exact .inr (by simpa using (Prod.mk.inj (Option.some.inj hr)).1.symm)
    · rw [Gh.at_ne hne] at hr
      exact .inl ⟨b, x, base, hb', hr⟩
  have hsz : (w.alloc (.cells c e)).heap.size = w.heap.size + 1 := by simp
  have hcl : cs.length ≤ c.size := by
    have := hc.1
    simp only [List.length_take, Array.length_toList] at this
    omega
  refine ⟨⟨rfl, rfl, rfl, by omega, fun k hk _ => heap_alloc_old w _ k hk, kp.shape, fun _ h => h, fun k h => .inl h, fun k hk => (hLof k hk).imp id (fun h => by omega), fun b hb => Gh.at_ne (by omega)⟩, ?_, kp, fun _ hc => Gh.at_ne hc⟩
  refine ⟨fun k hk => let ⟨n, hn⟩ := hH.scell k hk; ⟨n, kp.shape k n hn⟩, ?_, ?_, ?_, ?_, ?_⟩
  · intro k hk hl
    rcases hLof k hl with h | h
    · exact hH.sL k hk h
    · have := hH.slt k hk; omega
  · intro b hb
    have hl := putAt_length H nx (.cells cs)
    rw [Gh.at_ne (by omega)]
    exact hH.dom b (by omega)
  · intro b ds hb
    rcases putAt_mem hb with ⟨rfl, he⟩ | ⟨hne, hb'⟩
    · cases he
      refine ⟨w.heap.size, 0, c, e, Gh.at_same, heap_alloc_new w _, by omega, h1, fun i d hd => ?_⟩
      have hi := lt_of_getElem? hd
      have hi' : i < c.size := by omega
      refine ⟨c[i], by simp [hi'], (hc.2 i d c[i] hd ?_).keeps kp⟩
      rw [List.getElem?_take]
      simp [hi, hi']
    · obtain ⟨k, base, c', e', h1', h2, h3, h4, h5⟩ := hH.blk b ds hb'
      exact ⟨k, base, c', e', by rw [Gh.at_ne hne]; exact h1', by rw [heap_alloc_old w _ k (Array.getElem?_eq_some_iff.1 h2).1]; exact h2, h3, h4, fun i d hd => let ⟨v, a, b⟩ := h5 i d hd; ⟨v, a, b.keeps kp⟩⟩
  · intro b r F hb
    rcases putAt_mem hb with ⟨rfl, he⟩ | ⟨hne, hb'⟩
    · cases he
    · obtain ⟨k, h1', h2, h3⟩ := hH.loop b r F hb'
      exact ⟨k, by rw [Gh.at_ne hne]; exact h1', by rw [heap_alloc_old w _ k (Array.getElem?_eq_some_iff.1 h2).1]; exact h2, h3.keeps kp⟩
  · intro b b' k base base' x x' hx hx' hr hr'
    rcases putAt_mem hx with ⟨rfl, _⟩ | ⟨hne, hb⟩ <;> rcases putAt_mem hx' with ⟨h2, _⟩ | ⟨hne', hb'⟩
    · exact h2.symm
    · rw [Gh.at_same] at hr
      rw [Gh.at_ne hne'] at hr'
      have h3 : k = w.heap.size := (Prod.mk.inj (Option.some.inj hr)).1.symm
      have := Lof_lt hH ⟨b', x', base', hb', hr'⟩
      omega
    · subst h2
      rw [Gh.at_same] at hr'
      rw [Gh.at_ne hne] at hr
      have h3 : k = w.heap.size := (Prod.mk.inj (Option.some.inj hr')).1.symm
      have := Lof_lt hH ⟨b, x, base, hb, hr⟩
      omega
    · rw [Gh.at_ne hne] at hr
      rw [Gh.at_ne hne'] at hr'
      exact hH.inj b b' k base base' x x' hb hb' hr hr'

theorem keeps_setRow (hH : HRel w g H) {k : Nat} (hk : Lof g H k) {c c' : Array Value} {e : TypeId} {fr : Nat × Nat} (hw : w.heap[k]? = some (.cells c e fr)) (hs : c'.size = c.size) : Keeps w g (w.setRow k c') g :=
  ⟨fun j hj => setRow_other w k j c' (fun e => hH.sL j hj (e ▸ hk)), fun j n hj => by
    by_cases he : j = k
    · subst he
      unfold cellsN at hj ⊢
      rw [hw] at hj
      rw [setRow_heap w j c c' e fr hw]
      simpa [hs] using hj
    · have := setRow_other w k j c' he
      unfold cellsN at hj ⊢; rw [this]; exact hj, fun _ h => h, fun _ _ h => h⟩

/-- A live block's cells are written. -/
theorem did_store (hH : HRel w g H) {b : Nat} {cs cs' : List D} (hb : H[b]? = some (some (.cells cs))) {k base : Nat} (hρ : g.ρ b = some (k, base)) {c c' : Array Value} {e : TypeId} (hw : w.heap[k]? = some (.cells c e (0, 0))) (hs : c'.size = c.size)
    (hl : base + cs'.length ≤ c.size) (h1 : ∀ d ∈ cs', d.one = true) (hc : ∀ (i : Nat) (d : D), cs'[i]? = some d → ∃ v, c'[base + i]? = some v ∧ Rep w g d v) :
    Did N nx w g H (w.setRow k c') g (H.set b (some (.cells cs'))) := by
  have hLk : Lof g H k := ⟨b, _, base, hb, hρ⟩
  have kp := keeps_setRow hH hLk hw hs
  have hLof : ∀ j, Lof g (H.set b (some (.cells cs'))) j → Lof g H j := by
    rintro j ⟨b', x, base', hb', hr⟩
    rcases set_mem hb' with ⟨rfl, _⟩ | ⟨hne, hb''⟩
    · rw [hρ] at hr
      have : k = j := (Prod.mk.inj (Option.some.inj hr)).1
      exact this ▸ hLk
    · exact ⟨b', x, base', hb'', hr⟩
  have old : ∀ b' x, b' ≠ b → H[b']? = some (some x) → ∀ j base', g.ρ b' = some (j, base') → j ≠ k := fun b' x hne hx j base' hr he => hne (hH.inj b' b k base' base x _ hx hb (he ▸ hr) hρ)
  refine ⟨⟨rfl, rfl, rfl, by simp, fun j hj hn => setRow_other w k j c' (fun e => hn (e ▸ hLk)), kp.shape, fun _ h => h, fun _ h => .inl h, fun j hj => .inl (hLof j hj), fun _ _ => rfl⟩, ?_, kp, fun _ _ => rfl⟩
  refine ⟨fun j hj => let ⟨n, hn⟩ := hH.scell j hj; ⟨n, kp.shape j n hn⟩, fun j hj hl => hH.sL j hj (hLof j hl), fun b' hb' => hH.dom b' (by simpa using hb'), ?_, ?_, ?_⟩
  · intro b' ds hb'
    rcases set_mem hb' with ⟨rfl, he⟩ | ⟨hne, hb''⟩
    · cases he
      exact ⟨k, base, c', e, hρ, setRow_heap w k c c' e _ hw, by omega, h1, fun i d hd => let ⟨v, a, b⟩ := hc i d hd; ⟨v, a, b.keeps kp⟩⟩
    · obtain ⟨j, base', c1, e1, x1, x2, x3, x4, x5⟩ := hH.blk b' ds hb''
      exact ⟨j, base', c1, e1, x1, by rw [setRow_other w k j c' (old b' _ hne hb'' j base' x1)]; exact x2, x3, x4, fun i d hd => let ⟨v, a, b⟩ := x5 i d hd; ⟨v, a, b.keeps kp⟩⟩
  · intro b' r F hb'
    rcases set_mem hb' with ⟨rfl, he⟩ | ⟨hne, hb''⟩
    · cases he
    · obtain ⟨j, x1, x2, x3⟩ := hH.loop b' r F hb''
      exact ⟨j, x1, by rw [setRow_other w k j c' (old b' _ hne hb'' j 0 x1)]; exact x2, x3.keeps kp⟩
  · intro b1 b2 j base1 base2 x x' hx hx' hr hr'
    have get : ∀ {b1 : Nat} {x : Blk}, (H.set b (some (.cells cs')))[b1]? = some (some x) → ∃ y, H[b1]? = some (some y) := fun h => by
      rcases set_mem h with ⟨rfl, _⟩ | ⟨_, h⟩
      · exact ⟨_, hb⟩
      · exact ⟨_, h⟩
    obtain ⟨y, hy⟩ := get hx
    obtain ⟨y', hy'⟩ := get hx'
    exact hH.inj b1 b2 j base1 base2 y y' hy hy' hr hr'

/-- A live block is let go. -/
theorem did_kill (hH : HRel w g H) (b : Nat) : Did N nx w g H w g (H.set b none) := by
  have mem : ∀ {c : Nat} {y : Blk}, (H.set b none)[c]? = some (some y) → H[c]? = some (some y) := fun h => by
    rcases set_mem h with ⟨_, h⟩ | ⟨_, h⟩
    · cases h
    · exact h
  have hLof : ∀ j, Lof g (H.set b none) j → Lof g H j := fun j ⟨b', x, base', hb', hr⟩ => ⟨b', x, base', mem hb', hr⟩
  exact ⟨⟨rfl, rfl, rfl, Nat.le_refl _, fun _ _ _ => rfl, fun _ _ h => h, fun _ h => h, fun _ h => .inl h, fun j hj => .inl (hLof j hj), fun _ _ => rfl⟩,
    ⟨hH.scell, fun k hk hl => hH.sL k hk (hLof k hl), fun b' hb' => hH.dom b' (by simpa using hb'), fun b' cs h => hH.blk b' cs (mem h), fun b' r F h => hH.loop b' r F (mem h), fun b1 b2 k base1 base2 x x' hx hx' => hH.inj b1 b2 k base1 base2 x x' (mem hx) (mem hx')⟩,
    .refl _ _, fun _ _ => rfl⟩

/-- The same real block under a new number, from a place further on. -/
theorem did_rename (hH : HRel w g H) {b nx : Nat} {cs cs' : List D} (hb : H[b]? = some (some (.cells cs))) {k base off : Nat} (hρ : g.ρ b = some (k, base)) (hn : g.ρ nx = none) (hN : N ≤ nx)
    (hcs : ∀ (i : Nat) (d : D), cs'[i]? = some d → cs[off + i]? = some d) (hle : cs' ≠ [] → off + cs'.length ≤ cs.length) (hle' : base + off ≤ (cellsN w k).getD 0) :
    Did N nx w g H w (g.at nx (k, base + off)) (putAt (H.set b none) nx (.cells cs')) := by
  have hnb : nx ≠ b := fun e => by subst e; rw [hn] at hρ; cases hρ
  have mem : ∀ {c : Nat} {y : Blk}, (H.set b none)[c]? = some (some y) → c ≠ b ∧ H[c]? = some (some y) := fun h => by
    rcases set_mem h with ⟨_, h⟩ | ⟨h1, h⟩
    · cases h
    · exact ⟨h1, h⟩
  obtain ⟨k', base', c, e, hρ', hk, hsz, hone, hcell⟩ := hH.blk b cs hb
  rw [hρ] at hρ'
  obtain ⟨rfl, rfl⟩ : k = k' ∧ base = base' := by simpa using hρ'
  have kp : Keeps w g w (g.at nx (k, base + off)) := ⟨fun _ _ => rfl, fun _ _ h => h, fun _ h => h, fun c x hc => by
    rw [Gh.at_ne (fun e => by subst e; rw [hn] at hc; cases hc)]; exact hc⟩
  have hLof : ∀ j, Lof (g.at nx (k, base + off)) (putAt (H.set b none) nx (.cells cs')) j → Lof g H j := by
    rintro j ⟨b', x, base', hb', hr⟩
    rcases putAt_mem hb' with ⟨rfl, _⟩ | ⟨hne, hb''⟩
    · rw [Gh.at_same] at hr
      have : k = j := (Prod.mk.inj (Option.some.inj hr)).1
      exact this ▸ ⟨b, _, base, hb, hρ⟩
    · rw [Gh.at_ne hne] at hr
      exact ⟨b', x, base', (mem hb'').2, hr⟩
  refine ⟨⟨rfl, rfl, rfl, Nat.le_refl _, fun _ _ _ => rfl, fun _ _ h => h, fun _ h => h, fun _ h => .inl h, fun j hj => .inl (hLof j hj), fun c hc => Gh.at_ne (by omega)⟩, ?_, kp, fun _ hc => Gh.at_ne hc⟩
  refine ⟨hH.scell, fun j hj hl => hH.sL j hj (hLof j hl), ?_, ?_, ?_, ?_⟩
  · intro b' hb'
    have hl := putAt_length (H.set b none) nx (.cells cs')
    rw [Gh.at_ne (by omega)]
    exact hH.dom b' (by simp at hl; omega)
  · intro b' ds hb'
    rcases putAt_mem hb' with ⟨rfl, he⟩ | ⟨hne, hb''⟩
    · cases he
      refine ⟨k, base + off, c, e, Gh.at_same, hk, ?_, fun d hd => ?_, fun i d hd => ?_⟩
      · by_cases hcs0 : cs' = []
        · subst hcs0
          simp only [cellsN, hk, Option.getD_some] at hle'
          simpa using hle'
        · have := hle hcs0; omega
      · obtain ⟨i, hi, rfl⟩ := List.getElem_of_mem hd
        exact hone _ (List.mem_of_getElem? (hcs i _ (by simp)))
      · obtain ⟨v, hv, hr⟩ := hcell (off + i) d (hcs i d hd)
        exact ⟨v, by rw [Nat.add_assoc]; exact hv, hr.keeps kp⟩
    · obtain ⟨j, base', c1, e1, x1, x2, x3, x4, x5⟩ := hH.blk b' ds (mem hb'').2
      exact ⟨j, base', c1, e1, by rw [Gh.at_ne hne]; exact x1, x2, x3, x4, fun i d hd => let ⟨v, a, b⟩ := x5 i d hd; ⟨v, a, b.keeps kp⟩⟩
  · intro b' r F hb'
    rcases putAt_mem hb' with ⟨rfl, he⟩ | ⟨hne, hb''⟩
    · cases he
    · obtain ⟨j, x1, x2, x3⟩ := hH.loop b' r F (mem hb'').2
      exact ⟨j, by rw [Gh.at_ne hne]; exact x1, x2, x3.keeps kp⟩
  · intro b1 b2 j base1 base2 x x' hx hx' hr hr'
    rcases putAt_mem hx with ⟨rfl, _⟩ | ⟨hne, hb1⟩ <;> rcases putAt_mem hx' with ⟨h2, _⟩ | ⟨hne', hb2⟩
    · exact h2.symm
    · rw [Gh.at_same] at hr
      rw [Gh.at_ne hne'] at hr'
      have h3 : k = j := (Prod.mk.inj (Option.some.inj hr)).1
      subst h3
      exact absurd (hH.inj b2 b k base2 base x' _ (mem hb2).2 hb hr' hρ) (mem hb2).1
    · subst h2
      rw [Gh.at_same] at hr'
      rw [Gh.at_ne hne] at hr
      have h3 : k = j := (Prod.mk.inj (Option.some.inj hr')).1
      subst h3
      exact absurd (hH.inj b1 b k base1 base x _ (mem hb1).2 hb hr hρ) (mem hb1).1
    · rw [Gh.at_ne hne] at hr
      rw [Gh.at_ne hne'] at hr'
      exact hH.inj b1 b2 j base1 base2 x x' (mem hb1).2 (mem hb2).2 hr hr'
end
end Go.V
