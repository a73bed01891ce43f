/- The definitions of an evaluator of the translated code over a heap of named blocks: no statement is proved here. -/
import Derived.WalkKit
import Derived.Orders
namespace Go.Proofs.YtocfhiafegkfkaaGreat.Ev
open Go

/-- A value whose names of blocks are replaced by the blocks' numbers. A slice's address may bear, as its spot, the name of its capacity, less what stands in the capacity's place. -/
def renAddr (ρ : Nat → Nat) (a : Addr) : Addr := ⟨ρ a.block, a.off, none⟩
/-- Where a slice of a slice begins: one that has used up its capacity begins where it did. -/
def capOff : Nat → Nat → Nat
  | 0, _ => 0
  | o + 1, cap => bif Nat.beq cap 0 then o else o + 1
mutual
def ren (ρ : Nat → Nat) : Value → Value
  | .pointer (some a) => .pointer (some (renAddr ρ a))
  | .slice (some a) n c => .slice (some ⟨ρ a.block, match a.spot with | none => a.off | some k => capOff a.off (ρ k + c), none⟩) n (match a.spot with | none => c | some k => ρ k + c)
  | .iface t v => .iface t (ren ρ v)
  | .func fn first cap => .func fn (renA ρ first) (renA ρ cap)
  | .agg cs => .agg (renA ρ cs)
  | .tuple vs => .tuple (renA ρ vs)
  | v => v
def renA (ρ : Nat → Nat) : Array Value → Array Value
  | ⟨l⟩ => ⟨renL ρ l⟩
def renL (ρ : Nat → Nat) : List Value → List Value
  | [] => []
  | v :: l => ren ρ v :: renL ρ l
end

/-- What is told of a hidden part of a heap: numbers and rows, and a block that they come to. -/
structure Hid where
  z : List Int
  l : List Int
  r : List Int
  b : List Bool
inductive HB where
  | cells (cs : List Value) (ty : TypeId)
  | own (k : IntKind) (l : List Int) (ty : TypeId) (c : Nat)
/-- A block: cells that are told one by one; a row of numbers; a row of bools; a row of records of numbers; a row whose whole length is the capacity that c names; a row that is only read, at a place inside a block, of which nothing else is told; a block that is there or not, as f tells, whose names are given by their places in ns. -/
inductive Blk where
  | cells (cs : List Value) (ty : TypeId)
  | ints (k : IntKind) (l : List Int) (ty : TypeId)
  | bools (l : List Bool) (ty : TypeId)
  | recs (ks : List IntKind) (l : List (List Int)) (ty : TypeId)
  | own (b : Blk) (c : Nat)
  | view (off : Nat) (b : Blk)
  | opt (ns : List Nat) (f : Hid → Option HB) (h : Hid)

/-- A heap: blocks by their names; the next name that is free; the names of blocks that were written to. -/
structure Hp where
  blks : List (Nat × Blk)
  next : Nat
  log : List Nat

def lookB (n : Nat) : List (Nat × Blk) → Option Blk
  | [] => none
  | (m, b) :: r => bif Nat.beq m n then some b else lookB n r
def updB (n : Nat) (b : Blk) : List (Nat × Blk) → List (Nat × Blk)
  | [] => []
  | (m, c) :: r => bif Nat.beq m n then (m, b) :: r else (m, c) :: updB n b r
def Hp.get (h : Hp) (n : Nat) : Option Blk := lookB n h.blks
def Hp.set (h : Hp) (n : Nat) (b : Blk) : Hp := ⟨updB n b h.blks, h.next, n :: h.log⟩
def Hp.add (h : Hp) (b : Blk) : Hp := ⟨(h.next, b) :: h.blks, h.next + 1, h.log⟩
def has (n : Nat) : List Nat → Bool
  | [] => false
  | m :: r => bif Nat.beq m n then true else has n r

def delB (n : List Nat) : List (Nat × Blk) → List (Nat × Blk)
  | [] => []
  | (m, b) :: r => bif has m n then delB n r else (m, b) :: delB n r
/-- A value that names no block. -/
def clo : Value → Bool
  | .int _ _ | .bool _ | .pointer none | .slice none _ _ | .nilFunc | .string _ => true
  | _ => false
def oneC : Value → Bool
  | .agg _ | .tuple _ => false
  | _ => true
def cellsV : Value → List Value
  | .agg ⟨l⟩ => l
  | v => [v]

inductive CK where
  | i (k : IntKind)
  | b
def eqC : List CK → List Value → List Value → Option (List Bool)
  | [], [], [] => some []
  | .i k :: ks, .int k1 x :: xs, .int k2 y :: ys => if k1 = k then (if k2 = k then (eqC ks xs ys).map ((x == y) :: ·) else none) else none
  | .b :: ks, .bool x :: xs, .bool y :: ys => (eqC ks xs ys).map ((x == y) :: ·)
  | _, _, _ => none
def andL : List Bool → Bool
  | [] => true
  | [b] => b
  | b :: c :: bs => b && andL (c :: bs)

/-- What is taken as told: contracts of functions; which types are rows of numbers and bools. -/
structure Env where
  P : Program
  orc : FuncId → List Value → Hp → Option (Value × Hp × List Prop)
  eqs : TypeId → Option (List CK)

section
variable (E : Env)

def zcells (e : TypeId) : Option (List Value) :=
  match E.P.info? e with
  | some i => match i.zero with
    | some z => if (cellsV z).all clo then some (cellsV z) else none
    | none => none
  | none => none
def shp (t : TypeId) : Option (Bool × Nat) :=
  match E.P.info? t with
  | some i => match E.P.underlying t with
    | some (.struct _) => some (true, i.size)
    | some (.array _ _) => some (true, i.size)
    | some _ => some (false, i.size)
    | none => none
  | none => none
def fldOff (s : TypeId) (f : Nat) : Option (Nat × TypeId) :=
  match E.P.underlying s with
  | some (.struct fs) => match fs[f]? with
    | some fd => match E.P.info? fd.type with
      | some i => if i.size = 0 then none else some (fd.offset, fd.type)
      | none => none
    | none => none
  | _ => none
def elemSz (t : TypeId) : Option (TypeId × Nat) :=
  match E.P.underlying t with
  | some (.slice e) => match E.P.info? e with
    | some i => some (e, i.size)
    | none => none
  | _ => none
def intKindOf (t : TypeId) : Option IntKind :=
  match E.P.underlying t with
  | some (.int k) => some k
  | _ => none
end

def rowV : List IntKind → List Int → List Value
  | [], _ => []
  | k :: ks, [] => .int k 0 :: rowV ks []
  | k :: ks, x :: xs => .int k x :: rowV ks xs
/-- The records' cells, when one is known only by its place. -/
def rowAt (ks : List IntKind) (l : List (List Int)) (i : Nat) : Nat → List Value
  | 0 => []
  | n + 1 => match ks with
    | [] => []
    | k :: ks' => .int k ((l.getD i []).getD 0 0) :: rowAt ks' (l.map List.tail) i n

def mulN (n s : Nat) : Nat := bif Nat.beq s 1 then n else n * s
def addN (a b : Nat) : Nat := bif Nat.beq a 0 then b else a + b
def divN (n s : Nat) : Nat := bif Nat.beq s 1 then n else n / s

def allK (k : IntKind) : List IntKind → Bool
  | [] => true
  | k' :: ks => if k' = k then allK k ks else false
def Blk.rowB : Blk → Bool
  | .ints _ _ _ | .bools _ _ | .recs _ _ _ => true
  | _ => false
/-- n cells from a place on. -/
def Blk.load (b : Blk) (off n : Nat) : Option (List Value × List Prop) :=
  match b with
  | .cells cs _ => let r := (cs.drop off).take n
    bif Nat.beq r.length n then some (r, []) else none
  | .ints k l _ => bif Nat.beq n 1 then some ([.int k (l.getD off 0)], [off < l.length]) else none
  | .bools l _ => bif Nat.beq n 1 then some ([.bool (l.getD off false)], [off < l.length]) else none
  | .recs ks l _ => bif Nat.beq n ks.length then some (rowAt ks l (off / n) n, [off % n = 0, off / n < l.length]) else
      match ks with
      | k :: ks' => bif Nat.beq n 1 && allK k ks' then some ([.int k ((l.getD (off / (ks'.length + 1)) []).getD (off % (ks'.length + 1)) 0)], [off / (ks'.length + 1) < l.length]) else none
      | [] => none
  | .own b _ => b.load off n
  | .view o b => bif b.rowB then
      match b.load (off - o) n with
      | some (vs, pc) => some (vs, (o ≤ off) :: pc)
      | none => none
    else none
  | .opt _ _ _ => none

def Blk.store (b : Blk) (off : Nat) (vs : List Value) : Option (Blk × List Prop) :=
  match b with
  | .cells cs ty => bif Nat.ble (off + vs.length) cs.length && vs.all oneC then some (.cells (cs.take off ++ (vs ++ cs.drop (off + vs.length))) ty, []) else none
  | .ints k l ty => match vs with
    | [.int k' x] => if k' = k then some (.ints k (l.set off x) ty, [off < l.length]) else none
    | _ => none
  | .own b c => match b.store off vs with
    | some (b', pc) => some (.own b' c, pc)
    | none => none
  | _ => none

/-- What an operand is. A string in a temporary says that nothing is known of it. -/
def aval (tm : List Value) : Operand → Option Value
  | .tmp t => match tm.getD t undef with
    | .string _ => none
    | v => some v
  | .const v => bif clo v then some v else none
  | .func f => some (.func (.func f) #[] #[])
  | .global _ => none
def avals (tm : List Value) : List Operand → Option (List Value)
  | [] => some []
  | x :: xs => match aval tm x with
    | some v => match avals tm xs with
      | some vs => some (v :: vs)
      | none => none
    | none => none

def ibin (op : BinOp) (k : IntKind) (a b : Int) : Option (Value × List Prop) :=
  match op with
  | .add => some (.int k (k.wrap (a + b)), [])
  | .sub => some (.int k (k.wrap (a - b)), [])
  | .mul => some (.int k (k.wrap (a * b)), [])
  | .quo => some (.int k (k.wrap (a.tdiv b)), [b ≠ 0])
  | .rem => some (.int k (a.tmod b), [b ≠ 0])
  | .and => some (.int k (k.wrap (BitVec.ofInt k.bits a &&& BitVec.ofInt k.bits b).toNat), [])
  | .or => some (.int k (k.wrap (BitVec.ofInt k.bits a ||| BitVec.ofInt k.bits b).toNat), [])
  | .xor => some (.int k (k.wrap (BitVec.ofInt k.bits a ^^^ BitVec.ofInt k.bits b).toNat), [])
  | .andNot => some (.int k (k.wrap (BitVec.ofInt k.bits a &&& ~~~ BitVec.ofInt k.bits b).toNat), [])
  | .eql => some (.bool (a == b), [])
  | .neq => some (.bool (a != b), [])
  | .lss => some (.bool (a < b), [])
  | .leq => some (.bool (a ≤ b), [])
  | .gtr => some (.bool (a > b), [])
  | .geq => some (.bool (a ≥ b), [])
  | _ => none
def ishift (op : BinOp) (k : IntKind) (a b : Int) : Option (Value × List Prop) :=
  match op with
  | .shl => some (.int k (k.wrap (a * 2 ^ min b.toNat k.bits)), [0 ≤ b])
  | .shr => some (.int k (a.fdiv (2 ^ min b.toNat k.bits)), [0 ≤ b])
  | _ => none

def abin (E : Env) (op : BinOp) (t : TypeId) (x y : Value) : Option (Value × List Prop) :=
  match x, y with
  | .int k a, .int k' b => match op with
    | .shl | .shr => ishift op k a b
    | _ => if k = k' then ibin op k a b else none
  | .bool a, .bool b => match E.P.underlying t with
    | some .bool => match op with
      | .eql => some (.bool (a == b), [])
      | .neq => some (.bool (!(a == b)), [])
      | _ => none
    | _ => none
  | .pointer a, .pointer none => match E.P.underlying t with
    | some (.pointer _) => match op with
      | .eql => some (.bool a.isNone, [])
      | .neq => some (.bool (!a.isNone), [])
      | _ => none
    | _ => none
  | .slice a _ _, .slice none _ _ => match E.P.underlying t with
    | some (.slice _) => match op with
      | .eql => some (.bool a.isNone, [])
      | .neq => some (.bool (!a.isNone), [])
      | _ => none
    | _ => none
  | .nilFunc, .nilFunc => match E.P.underlying t with
    | some (.func _ _ _) => match op with
      | .eql => some (.bool true, [])
      | .neq => some (.bool false, [])
      | _ => none
    | _ => none
  | .func _ _ _, .nilFunc => match E.P.underlying t with
    | some (.func _ _ _) => match op with
      | .eql => some (.bool false, [])
      | .neq => some (.bool true, [])
      | _ => none
    | _ => none
  | .agg ⟨xs⟩, .agg ⟨ys⟩ => match E.eqs t with
    | some ks => match eqC ks xs ys with
      | some bs => match op with
        | .eql => some (.bool (andL bs), [])
        | .neq => some (.bool (!(andL bs)), [])
        | _ => none
      | none => none
    | none => none
  | _, _ => none

def partV (E : Env) (t : TypeId) (cs : List Value) (off : Nat) : Option Value :=
  match shp E t with
  | some (true, sz) => some (.agg ⟨(cs.drop off).take sz⟩)
  | some (false, _) => cs[off]?
  | none => none

def fillL (place : Nat → Option (Nat × Nat)) (cells : List Value) : List (Nat × Value) → Option (List Value)
  | [] => some cells
  | (i, v) :: rest => match place i with
    | none => none
    | some (off, size) => let vs := cellsV v
      bif Nat.beq vs.length size && Nat.ble (off + size) cells.length && vs.all oneC then fillL place (cells.take off ++ (vs ++ cells.drop (off + size))) rest else none

def abuild (E : Env) (t : TypeId) (parts : List (Nat × Value)) : Option Value :=
  match zcells E t with
  | some z => match E.P.underlying t with
    | some (.struct fs) => match fs.toList.mapM (fun f => (E.P.info? f.type).map fun i => (f.offset, i.size)) with
      | some places => match fillL (fun i => places[i]?) z parts with
        | some cs => some (.agg ⟨cs⟩)
        | none => none
      | none => none
    | some (.array _ e) => match E.P.info? e with
      | some j => match fillL (fun i => some (i * j.size, j.size)) z parts with
        | some cs => some (.agg ⟨cs⟩)
        | none => none
      | none => none
    | _ => none
  | none => none

def repL (z : List Value) : Nat → List Value
  | 0 => []
  | n + 1 => z ++ repL z n

def bindParts (tm : List Value) : List (Nat × Operand) → Option (List (Nat × Value))
  | [] => some []
  | (i, x) :: r => match aval tm x with
    | some v => match bindParts tm r with
      | some l => some ((i, v) :: l)
      | none => none
    | none => none

/-- What must hold where a slice of a slice is indexed. -/
def idxPc (a : Addr) (len c : Nat) : List Prop :=
  match a.spot with
  | none => []
  | some _ => match a.off with
    | 0 => []
    | _ + 1 => [len ≤ c]
/-- That a slice's capacity is not below its length. -/
def capPc (b : Option Blk) (k len c : Nat) : List Prop :=
  match b, c with
  | some (.own (.ints _ l _) k'), 0 => bif Nat.beq k' k then [len ≤ l.length] else [len ≤ 0]
  | _, c => [len ≤ c]
/-- An operation that calls nothing. -/
def aop (E : Env) (tm : List Value) (hp : Hp) (op : Op) : Option (Value × Hp × List Prop) :=
  match op with
  | .move x | .assign x => match aval tm x with
    | some v => some (v, hp, [])
    | none => none
  | .alloc e => match zcells E e with
    | some z => some (.pointer (some ⟨hp.next, 0, none⟩), hp.add (.cells z e), [])
    | none => none
  | .box e x => match aval tm x with
    | some v => some (.pointer (some ⟨hp.next, 0, none⟩), hp.add (.cells (cellsV v) e), [])
    | none => none
  | .build t parts => match bindParts tm parts.toList with
    | some ps => match abuild E t ps with
      | some v => some (v, hp, [])
      | none => none
    | none => none
  | .buildSlice t len parts => match E.P.underlying t with
    | some (.slice e) => match zcells E e with
      | some z => match E.P.info? e with
        | some j => match bindParts tm parts.toList with
          | some ps => bif Nat.beq z.length j.size && Nat.ble (len * j.size) 16777216 then
              match fillL (fun i => some (i * j.size, j.size)) (repL z len) ps with
              | some cs => some (.slice (some ⟨hp.next, 0, none⟩) len len, hp.add (.cells cs e), [])
              | none => none
            else none
          | none => none
        | none => none
      | none => none
    | _ => none
  | .load t x => match aval tm x with
    | some (.pointer (some ⟨n, off, none⟩)) => match hp.get n with
      | some b => match shp E t with
        | some (true, sz) => match b.load off sz with
          | some (vs, pc) => some (.agg ⟨vs⟩, hp, pc)
          | none => none
        | some (false, _) => match b.load off 1 with
          | some ([v], pc) => some (v, hp, pc)
          | _ => none
        | none => none
      | none => none
    | _ => none
  | .store t x y => match aval tm x, aval tm y with
    | some (.pointer (some ⟨n, off, none⟩)), some v => match hp.get n with
      | some b => match shp E t with
        | some (_, sz) => bif Nat.beq (cellsV v).length sz then
            match b.store off (cellsV v) with
            | some (b', pc) => some (undef, hp.set n b', pc)
            | none => none
          else none
        | none => none
      | none => none
    | _, _ => none
  | .nilCheck x => match aval tm x with
    | some (.pointer (some a)) => some (.pointer (some a), hp, [])
    | some (.func (.func f) a b) => some (.func (.func f) a b, hp, [])
    | _ => none
  | .binOp op t x y _ => match aval tm x, aval tm y with
    | some a, some b => match abin E op t a b with
      | some (v, pc) => some (v, hp, pc)
      | none => none
    | _, _ => none
  | .unOp op _ x => match op, aval tm x with
    | .not, some (.bool b) => some (.bool (!b), hp, [])
    | .neg, some (.int k n) => some (.int k (k.wrap (0 - n)), hp, [])
    | _, _ => none
  | .convert src dst x => match E.P.underlying src, intKindOf E dst, aval tm x with
    | some _, some k, some (.int _ n) => some (.int k (k.wrap n), hp, [])
    | _, _, _ => none
  | .makeFunc fn first cap => match avals tm first.toList, avals tm cap.toList with
    | some a, some b => some (.func fn ⟨a⟩ ⟨b⟩, hp, [])
    | _, _ => none
  | .makeSlice t (.tmp l) (.tmp c) => bif Nat.beq l c then
      match elemSz E t, aval tm (.tmp l) with
      | some (e, 1), some (.int _ n) => match intKindOf E e, zcells E e, E.P.info? e with
        | some k, some [.int k' 0], some j => if k = k' then some (.slice (some ⟨hp.next, 0, none⟩) n.toNat n.toNat, hp.add (.ints k (List.replicate n.toNat 0) e), [0 ≤ n, (j.bytes : Int) * n ≤ 281474976710656, n ≤ 9223372036854775807]) else none
        | _, _, _ => none
      | _, _ => none
    else none
  | .fieldAddr s x f => match fldOff E s f, aval tm x with
    | some (o, _), some (.pointer (some ⟨n, off, none⟩)) => some (.pointer (some ⟨n, off + o, none⟩), hp, [])
    | _, _ => none
  | .field s x f => match E.P.underlying s with
    | some (.struct fs) => match fs[f]?, aval tm x with
      | some fd, some (.agg ⟨cs⟩) => match partV E fd.type cs fd.offset with
        | some v => some (v, hp, [])
        | none => none
      | _, _ => none
    | _ => none
  | .indexAddr t x ix => match aval tm x, aval tm ix with
    | some (.slice (some a) len c), some (.int _ i) => match elemSz E t with
      | some (_, sz) => some (.pointer (some ⟨a.block, addN a.off (mulN i.toNat sz), none⟩), hp, [0 ≤ i, i < (len : Int)] ++ idxPc a len c)
      | none => none
    | some (.pointer (some ⟨n, off, none⟩)), some (.int _ i) => match E.P.underlying t with
      | some (.array len e) => match shp E e with
        | some (_, sz) => some (.pointer (some ⟨n, addN off (mulN i.toNat sz), none⟩), hp, [0 ≤ i, i < (len : Int)])
        | none => none
      | _ => none
    | _, _ => none
  | .index t x ix => match aval tm x, aval tm ix with
    | some (.agg ⟨cs⟩), some (.int _ i) => match E.P.underlying t with
      | some (.array len e) => match shp E e with
        | some (_, sz) => match partV E e cs (i.toNat * sz) with
          | some v => some (v, hp, [0 ≤ i, i < (len : Int)])
          | none => none
        | none => none
      | _ => none
    | _, _ => none
  | .slice t x (some y) none none => match aval tm x, aval tm y, elemSz E t with
    | some (.slice (some ⟨n, off, some k⟩) len c), some (.int _ 1), some (_, 1) => some (.slice (some ⟨n, off + 1, some hp.next⟩) (len - 1) (len - 1), ⟨hp.blks, hp.next + 1, hp.log⟩, (1 ≤ len) :: capPc (hp.get n) k len c)
    | _, _, _ => none
  | .makeInterface t x => match aval tm x, E.P.underlying t with
    | some (.pointer a), some (.pointer _) => some (.iface t (.pointer a), hp, [])
    | _, _ => none
  | .extract x ix => match aval tm x with
    | some (.tuple ⟨vs⟩) => match vs[ix]? with
      | some v => some (v, hp, [])
      | none => none
    | _ => none
  | _ => none

/-- How a test is decided: it is known by sight; it is taken to be true, or false. -/
inductive Dec where
  | l
  | t
  | f
def decB (b : Bool) : Dec → Option (Bool × List Prop)
  | .l => match b with
    | true => some (true, [])
    | false => some (false, [])
  | .t => some (true, [b = true])
  | .f => some (false, [b = false])

/-- A call's end: what it hands back, the heap, the tests' outcomes that are left, what had to hold. -/
structure Out where
  v : Value
  hp : Hp
  ds : List Dec
  pc : List Prop

/-- The kinds of an element that is a number (false) or a struct of numbers (true). -/
def kindsF (E : Env) : List Field → Option (List IntKind)
  | [] => some []
  | f :: fs => match intKindOf E f.type, kindsF E fs with
    | some k, some ks => some (k :: ks)
    | _, _ => none
def kindsOf (E : Env) (e : TypeId) : Option (Bool × List IntKind) :=
  match E.P.underlying e with
  | some (.int k) => some (false, [k])
  | some (.struct fs) => match kindsF E fs.toList with
    | some ks => some (true, ks)
    | none => none
  | _ => none
def parseI (k : IntKind) : List Value → Option (List Int)
  | [] => some []
  | .int k' x :: r => if k' = k then (match parseI k r with | some l => some (x :: l) | none => none) else none
  | _ => none
/-- One record, and what stands behind it. -/
def parseO : List IntKind → List Value → Option (List Int × List Value)
  | [], r => some ([], r)
  | k :: ks, .int k' x :: r => if k' = k then (match parseO ks r with | some (l, r') => some (x :: l, r') | none => none) else none
  | _, _ => none
def parseR (ks : List IntKind) : Nat → List Value → Option (List (List Int))
  | 0, [] => some []
  | 0, _ => none
  | n + 1, l => match parseO ks l with
    | some (x, r) => match parseR ks n r with
      | some xs => some (x :: xs)
      | none => none
    | none => none
def emptyB (e : TypeId) : Bool × List IntKind → Blk
  | (false, k :: _) => .ints k [] e
  | (_, ks) => .recs ks [] e
/-- What is appended to: its block's name (or none), its length, its row. -/
def appBase (hp : Hp) (e : TypeId) (kn : Bool × List IntKind) (x : Value) : Option (List Nat × Nat × Blk × List Prop) :=
  match x with
  | .slice none 0 0 => some ([], 0, emptyB e kn, [])
  | .slice (some ⟨n, 0, none⟩) 0 0 => match hp.get n with
    | some (.cells [] ty) => bif Nat.beq ty e then some ([n], 0, emptyB e kn, []) else none
    | _ => none
  | .slice (some ⟨n, 0, some c⟩) len 0 => match hp.get n with
    | some (.own b c') => bif Nat.beq c' c then
        match b with
        | .ints k l ty => bif Nat.beq ty e then some ([n], len, .ints k l ty, [len = l.length]) else none
        | .recs ks l ty => bif Nat.beq ty e then some ([n], len, .recs ks l ty, [len = l.length]) else none
        | _ => none
      else none
    | _ => none
  | .slice (some ⟨n, 0, none⟩) len cap => match hp.get n with
    | some (.cells cs ty) => bif Nat.beq ty e && Nat.beq len cap then
        match kn with
        | (false, [k]) => match parseI k cs with
          | some l => bif Nat.beq l.length len then some ([n], len, .ints k l ty, [len ≤ 9223372036854775807]) else none
          | none => none
        | (true, ks) => match parseR ks len cs with
          | some l => bif Nat.beq l.length len then some ([n], len, .recs ks l ty, [len ≤ 9223372036854775807]) else none
          | none => none
        | _ => none
      else none
    | _ => none
  | _ => none
/-- A slice's address as it stands: it is not that of a slice of a slice. -/
def spOk (sp : Option Nat) (so : Nat) : Bool :=
  match sp with
  | none => true
  | some _ => Nat.beq so 0
/-- What is appended: its block's name, how many, the row, and whether it is surely not empty. -/
def appSrc (hp : Hp) (kn : Bool × List IntKind) (y : Value) : Option (Nat × Nat × Blk × List Prop × Bool) :=
  match y with
  | .slice (some ⟨s, so, sp⟩) m _ => bif !(spOk sp so) then none else match hp.get s with
    | some (.ints k l ty) => some (s, m, .ints k (l.take m) ty, [m ≤ l.length, so = 0], false)
    | some (.own (.ints k l ty) _) => some (s, m, .ints k (l.take m) ty, [m ≤ l.length, so = 0], false)
    | some (.view off (.ints k l ty)) => some (s, m, .ints k (l.take m) ty, [m ≤ l.length, so = off], false)
    | some (.cells cs ty) => bif !(Nat.beq so 0) then none else match kn with
      | (false, [k]) => match parseI k cs with
        | some l => bif Nat.beq l.length m then some (s, m, .ints k l ty, [], Nat.blt 0 m) else none
        | none => none
      | (true, ks) => match parseR ks m cs with
        | some l => bif Nat.beq l.length m then some (s, m, .recs ks l ty, [], Nat.blt 0 m) else none
        | none => none
      | _ => none
    | _ => none
  | _ => none
def eqKs : List IntKind → List IntKind → Bool
  | [], [] => true
  | k :: ks, k' :: ks' => if k = k' then eqKs ks ks' else false
  | _, _ => false
def Blk.esz : Blk → Nat
  | .recs ks _ _ => ks.length
  | _ => 1
def rowI (so : Nat) : Blk → Option (IntKind × List Int × Prop)
  | .ints k l _ => some (k, l, so = 0)
  | .own (.ints k l _) _ => some (k, l, so = 0)
  | .view off (.ints k l _) => some (k, l, so = off)
  | _ => none
def catB : Blk → Blk → Option Blk
  | .ints k l ty, .ints k' l' _ => if k = k' then some (.ints k (l ++ l') ty) else none
  | .recs ks l ty, .recs ks' l' _ => bif eqKs ks ks' then some (.recs ks (l ++ l') ty) else none
  | _, _ => none

def acopy (E : Env) (t : TypeId) (d dn s so sn : Nat) (hp : Hp) (ds : List Dec) : Option Out :=
  match elemSz E t with
  | some (_, 1) => match hp.get d, hp.get s with
    | some (.ints k ld ty), some sb => match rowI so sb with
      | some (k', ls, q) => if k = k' then
          some ⟨.int .i64 (Nat.min sn dn : Nat), hp.set d (.ints k (ls.take (Nat.min sn dn) ++ ld.drop (Nat.min sn dn)) ty), ds, [Nat.min sn dn ≤ ls.length, Nat.min sn dn ≤ ld.length, q]⟩
        else none
      | none => none
    | _, _ => none
  | _ => none
def aappend (E : Env) (t : TypeId) (x y : Value) (hp : Hp) (ds : List Dec) : Option Out :=
  match elemSz E t with
  | some (e, sz) => match kindsOf E e with
    | some kn => bif Nat.beq kn.2.length sz then match E.P.info? e with
      | some j => match zcells E e with
        | some zc => bif !(Nat.beq zc.length sz) then none else match appBase hp e kn x, appSrc hp kn y with
          | some (n, len, b, pc), some (s, m, b', pc', lit) => match catB b b' with
            | some b2 => bif !(has s n) && (lit || !(n.isEmpty)) && Nat.beq b.esz sz && Nat.beq b'.esz sz && Nat.blt 0 sz then
                some ⟨.slice (some ⟨hp.next, 0, some (hp.next + 1)⟩) (addN len m) 0, ⟨(hp.next, .own b2 (hp.next + 1)) :: delB n hp.blks, hp.next + 2, n ++ hp.log⟩, ds, pc ++ pc' ++ [(len + m) * j.bytes ≤ 140737488355328, len + m ≤ 9223372036854775807]⟩
              else none
            | none => none
          | _, _ => none
        | none => none
      | none => none
    else none
    | none => none
  | none => none

def abuiltin (E : Env) (b : Builtin) (ats : List TypeId) (args : List Value) (hp : Hp) (ds : List Dec) : Option Out :=
  match b, ats, args with
  | .len, t :: _, [.slice _ n _] => match E.P.underlying t with
    | some (.slice _) => some ⟨.int .i64 n, hp, ds, []⟩
    | _ => none
  | .min, _, [.int k x, .int _ y] => some ⟨.int k (if y < x then y else x), hp, ds, []⟩
  | .max, _, [.int k x, .int _ y] => some ⟨.int k (if y > x then y else x), hp, ds, []⟩
  | .copy, [t, _], [.slice (some ⟨d, 0, _⟩) dn _, .slice (some ⟨s, so, sp⟩) sn _] => bif spOk sp so then acopy E t d dn s so sn hp ds else none
  | .copy, [t, _], [.slice (some ⟨_, 0, _⟩) _ _, .slice none 0 0] => match elemSz E t with
    | some (_, 1) => some ⟨.int .i64 0, hp, ds, []⟩
    | _ => none
  | .append, [t, t'], [.slice (some ⟨b, o, none⟩) n c, .slice none 0 0] => bif Nat.beq t t' then match elemSz E t with
      | some _ => some ⟨.slice (some ⟨b, o, none⟩) n c, hp, ds, [n ≤ c]⟩
      | none => none
    else none
  | .append, [t, t'], [x, y] => bif Nat.beq t t' then aappend E t x y hp ds else none
  | _, _, _ => none

/-- What is known of guards: a temporary, and how it was decided. -/
abbrev Kn := List (Nat × Bool)
def lookK (t : Nat) : Kn → Option Bool
  | [] => none
  | (u, b) :: r => bif Nat.beq u t then some b else lookK t r
def dropK (t : Nat) : Kn → Kn
  | [] => []
  | (u, b) :: r => bif Nat.beq u t then dropK t r else (u, b) :: dropK t r

/-- Decides a bool in a temporary. -/
def decideT (tm : List Value) (t : Nat) (kn : Kn) (ds : List Dec) : Option (Bool × Kn × List Dec × List Prop) :=
  match lookK t kn with
  | some d => some (d, kn, ds, [])
  | none => match tm.getD t undef, ds with
    | .bool b, d :: ds => match decB b d with
      | some (c, pc) => some (c, (t, c) :: kn, ds, pc)
      | none => none
    | _, _ => none

abbrev CallF := FuncId → List Value → Hp → List Dec → Option Out

/-- An operation without its guard. -/
def doOp (E : Env) (cf : CallF) (tm : List Value) (kn : Kn) (hp : Hp) (ds : List Dec) (op : Op) : Option (Value × Hp × List Dec × List Prop × Kn) :=
  match op with
  | .call c => match c.callee, avals tm c.args.toList with
    | .value x, some args => match aval tm x with
      | some (.func (.func f) ⟨first⟩ ⟨cap⟩) => match cf f (first ++ (args ++ cap)) hp ds with
        | some o => some (o.v, o.hp, o.ds, o.pc, kn)
        | none => none
      | _ => none
    | .builtin b, some args => match abuiltin E b c.argTypes.toList args hp ds with
      | some o => some (o.v, o.hp, o.ds, o.pc, kn)
      | none => none
    | _, _ => none
  | .pick (.tmp t) x y => match decideT tm t kn ds with
    | some (d, kn', ds', pc) => match aval tm (bif d then x else y) with
      | some v => some (v, hp, ds', pc, kn')
      | none => none
    | none => none
  | op => match aop E tm hp op with
    | some (v, hp', pc) => some (v, hp', ds, pc, kn)
    | none => none

/-- What an operation leaves that was passed over. -/
def isU : Value → Bool
  | .tuple ⟨[]⟩ => true
  | _ => false
/-- An operation: passed over, where its guard says no, or was passed over itself. -/
def doOper (E : Env) (cf : CallF) (ops : Array Oper) (tm : List Value) (kn : Kn) (hp : Hp) (ds : List Dec) (o : Oper) : Option (Value × Hp × List Dec × List Prop × Kn) :=
  match o.guard with
  | none => doOp E cf tm kn hp ds o.op
  | some (j, want) => match (ops[j]?).bind (·.dst) with
    | none => none
    | some t => bif isU (tm.getD t undef) then some (undef, hp, ds, [], kn) else match decideT tm t kn ds with
      | none => none
      | some (d, kn', ds', pc) => match Bool.xor d want with
        | true => some (undef, hp, ds', pc, kn')
        | false => match doOp E cf tm kn' hp ds' o.op with
          | some (v, hp', ds'', pc', kn'') => some (v, hp', ds'', pc ++ pc', kn'')
          | none => none

def putT (tm : List Value) (dst : Option Tmp) (v : Value) : List Value :=
  match dst with
  | some d => tm.set d v
  | none => tm
def putK (kn : Kn) (dst : Option Tmp) : Kn :=
  match dst with
  | some d => dropK d kn
  | none => kn

/-- A function's frame. -/
structure Fr where
  tm : List Value
  hp : Hp
  ds : List Dec
  pc : List Prop

def doOps (E : Env) (cf : CallF) (ops : Array Oper) : List Oper → Kn → Fr → Option Fr
  | [], _, fr => some fr
  | o :: rest, kn, fr => match doOper E cf ops fr.tm kn fr.hp fr.ds o with
    | some (v, hp, ds, pc, kn') => doOps E cf ops rest (putK kn' o.dst) ⟨putT fr.tm o.dst v, hp, ds, fr.pc ++ pc⟩
    | none => none

/-! ### Regions whose order is open -/

def addNames (l acc : List Nat) : List Nat :=
  match l with
  | [] => acc
  | n :: r => bif has n acc then addNames r acc else addNames r (n :: acc)
mutual
def namesV : Value → List Nat
  | .pointer (some a) => [a.block]
  | .iface _ v => namesV v
  | .slice (some a) _ _ => [a.block]
  | .func _ f c => namesA f ++ namesA c
  | .agg cs => namesA cs
  | .tuple vs => namesA vs
  | _ => []
def namesA : Array Value → List Nat
  | ⟨l⟩ => namesL l
def namesL : List Value → List Nat
  | [] => []
  | v :: l => namesV v ++ namesL l
end
def Blk.names : Blk → List Nat
  | .cells cs _ => namesL cs
  | .opt ns _ _ => ns
  | _ => []
def reach (hp : Hp) : Nat → List Nat → List Nat → List Nat
  | 0, _, acc => acc
  | _ + 1, [], acc => acc
  | k + 1, n :: todo, acc => bif has n acc then reach hp k todo acc else
      match hp.get n with
      | none => reach hp k todo acc
      | some b => reach hp k (b.names ++ todo) (n :: acc)
def pick' (names : List Nat) : List (Nat × Blk) → List (Nat × Blk)
  | [] => []
  | (n, b) :: r => bif has n names then (n, b) :: pick' names r else pick' names r
def below (n : Nat) : List Nat → List Nat
  | [] => []
  | m :: r => bif Nat.blt m n then (bif has m r then below n r else m :: below n r) else below n r
def Hp.only (h : Hp) (names : List Nat) : Hp := ⟨pick' (below h.next names) h.blks, h.next, []⟩
def keys : List (Nat × Blk) → List Nat
  | [] => []
  | (n, _) :: r => n :: keys r
/-- Of a part's blocks those that were written to, or made, laid into the whole. -/
def Hp.merge (h : Hp) (part : Hp) (wr : List Nat) : Hp := ⟨pick' wr part.blks ++ delB wr h.blks, part.next, wr ++ h.log⟩

/-- The blocks that an operation may touch. -/
def touches (tm : List Value) (hp : Hp) (op : Op) : List Nat :=
  match op with
  | .load _ x => match aval tm x with
    | some v => namesV v
    | none => []
  | .store _ x _ => match aval tm x with
    | some v => namesV v
    | none => []
  | .call c => match avals tm c.operands.toList with
    | some vs => reach hp 200 (namesL vs) []
    | none => []
  | _ => []
def newKeys (n : Nat) : List (Nat × Blk) → List Nat
  | [] => []
  | (m, _) :: r => bif Nat.ble n m then m :: newKeys n r else newKeys n r
def writes (hin out : Hp) : List Nat := out.log ++ newKeys hin.next out.blks

structure Rec where
  i : Nat
  o : Oper
  rd : List Nat
  wr : List Nat
  hin : Hp
  out : Hp
  v : Value

def disj : List Nat → List Nat → Bool
  | [], _ => true
  | n :: r, l => bif has n l then false else disj r l

/-- What must have come ahead of an operation, of those told before. -/
def aheadOf (bef : List (Nat × List Nat)) : List Edge → List Nat
  | [] => []
  | e :: es => bif Region.binds .any e then
      addNames (e.on :: (match bef.find? (fun p => Nat.beq p.1 e.on) with | some p => p.2 | none => [])) (aheadOf bef es)
    else aheadOf bef es

def apartR (ops : Array Oper) (x y : Rec) : Bool :=
  Oper.apart ops x.o y.o && disj x.wr y.rd && disj x.wr y.wr && disj y.wr x.rd

def dstOk (n : Nat) : Option Tmp → Bool
  | some d => Nat.blt d n
  | none => true
def drawOk (ops : Array Oper) (rs : List Rec) (r : Rec) (a : List Nat) (n : Nat) : Bool :=
  rs.all (fun q => has q.i a || apartR ops q r) && r.o.after.toList.all (fun e => !Region.binds .any e || Nat.blt e.on r.i) && dstOk n r.o.dst

def doDraw (E : Env) (cf : CallF) (ops : Array Oper) : List Oper → Nat → Kn → Fr → List (Nat × List Nat) → List Rec → Option (Fr × List Rec)
  | [], _, _, fr, _, rs => some (fr, rs)
  | o :: rest, i, kn, fr, bef, rs =>
    let rd := touches fr.tm fr.hp o.op
    let hin := fr.hp.only rd
    match doOper E cf ops fr.tm kn hin fr.ds o with
    | some (v, out, ds, pc, kn') =>
      let r : Rec := ⟨i, o, rd, writes hin out, hin, out, v⟩
      let a := aheadOf bef o.after.toList
      bif drawOk ops rs r a fr.tm.length then
        doDraw E cf ops rest (i + 1) (putK kn' o.dst) ⟨putT fr.tm o.dst v, fr.hp.merge out (writes hin out), ds, fr.pc ++ pc⟩ ((i, a) :: bef) (r :: rs)
      else none
    | none => none

/-! ### Code -/

inductive Ex where
  | normal
  | exit (id : Nat)
  | ret

def loopN (f : Fr → Option (Ex × Fr)) : Nat → Fr → Option (Ex × Fr)
  | 0, _ => none
  | n + 1, fr => match f fr with
    | some (.normal, fr') => loopN f n fr'
    | r => r

def doCode (E : Env) (cf : CallF) : Code → Fr → Option (Ex × Fr)
  | .skip, fr => some (.normal, fr)
  | .region _ ops false, fr => match doOps E cf ops ops.toList [] fr with
    | some fr' => some (.normal, fr')
    | none => none
  | .region _ ops true, fr => match doDraw E cf ops ops.toList 0 [] fr [] [] with
    | some (fr', _) => some (.normal, fr')
    | none => none
  | .seq x y, fr => match doCode E cf x fr with
    | some (.normal, fr') => doCode E cf y fr'
    | r => r
  | .cond (.tmp t) x y, fr => match fr.tm.getD t undef, fr.ds with
    | .bool b, d :: ds => match decB b d with
      | some (true, pc) => doCode E cf x ⟨fr.tm, fr.hp, ds, fr.pc ++ pc⟩
      | some (false, pc) => doCode E cf y ⟨fr.tm, fr.hp, ds, fr.pc ++ pc⟩
      | none => none
    | _, _ => none
  | .block id c, fr => match doCode E cf c fr with
    | some (.exit j, fr') => bif Nat.beq j id then some (.normal, fr') else some (.exit j, fr')
    | r => r
  | .loop c, fr => loopN (doCode E cf c) 200 fr
  | .exit id, fr => some (.exit id, fr)
  | .ret, fr => some (.ret, fr)
  | _, _ => none

/-- What a call's end leaves: what was there, and what that, or what is handed back, leads to. -/
def oldKeys (n : Nat) : List (Nat × Blk) → List Nat
  | [] => []
  | (m, _) :: r => bif Nat.blt m n then m :: oldKeys n r else oldKeys n r
def keepB (n : Nat) (names : List Nat) : List (Nat × Blk) → List (Nat × Blk)
  | [] => []
  | (m, b) :: r => bif Nat.blt m n || has m names then (m, b) :: keepB n names r else keepB n names r
def Hp.sweep (h : Hp) (n : Nat) (vs : List Value) : Hp := ⟨keepB n (reach h 1000 (namesL vs ++ oldKeys n h.blks) []) h.blks, h.next, below n h.log⟩

def resV (E : Env) (tm : List Value) (hp : Hp) : List ResultVar → Option (List Value × List Prop)
  | [] => some ([], [])
  | .tmp t :: r => match resV E tm hp r, aval tm (.tmp t) with
    | some (vs, pc), some v => some (v :: vs, pc)
    | _, _ => none
  | .cell t ty :: r => match aop E tm hp (.load ty (.tmp t)) with
    | some (v, _, pc) => match resV E tm hp r with
      | some (vs, pc') => some (v :: vs, pc ++ pc')
      | none => none
    | none => none
def oneV : List Value → Value
  | [v] => v
  | vs => .tuple ⟨vs⟩

def doCall (E : Env) : Nat → CallF
  | 0, _, _, _, _ => none
  | k + 1, f, args, hp, ds => match E.orc f args hp with
    | some (v, hp', pc) => some ⟨v, hp', ds, pc⟩
    | none => match E.P.funcs[f]? with
      | none => none
      | some fn => bif fn.name == "runtime.NumGoroutine" then none else match fn.body with
        | none => none
        | some c => match doCode E (doCall E k) c ⟨args ++ List.replicate (fn.ntmps - args.length) undef, hp, ds, []⟩ with
          | some (.exit _, _) => none
          | some (_, fr) => match resV E fr.tm fr.hp fn.results.toList with
            | some (vs, pc) => some ⟨oneV vs, fr.hp.sweep hp.next vs, fr.ds, fr.pc ++ pc⟩
            | none => none
          | none => none
end Go.Proofs.YtocfhiafegkfkaaGreat.Ev
