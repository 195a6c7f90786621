/- The texts SimA, SimB, one behind the other. No condition. -/
import Derived.Calls
import Derived.Below
import Derived.Deep.LoopGhost
import Derived.CheckFast
namespace Go.Proofs.Ytkfdgegmahbkiaa.Sim

/-- Values: addresses are ids of the abstract store; a header or a pointer bears the size that its row had when it was made ('ep'): behind a growth it is stale. -/
inductive AV where
  | bool (b : Bool)
  | int (k : IntKind) (n : Int)
  | str (s : ByteArray)
  | ptr (l off ep : Nat)
  | nilptr
  | sl (l off n es ep : Nat)
  | nilsl
  | map (l : Nat)
  | nilmap
  | func (f : Nat) (first cap : List AV)
  | nilfunc
  | iface (t : Nat) (v : AV)
  | meth (n : String) (v : AV)
  | nilif
  | agg (vs : List AV)
  | tuple (vs : List AV)
  | junk

/-- Rows; maps: entries, when each came, the clock; what goes through a map, or a string. -/
inductive AObj where
  | none
  | cells (xs : List AV) (ro : Bool)
  | map (es : List (AV × AV)) (st : List Nat × Nat)
  | miter (m : AV) (since : Nat) (seen : List Nat) (last : Nat)
  | siter (b : ByteArray) (pos : Nat)

/-- How much of a row there is: nothing of one that is not there yet. -/
def AObj.size : AObj → Nat
  | .none => 0
  | .cells xs _ => xs.length + 1
  | .map _ _ => 1
  | .miter _ _ _ _ => 1
  | .siter _ _ => 1
def AObj.wr : AObj → Bool
  | .cells _ ro => !ro
  | .none => false
  | _ => true

/-- A row that lies somewhere: an empty one that nobody writes lies nowhere. -/
def AObj.live : AObj → Bool
  | .none => false
  | .cells xs ro => !(xs.isEmpty && ro)
  | _ => true

structure Store where
  next : Nat
  get : Nat → AObj

def Store.set (s : Store) (l : Nat) (o : AObj) : Store := ⟨s.next, fun j => if j = l then o else s.get j⟩
def Store.push (s : Store) (o : AObj) : Store := ⟨s.next + 1, fun j => if j = s.next then o else s.get j⟩

def AV.one : AV → Bool
  | .agg _ | .tuple _ | .junk => false
  | _ => true

/-- A constant of the code. -/
def ofVal : Value → AV
  | .bool b => .bool b
  | .int k n => .int k n
  | .string s => .str s
  | .pointer Option.none => .nilptr
  | .slice Option.none 0 0 => .nilsl
  | .map Option.none => .nilmap
  | .nilFunc => .nilfunc
  | .nilIface => .nilif
  | _ => .junk

section
variable {α : Type}

def aPick (c a b : AV) (κ : AV → Option α) : Option α :=
  match c with
  | .bool t => κ (bif t then a else b)
  | _ => none

def aIf (c : AV) (x y : Option α) : Option α :=
  match c with
  | .bool t => if t = true then x else y
  | _ => none

/-- A guard: performed, skipped. -/
def aGuard (v : AV) (want : Bool) (x y : Option α) : Option α :=
  match v with
  | .bool b => if b = want then x else y
  | .tuple [] => y
  | _ => none

def aCells (x : AV) (κ : List AV → Option α) : Option α :=
  match x with
  | .agg vs => κ vs
  | .tuple _ | .junk => none
  | v => κ [v]

def aNew (cs : List AV) (s : Store) (κ : AV → Store → Option α) : Option α := κ (.ptr s.next 0 cs.length) (s.push (.cells cs false))

/-- The cells of an id, if the address is not stale. -/
def aRow (l ep : Nat) (s : Store) (κ : List AV → Option α) : Option α :=
  match s.get l with
  | .cells xs _ => if xs.length = ep then κ xs else none
  | _ => none

def aLoad1 (p : AV) (s : Store) (κ : AV → Option α) : Option α :=
  match p with
  | .ptr l off ep => aRow l ep s fun xs => match xs[off]? with
    | some v => κ v
    | Option.none => none
  | _ => none

def aLoadN (n : Nat) (p : AV) (s : Store) (κ : AV → Option α) : Option α :=
  match p with
  | .ptr l off ep => aRow l ep s fun xs => if off + n ≤ xs.length then κ (.agg ((xs.drop off).take n)) else none
  | _ => none

def putAll (xs : List AV) (off : Nat) : List AV → List AV
  | [] => xs
  | c :: cs => putAll (xs.set off c) (off + 1) cs

/-- A row that may be written. -/
def aOwn (l ep : Nat) (s : Store) (κ : List AV → Option α) : Option α :=
  match s.get l with
  | .cells xs false => if xs.length = ep then κ xs else none
  | _ => none

def aStore (n : Nat) (p x : AV) (s : Store) (κ : Store → Option α) : Option α :=
  match p with
  | .ptr l off ep => aCells x fun cs => aOwn l ep s fun xs =>
    if cs.length = n ∧ off + n ≤ xs.length then κ (s.set l (.cells (putAll xs off cs) false)) else none
  | _ => none

/-- Methods' values that are looked at (that is all that is done with them): names and types. -/
def methL : List (String × Nat) := [("unison/wire.data", 50), ("unison/wire.many", 50), ("unison/wire.num", 50), ("unison/wire.small", 50), ("unison/wire.who", 50), ("unison/wire.data", 68), ("unison/wire.many", 68), ("unison/wire.num", 68), ("unison/wire.small", 68), ("unison/wire.who", 68), ("unison/wire.data", 107), ("unison/wire.many", 107), ("unison/wire.num", 107), ("unison/wire.small", 107), ("unison/wire.who", 107)]
def methT (n : String) (t : Nat) : Bool := methL.any fun p => p.1 == n && Nat.beq p.2 t

def aNilCheck (x : AV) (κ : AV → Option α) : Option α :=
  match x with
  | .ptr l off ep => κ (.ptr l off ep)
  | .func f a b => κ (.func f a b)
  | .iface t v => κ (.iface t v)
  | .meth n (.iface t v) => if methT n t = true then κ (.meth n (.iface t v)) else none
  | .sl l off n es ep => κ (.sl l off n es ep)
  | .nilsl => κ .nilsl
  | .map l => κ (.map l)
  | _ => none

def aFieldAddr (off : Nat) (x : AV) (κ : AV → Option α) : Option α :=
  match x with
  | .ptr l o ep => κ (.ptr l (o + off) ep)
  | _ => none

def aField1 (off : Nat) (x : AV) (κ : AV → Option α) : Option α :=
  match x with
  | .agg vs => match vs[off]? with
    | some v => κ v
    | Option.none => none
  | _ => none

def aFieldN (off n : Nat) (x : AV) (κ : AV → Option α) : Option α :=
  match x with
  | .agg vs => κ (.agg ((vs.drop off).take n))
  | _ => none

/-- An element's address: of a slice of elements of 'es' cells. -/
def aIndexSl (es : Nat) (x i : AV) (κ : AV → Option α) : Option α :=
  match x, i with
  | .sl l off n es' ep, .int _ j => if es' = es then (if 0 ≤ j then (if j < n then κ (.ptr l (off + j.toNat * es) ep) else none) else none) else none
  | _, _ => none

/-- An element's address: of an array of 'len' elements behind a pointer. -/
def aIndexArr (len es : Nat) (x i : AV) (κ : AV → Option α) : Option α :=
  match x, i with
  | .ptr l off ep, .int _ j => if 0 ≤ j then (if j < len then κ (.ptr l (off + j.toNat * es) ep) else none) else none
  | _, _ => none

def aIndexStr (x i : AV) (κ : AV → Option α) : Option α :=
  match x, i with
  | .str s, .int _ j => if 0 ≤ j then (if h : j.toNat < s.size then κ (.int .u8 (s[j.toNat]'h).toNat) else none) else none
  | _, _ => none

def intBin (op : BinOp) (k : IntKind) (a b : Int) : Option AV :=
  match op with
  | .add => some (.int k (k.wrap (a + b)))
  | .sub => some (.int k (k.wrap (a - b)))
  | .mul => some (.int k (k.wrap (a * b)))
  | .quo => if b = 0 then none else some (.int k (k.wrap (a.tdiv b)))
  | .rem => if b = 0 then none else some (.int k (a.tmod b))
  | .and => some (.int k (k.wrap (BitVec.ofInt k.bits a &&& BitVec.ofInt k.bits b).toNat))
  | .or => some (.int k (k.wrap (BitVec.ofInt k.bits a ||| BitVec.ofInt k.bits b).toNat))
  | .xor => some (.int k (k.wrap (BitVec.ofInt k.bits a ^^^ BitVec.ofInt k.bits b).toNat))
  | .andNot => some (.int k (k.wrap (BitVec.ofInt k.bits a &&& ~~~BitVec.ofInt k.bits b).toNat))
  | .eql => some (.bool (a == b))
  | .neq => some (.bool (a != b))
  | .lss => some (.bool (decide (a < b)))
  | .leq => some (.bool (decide (a ≤ b)))
  | .gtr => some (.bool (decide (a > b)))
  | .geq => some (.bool (decide (a ≥ b)))
  | _ => none

def aShift (op : BinOp) (x y : AV) (κ : AV → Option α) : Option α :=
  match x, y with
  | .int k a, .int _ b => if b < 0 then none else
    match op with
    | .shl => κ (.int k (k.wrap (a * 2 ^ min b.toNat k.bits)))
    | .shr => κ (.int k (a.fdiv (2 ^ min b.toNat k.bits)))
    | _ => none
  | _, _ => none

/-- What '==' compares: what a type's cells are; none: not compared here. -/
inductive EK where
  | bool | int | str | ptr | sl | map | func | iface
  | struct (fs : List EK)

def strBin (op : BinOp) (x y : ByteArray) : Option AV :=
  match op with
  | .add => if ((x.size + y.size : Nat) : Int) ≤ 9223372036854775807 then some (.str (x ++ y)) else none
  | .eql => some (.bool (x.toList == y.toList))
  | .neq => some (.bool (!(x.toList == y.toList)))
  | .lss => some (.bool (Op.bytesLess x.toList y.toList))
  | .leq => some (.bool (Op.bytesLess x.toList y.toList || x.toList == y.toList))
  | .gtr => some (.bool (!(Op.bytesLess x.toList y.toList || x.toList == y.toList)))
  | .geq => some (.bool (!(Op.bytesLess x.toList y.toList)))
  | _ => none

def aBin (op : BinOp) (x y : AV) (κ : AV → Option α) : Option α :=
  match x, y with
  | .int k a, .int k' b => if k = k' then (match intBin op k a b with | some v => κ v | Option.none => none) else none
  | .str a, .str b => match strBin op a b with
    | some v => κ v
    | Option.none => none
  | _, _ => none

/-- Cells that are held against each other, one by one. -/
def eqCells : List EK → List AV → List AV → Option Bool
  | [], [], [] => some true
  | .int :: ks, .int k a :: xs, .int k' b :: ys => if k = k' then (eqCells ks xs ys).map (fun r => (a == b) && r) else none
  | .bool :: ks, .bool a :: xs, .bool b :: ys => (eqCells ks xs ys).map (fun r => (a == b) && r)
  | .str :: ks, .str a :: xs, .str b :: ys => (eqCells ks xs ys).map (fun r => (a == b) && r)
  | _, _, _ => none

/-- '==' where the operands are neither numbers nor strings. -/
def aEq (e : EK) (x y : AV) (κ : Bool → Option α) : Option α :=
  match e, x, y with
  | .bool, .bool a, .bool b => κ (a == b)
  | .ptr, .nilptr, .nilptr => κ true
  | .ptr, .nilptr, .ptr _ _ _ => κ false
  | .ptr, .ptr _ _ _, .nilptr => κ false
  | .sl, .nilsl, .nilsl => κ true
  | .sl, .nilsl, .sl _ _ _ _ _ => κ false
  | .sl, .sl _ _ _ _ _, .nilsl => κ false
  | .map, .nilmap, .nilmap => κ true
  | .map, .nilmap, .map _ => κ false
  | .map, .map _, .nilmap => κ false
  | .func, .nilfunc, .nilfunc => κ true
  | .func, .nilfunc, .func _ _ _ => κ false
  | .func, .func _ _ _, .nilfunc => κ false
  | .iface, .nilif, .iface _ _ => κ false
  | .iface, .iface _ _, .nilif => κ false
  | .struct fs, .agg xs, .agg ys => match eqCells fs xs ys with
    | some b => κ b
    | Option.none => none
  | _, _, _ => none

def aUn (op : UnOp) (x : AV) (κ : AV → Option α) : Option α :=
  match op, x with
  | .neg, .int k n => κ (.int k (k.wrap (0 - n)))
  | .xor, .int k n => κ (.int k (k.wrap (BitVec.ofInt k.bits (if k.signed then -1 else k.max) ^^^ BitVec.ofInt k.bits n).toNat))
  | .not, .bool b => κ (.bool (!b))
  | _, _ => none

def aConvInt (k : IntKind) (x : AV) (κ : AV → Option α) : Option α :=
  match x with
  | .int _ n => κ (.int k (k.wrap n))
  | _ => none

def aStr (x : AV) (κ : ByteArray → Option α) : Option α :=
  match x with
  | .str s => κ s
  | _ => none

/-- Bytes of a row, as numbers. -/
def bytesAt : List AV → Option (List UInt8)
  | [] => some []
  | .int .u8 n :: r => (bytesAt r).map (UInt8.ofNat n.toNat :: ·)
  | _ => none

/-- A string out of a slice of bytes. -/
def aStrOf (x : AV) (s : Store) (κ : AV → Option α) : Option α :=
  match x with
  | .nilsl => κ (.str ByteArray.empty)
  | .sl l off n _ ep => aRow l ep s fun xs =>
    if off + n ≤ xs.length then (match bytesAt ((xs.drop off).take n) with
      | some b => κ (.str ⟨b.toArray⟩)
      | Option.none => none) else none
  | _ => none

/-- A new slice of a string's bytes. -/
def aBytesOf (x : AV) (s : Store) (κ : AV → Store → Option α) : Option α :=
  aStr x fun b => κ (.sl s.next 0 b.size 1 b.size) (s.push (.cells (b.data.toList.map fun c => .int .u8 c.toNat) true))

/-- A new slice of a string's code points. -/
def aRunesOf (x : AV) (s : Store) (κ : AV → Store → Option α) : Option α :=
  aStr x fun b => if (Conv.runesFrom b b.size 0 #[]).size ≤ 70368744177664 then κ (.sl s.next 0 (Conv.runesFrom b b.size 0 #[]).size 1 (Conv.runesFrom b b.size 0 #[]).size) (s.push (.cells ((Conv.runesFrom b b.size 0 #[]).toList.map ofVal) false)) else none

def aMakeSlice (zs : List AV) (es bytes : Nat) (n c : AV) (s : Store) (κ : AV → Store → Option α) : Option α :=
  match n, c with
  | .int .i64 a, .int .i64 b => if 0 ≤ a ∧ a ≤ b ∧ b ≤ 9223372036854775807 ∧ b * bytes ≤ 281474976710656 then
      κ (.sl s.next 0 a.toNat es (a.toNat * es)) (s.push (.cells (List.replicate a.toNat zs).flatten false)) else none
  | _, _ => none

/-- A number on its way into a bound. -/
def aNum (x : AV) (κ : Int → Option α) : Option α :=
  match x with
  | .int _ n => κ n
  | _ => none

def aSliceSl (es : Nat) (x : AV) (lo hi : Option AV) (κ : AV → Option α) : Option α :=
  match x with
  | .nilsl => (match lo with | some l => aNum l | Option.none => fun k => k 0) fun a => (match hi with | some h => aNum h | Option.none => fun k => k 0) fun b => if a = 0 ∧ b = 0 then κ .nilsl else none
  | .sl l off n es' ep => (match lo with | some l => aNum l | Option.none => fun k => k 0) fun a => (match hi with | some h => aNum h | Option.none => fun k => k (n : Int)) fun b =>
    if es' = es ∧ 0 ≤ a ∧ a ≤ b ∧ b ≤ n then κ (.sl l (off + a.toNat * es) (b.toNat - a.toNat) es ep)
    else if es' = es ∧ 0 ≤ a ∧ a ≤ b ∧ 0 < es ∧ off + b.toNat * es ≤ ep then κ (.sl l (off + a.toNat * es) (b.toNat - a.toNat) es ep) else none
  | _ => none

def aSliceStr (x : AV) (lo hi : Option AV) (κ : AV → Option α) : Option α :=
  match x with
  | .str s => (match lo with | some l => aNum l | Option.none => fun k => k 0) fun a => (match hi with | some h => aNum h | Option.none => fun k => k (s.size : Int)) fun b =>
    if 0 ≤ a ∧ a ≤ b ∧ b ≤ s.size then κ (.str (s.extract a.toNat b.toNat)) else none
  | _ => none

/-- A whole array behind a pointer, as a slice, or a part of it. -/
def aSliceArr (len es : Nat) (x : AV) (lo hi : Option AV) (κ : AV → Option α) : Option α :=
  match x with
  | .ptr l off ep => (match lo with | some l => aNum l | Option.none => fun k => k 0) fun a => (match hi with | some h => aNum h | Option.none => fun k => k (len : Int)) fun b =>
    if 0 ≤ a ∧ a ≤ b ∧ b ≤ len ∧ off + len * es = ep ∧ 0 < ep then κ (.sl l (off + a.toNat * es) (b.toNat - a.toNat) es ep) else none
  | _ => none

/-- A cut with a capacity: nobody knows how far the header goes then; it may not be used. -/
def aCutCap (x : AV) (lo hi : Option AV) (mx : AV) (κ : AV → Option α) : Option α :=
  match x with
  | .sl _ _ n _ _ => (match lo with | some l => aNum l | Option.none => fun k => k 0) fun a => (match hi with | some h => aNum h | Option.none => fun k => k (n : Int)) fun b => aNum mx fun c =>
    if 0 ≤ a ∧ a ≤ b ∧ b ≤ c ∧ c ≤ n ∧ hi.isSome = true then κ .junk else none
  | _ => none

/-- An element of an array's value. -/
def aIndexAgg (agg : Bool) (len c : Nat) (x i : AV) (κ : AV → Option α) : Option α :=
  match i with
  | .int _ j => if 0 ≤ j then (if j < len then (if agg = true then aFieldN (j.toNat * c) c x κ else aField1 (j.toNat * c) x κ) else none) else none
  | _ => none

/-- A literal's row of bytes that is seen as a string from now on: nobody writes it. -/
def aConvSl (x : AV) (s : Store) (κ : AV → Store → Option α) : Option α :=
  match x with
  | .sl l off n es ep => if 0 < n then aOwn l ep s fun xs => κ (.sl l off n es ep) (s.set l (.cells xs true)) else none
  | _ => none

/-- clear of a slice. -/
def aClear (zs : List AV) (es : Nat) (x : AV) (s : Store) (κ : Store → Option α) : Option α :=
  match x with
  | .nilsl => κ s
  | .sl l off n es' ep => if n = 0 then κ s else if es' = es then aOwn l ep s fun xs =>
      if off + n * es ≤ xs.length then κ (s.set l (.cells (putAll xs off (List.replicate n zs).flatten) false)) else none
    else none
  | _ => none

def aExtract (i : Nat) (x : AV) (κ : AV → Option α) : Option α :=
  match x with
  | .tuple vs => match vs[i]? with
    | some v => κ v
    | Option.none => none
  | _ => none

/-- The cells that an append adds. -/
def aCellsOf (es : Nat) (x : AV) (s : Store) (κ : Nat → List AV → Option α) : Option α :=
  match x with
  | .nilsl => κ 0 []
  | .str b => if es = 1 then κ b.size (b.data.toList.map fun c => .int .u8 c.toNat) else none
  | .sl l off n es' ep => if es' = es then aRow l ep s fun xs => if off + n * es ≤ xs.length then κ n ((xs.drop off).take (n * es)) else none else none
  | _ => none

/-- append: nothing to add: the same header; a nil slice: a new row; a header that ends with its row: the row grows; a header with that much of its row behind it: that is written. -/
def aAppend (es bytes : Nat) (x y : AV) (s : Store) (κ : AV → Store → Option α) : Option α :=
  aCellsOf es y s fun m new =>
    match x with
    | .nilsl => if m = 0 then κ .nilsl s else if m * bytes ≤ 140737488355328 ∧ 0 < bytes then κ (.sl s.next 0 m es (m * es)) (s.push (.cells new false)) else none
    | .sl l off n es' ep => if es' = es then aOwn l ep s fun xs =>
        if m = 0 then κ (.sl l off n es ep) s
        else if off + n * es = xs.length ∧ (n + m) * bytes ≤ 140737488355328 ∧ 0 < es ∧ 0 < bytes then κ (.sl l off (n + m) es (ep + m * es)) (s.set l (.cells (xs ++ new) false))
        else if off + (n + m) * es ≤ xs.length ∧ 0 < es then κ (.sl l off (n + m) es ep) (s.set l (.cells (putAll xs (off + n * es) new) false)) else none
      else none
    | _ => none

def aLen (x : AV) (κ : AV → Option α) : Option α :=
  match x with
  | .nilsl => κ (.int .i64 0)
  | .sl _ _ n _ _ => κ (.int .i64 n)
  | _ => none

/-- append of what a make would make, behind nil alone. -/
def aAppendMake (zs : List AV) (es bytes : Nat) (x y : AV) (s : Store) (κ : AV → Store → Option α) : Option α :=
  match x, y with
  | .nilsl, .int _ n => if n = 0 then κ .nilsl s else if 0 < n ∧ n ≤ 4611686018427387904 ∧ n * bytes ≤ 140737488355328 ∧ 0 < bytes ∧ 0 < es then
      κ (.sl s.next 0 n.toNat es (n.toNat * es)) (s.push (.cells (List.replicate n.toNat zs).flatten false)) else none
  | _, _ => none

/-- Of nil alone: else it hangs on what was made. -/
def aCap (x : AV) (κ : AV → Option α) : Option α :=
  match x with
  | .nilsl => κ (.int .i64 0)
  | _ => none

def aLenStr (x : AV) (κ : AV → Option α) : Option α :=
  match x with
  | .str s => κ (.int .i64 s.size)
  | _ => none

def aLenMap (x : AV) (s : Store) (κ : AV → Option α) : Option α :=
  match x with
  | .nilmap => κ (.int .i64 0)
  | .map l => match s.get l with
    | .map es _ => κ (.int .i64 es.length)
    | _ => none
  | _ => none

def aMax2 (x y : AV) (κ : AV → Option α) : Option α :=
  match x, y with
  | .int k a, .int _ b => κ (.int k (if b > a then b else a))
  | _, _ => none
def aMin2 (x y : AV) (κ : AV → Option α) : Option α :=
  match x, y with
  | .int k a, .int _ b => κ (.int k (if b < a then b else a))
  | _, _ => none
def aMaxL : AV → List AV → (AV → Option α) → Option α
  | x, [], κ => κ x
  | x, y :: r, κ => aMax2 x y fun z => aMaxL z r κ
def aMinL : AV → List AV → (AV → Option α) → Option α
  | x, [], κ => κ x
  | x, y :: r, κ => aMin2 x y fun z => aMinL z r κ

/-- copy, where both rows differ, or nothing is copied into itself otherwise than onto itself: the cells are read first. -/
def aCopy (es : Nat) (x y : AV) (s : Store) (κ : AV → Store → Option α) : Option α :=
  aCellsOf es y s fun m new =>
    match x with
    | .nilsl => κ (.int .i64 0) s
    | .sl l off n es' ep => if es' = es then aOwn l ep s fun xs =>
        if off + n * es ≤ xs.length then κ (.int .i64 (min m n : Nat)) (s.set l (.cells (putAll xs off (new.take (min m n * es))) false)) else none
      else none
    | _ => none

/-- Keys of maps: numbers, strings, bools, structs of these. -/
def cellEq : AV → AV → Option Bool
  | .int k a, .int k' b => if k = k' then some (a == b) else none
  | .str a, .str b => some (a == b)
  | .bool a, .bool b => some (a == b)
  | _, _ => none
def keyEq : AV → AV → EK → Option Bool
  | .agg xs, .agg ys, .struct ks => eqCells ks xs ys
  | a, b, _ => cellEq a b

def findAt (kd : EK) (key : AV) : List (AV × AV) → Nat → Option (Option (Nat × AV))
  | [], _ => some none
  | (k, v) :: r, i => match keyEq key k kd with
    | some true => some (some (i, v))
    | some false => findAt kd key r (i + 1)
    | Option.none => Option.none

/-- Does a key fit the kind of a map's keys? -/
def keyFits : EK → AV → Bool
  | .int, .int _ _ => true
  | .str, .str _ => true
  | .bool, .bool _ => true
  | .struct ks, .agg xs => (eqCells ks xs xs).isSome
  | _, _ => false

/-- A map's entry of a key. -/
def aFind (kd : EK) (m key : AV) (s : Store) (κ : Option (Nat × AV) → Option α) : Option α :=
  if keyFits kd key = true then
    (match m with
    | .nilmap => κ none
    | .map l => match s.get l with
      | .map es _ => match findAt kd key es 0 with
        | some r => κ r
        | Option.none => none
      | _ => none
    | _ => none) else none

def aLookup (kd : EK) (zero : AV) (ok : Bool) (m key : AV) (s : Store) (κ : AV → Option α) : Option α :=
  aFind kd m key s fun r => match r with
    | some (_, v) => κ (bif ok then .tuple [v, .bool true] else v)
    | Option.none => κ (bif ok then .tuple [zero, .bool false] else zero)

/-- A map's entries, to be changed. -/
def aMapAt (kd : EK) (m key : AV) (s : Store) (κ : Nat → List (AV × AV) → List Nat × Nat → Option (Nat × AV) → Option α) : Option α :=
  if keyFits kd key = true then
    (match m with
    | .map l => match s.get l with
      | .map es st => match findAt kd key es 0 with
        | some r => κ l es st r
        | Option.none => none
      | _ => none
    | _ => none) else none

def aMapUpdate (kd : EK) (m key x : AV) (s : Store) (κ : Store → Option α) : Option α :=
  aMapAt kd m key s fun l es st r => match r with
    | some (i, _) => κ (s.set l (.map (es.set i (key, x)) st))
    | Option.none => κ (s.set l (.map (es ++ [(key, x)]) (st.1 ++ [st.2], st.2 + 1)))

/-- The entry of a key, made if there is none: what it holds, and when it came. -/
def aMapEntry (kd : EK) (zero m key : AV) (s : Store) (κ : AV → Store → Option α) : Option α :=
  aMapAt kd m key s fun l es st r => match r with
    | some (i, v) => match st.1[i]? with
      | some b => κ (.tuple [v, .int .i64 b]) (s.set l (.map (es.set i (key, v)) st))
      | Option.none => none
    | Option.none => κ (.tuple [zero, .int .i64 st.2]) (s.set l (.map (es ++ [(key, zero)]) (st.1 ++ [st.2], st.2 + 1)))

def aEntryStore (m stamp x : AV) (s : Store) (κ : Store → Option α) : Option α :=
  match m, stamp with
  | .map l, .int _ b => match s.get l with
    | .map es st => match st.1.findIdx? (fun c : Nat => (c : Int) == b) with
      | some i => match es[i]? with
        | some (k, _) => κ (s.set l (.map (es.set i (k, x)) st))
        | Option.none => none
      | Option.none => none
    | _ => none
  | _, _ => none

def aDelete (kd : EK) (m key : AV) (s : Store) (κ : Store → Option α) : Option α :=
  if keyFits kd key = true then
    (match m with
    | .nilmap => κ s
    | .map l => match s.get l with
      | .map es st => match findAt kd key es 0 with
        | some (some (i, _)) => κ (s.set l (.map (es.eraseIdx i) (st.1.eraseIdx i, st.2)))
        | some Option.none => κ s
        | Option.none => none
      | _ => none
    | _ => none) else none

/-- What goes through a map, or a string. -/
def aRangeMap (m : AV) (s : Store) (κ : AV → Store → Option α) : Option α :=
  match m with
  | .nilmap => κ (.ptr s.next 0 0) (s.push (.miter .nilmap 0 [] 0))
  | .map l => match s.get l with
    | .map _ st => κ (.ptr s.next 0 0) (s.push (.miter (.map l) st.2 [] st.2))
    | _ => none
  | _ => none
def aRangeStr (x : AV) (s : Store) (κ : AV → Store → Option α) : Option α :=
  aStr x fun b => κ (.ptr s.next 0 0) (s.push (.siter b 0))

/-- The next one: of a map, where there is no choice. -/
def aNextMap (p : AV) (s : Store) (κ : AV → Store → Option α) : Option α :=
  match p with
  | .ptr l 0 0 => match s.get l with
    | .miter .nilmap _ _ _ => κ (.tuple [.bool false]) s
    | .miter (.map m) since seen last => match s.get m with
      | .map es st => if seen ≠ [] ∧ es ≠ [] ∧ st.1.all (fun b => decide (last ≤ b)) = true then none else
        match (es.zip st.1).filter (fun e => !seen.contains e.2) with
        | [] => κ (.tuple [.bool false]) s
        | [((k, v), b)] => if b < since then κ (.tuple [.bool true, k, v]) (s.set l (.miter (.map m) since (seen ++ [b]) st.2)) else none
        | _ => none
      | _ => none
    | _ => none
  | _ => none
/-- The entry that the last step told, as it is now. -/
def aEntry (p : AV) (s : Store) (κ : AV → Option α) : Option α :=
  match p with
  | .ptr l 0 0 => match s.get l with
    | .miter (.map m) _ seen last => match s.get m, seen.getLast? with
      | .map es st, some b => if st.2 = last then (match (es.zip st.1).find? (fun e => e.2 == b) with
        | some ((k, v), _) => κ (.tuple [k, v])
        | Option.none => none) else none
      | _, _ => none
    | _ => none
  | _ => none
def aNextStr (p : AV) (s : Store) (κ : AV → Store → Option α) : Option α :=
  match p with
  | .ptr l 0 0 => match s.get l with
    | .siter b pos => if pos < b.size then κ (.tuple [.bool true, .int .i64 pos, .int .i32 (Utf8.decode b pos).1]) (s.set l (.siter b (pos + (Utf8.decode b pos).2)))
      else κ (.tuple [.bool false]) s
    | _ => none
  | _ => none

/-! ### types -/

def zerosOf (P : Program) (t : TypeId) : Option (List AV) := ((P.info? t).bind (·.zero)).bind fun v => if v.cells.toList.all (fun x => match x with | .agg _ | .tuple _ => false | _ => true) = true then some (v.cells.toList.map ofVal) else none

/-- A type's cells. -/
def szOf (P : Program) (t : TypeId) : Option Nat := (P.info? t).map (·.size)
/-- A struct's fields, one behind the other, that are numbers, bools and strings, or structs of these, without blanks. -/
def ekStep (P : Program) (sub : List Field → Option (List EK)) : Nat → List Field → Option (List EK)
  | _, [] => some []
  | i, f :: fs => if f.name = "_" then none else if f.offset = i then (match P.underlying f.type with
    | some .bool => (ekStep P sub (i + 1) fs).map (.bool :: ·)
    | some (.int _) => (ekStep P sub (i + 1) fs).map (.int :: ·)
    | some .string => (ekStep P sub (i + 1) fs).map (.str :: ·)
    | some (.struct gs) => (match sub gs.toList with
      | some ks => if P.stoodInHeld f.type = false ∧ szOf P f.type = some ks.length then (ekStep P sub (i + ks.length) fs).map (ks ++ ·) else none
      | none => none)
    | _ => none) else none
def ekFields (P : Program) : Nat → Nat → List Field → Option (List EK)
  | 0, i, fs => ekStep P (fun _ => none) i fs
  | d + 1, i, fs => ekStep P (fun gs => ekFields P d 0 gs) i fs

/-- The comparison of a type's values: a struct's cells one by one. -/
def ekOf (P : Program) (t : TypeId) : Option EK :=
  match P.underlying t with
  | some .bool => some .bool
  | some (.int _) => some .int
  | some .string => some .str
  | some (.pointer _) => some .ptr
  | some (.slice _) => some .sl
  | some (.map _ _) => some .map
  | some (.func _ _ _) => some .func
  | some (.interface _) => some .iface
  | some (.struct fs) => if P.stoodInHeld t = false ∧ P.eqGuardType P.depth t = false then (ekFields P 4 0 fs.toList).map .struct else none
  | _ => none

end
end Go.Proofs.Ytkfdgegmahbkiaa.Sim
namespace Go.Proofs.Ytkfdgegmahbkiaa.Sim

abbrev Fr := Nat → AV
def upd (fr : Fr) (d : Nat) (v : AV) : Fr := fun j => if j = d then v else fr j

/-- What a package-level variable's address is, in the store: nothing is known of it, but for the tables that are laid. -/
def gvA : Nat → AV := fun _ => .junk
def evalA (fr : Fr) : Operand → AV
  | .tmp t => fr t
  | .const v => ofVal v
  | .global g => gvA g
  | .func f => .func f [] []

/-- The calls: a function's number, its arguments, the store: what it returns, and the store behind it. -/
abbrev CallA := Nat → List AV → Store → Option (AV × Store)

section
variable {α : Type}

/-- Parts laid into a value: the place of each, its size, the part. -/
def aBuild : List (Nat × Nat × AV) → List AV → (List AV → Option α) → Option α
  | [], cs, κ => κ cs
  | (off, size, x) :: r, cs, κ => aCells x fun vs => if vs.length = size ∧ off + size ≤ cs.length then aBuild r (putAll cs off vs) κ else none

/-- A type's zero value. -/
def zeroOf (P : Program) (t : TypeId) : Option AV :=
  match (P.info? t).bind (·.zero) with
  | some (.agg cs) => if cs.toList.all (fun x => match x with | .agg _ | .tuple _ => false | _ => true) = true then some (.agg (cs.toList.map ofVal)) else none
  | some v => some (ofVal v)
  | _ => none
/-- Is it a struct or an array? -/
def aggOf (P : Program) (t : TypeId) : Option Bool :=
  match P.underlying t with
  | some (.struct _) | some (.array _ _) => some true
  | some _ => some false
  | none => none

/-- The places of a struct's fields, of an array's elements. -/
def placeOf (P : Program) (t : TypeId) : Option (Nat → Option (Nat × Nat)) :=
  match P.underlying t with
  | some (.struct fs) => (fs.toList.mapM fun f => (szOf P f.type).map fun n => (f.offset, n)).map fun l => fun i => l[i]?
  | some (.array _ e) => (szOf P e).map fun n => fun i => some (i * n, n)
  | _ => none
def partsOf (pl : Nat → Option (Nat × Nat)) (ρ : Operand → AV) : List (Nat × Operand) → Option (List (Nat × Nat × AV))
  | [] => some []
  | p :: r => match pl p.1, partsOf pl ρ r with
    | some q, some l => some ((q.1, q.2, ρ p.2) :: l)
    | _, _ => none

def aCall (call : CallA) (f : AV) (args : List AV) (s : Store) (κ : AV → Store → Option α) : Option α :=
  match f with
  | .func g first cap => (call g (first ++ args ++ cap) s).bind fun r => κ r.1 r.2
  | _ => none

/-- The kind of what an operand's type is, for the operations that ask. -/
def elemOf (P : Program) (t : TypeId) : Option TypeId :=
  match P.underlying t with
  | some (.slice e) => some e
  | _ => none

/-- Keys that are numbers, strings or bools. -/
def keyKind (P : Program) (t : TypeId) : Option EK :=
  match P.underlying t with
  | some .bool => some .bool
  | some (.int _) => some .int
  | some .string => some .str
  | some (.struct _) => ekOf P t
  | _ => none

/-- A method of what an interface holds: of its type's own. -/
def aInvoke (P : Program) (call : CallA) (recv : AV) (name : String) (args : List AV) (s : Store) (κ : AV → Store → Option α) : Option α :=
  match recv with
  | .iface t v => match (P.info? t).bind fun i => i.methods.find? (·.name == name), P.underlying t with
    | some m, some d => match m.func, d with
      | some (f, true), .pointer _ => if m.path.isEmpty = true then (call f (v :: args) s).bind fun r => κ r.1 r.2 else none
      | some (_, false), .pointer _ => none
      | some (f, false), _ => if m.path.isEmpty = true then (call f (v :: args) s).bind fun r => κ r.1 r.2 else none
      | _, _ => none
    | _, _ => none
  | _ => none

/-- A method that is looked at is its type's own, and asks for nothing of its receiver. -/
def methOkB (P : Program) (n : String) (t : Nat) : Bool :=
  match (P.info? t).bind fun i => i.methods.find? (·.name == n), P.underlying t with
  | some m, some d => m.path.isEmpty && (match m.func, d with
    | some (_, true), _ => true
    | some (_, false), .pointer _ => false
    | some (_, false), _ => true
    | _, _ => false)
  | _, _ => false
def MethFine (P : Program) : Prop := methL.all (fun p => methOkB P p.1 p.2) = true

/-- What an interface holds, of a type that isn't one. -/
def aAssert (P : Program) (asserted : TypeId) (ok : Bool) (x : AV) (κ : AV → Option α) : Option α :=
  match P.underlying asserted, zeroOf P asserted with
  | some (.interface _), _ => none
  | some _, some z => (match x with
    | .iface t v => if t = asserted then κ (bif ok then .tuple [v, .bool true] else v) else bif ok then κ (.tuple [z, .bool false]) else none
    | .nilif => bif ok then κ (.tuple [z, .bool false]) else none
    | _ => none)
  | _, _ => none

def aBuiltin (P : Program) (b : Builtin) (ts : List TypeId) (xs : List AV) (s : Store) (κ : AV → Store → Option α) : Option α :=
  match b, ts, xs with
  | .len, t :: _, x :: _ => (match P.underlying t with
    | some .string => aLenStr x fun v => κ v s
    | some (.slice _) => aLen x fun v => κ v s
    | some (.array n _) => κ (.int .i64 n) s
    | some (.map _ _) => aLenMap x s fun v => κ v s
    | _ => none)
  | .append, [t, u], [x, y] => (match elemOf P t, P.underlying u with
    | some e, some (.slice _) | some e, some .string => (match zerosOf P e, P.info? e with
      | some zs, some i => if zs.length = i.size then aAppend i.size i.bytes x y s κ else none
      | _, _ => none)
    | some e, some (.int _) => (match zerosOf P e, P.info? e with
      | some zs, some i => if zs.length = i.size then aAppendMake zs i.size i.bytes x y s κ else none
      | _, _ => none)
    | _, _ => none)
  | .copy, [t, _], [x, y] => (match elemOf P t with
    | some e => (match szOf P e with
      | some n => aCopy n x y s κ
      | _ => none)
    | _ => none)
  | .clear, t :: _, [x] => (match elemOf P t with
    | some e => (match zerosOf P e, P.info? e with
      | some zs, some i => if zs.length = i.size then aClear zs i.size x s fun s' => κ (.tuple []) s' else none
      | _, _ => none)
    | _ => none)
  | .max, _, x :: r => aMaxL x r fun v => κ v s
  | .min, _, x :: r => aMinL x r fun v => κ v s
  | .delete, t :: _, [m, k] => (match P.underlying t with
    | some (.map kt _) => (match keyKind P kt with
      | some kd => aDelete kd m k s fun s' => κ (.tuple []) s'
      | _ => none)
    | _ => none)
  | .cap, t :: _, x :: _ => (match P.underlying t with
    | some (.slice _) => aCap x fun v => κ v s
    | _ => none)
  | _, _, _ => none

def aop (P : Program) (call : CallA) (ρ : Operand → AV) (o : Oper) (s : Store) (κ : AV → Store → Option α) : Option α :=
  match o.op with
  | .move x | .assign x => κ (ρ x) s
  | .pick c a b => aPick (ρ c) (ρ a) (ρ b) fun v => κ v s
  | .alloc t => (match zerosOf P t with
    | some zs => aNew zs s κ
    | _ => none)
  | .box _ x => aCells (ρ x) fun cs => aNew cs s κ
  | .build t parts => (match zerosOf P t, placeOf P t with
    | some zs, some pl => (match partsOf pl ρ parts.toList with
      | some ps => aBuild ps zs fun cs => κ (.agg cs) s
      | _ => none)
    | _, _ => none)
  | .buildSlice t n parts => (match elemOf P t with
    | some e => (match zerosOf P e, szOf P e with
      | some zs, some c => if n * c ≤ 16777216 ∧ zs.length = c then
          aBuild (parts.toList.map fun p => (p.1 * c, c, ρ p.2)) (List.replicate n zs).flatten fun cs =>
            κ (.sl s.next 0 n c (n * c)) (s.push (.cells cs false)) else none
      | _, _ => none)
    | _ => none)
  | .load t a => (match aggOf P t, szOf P t with
    | some true, some n => aLoadN n (ρ a) s fun v => κ v s
    | some false, _ => aLoad1 (ρ a) s fun v => κ v s
    | _, _ => none)
  | .store t a x => (match szOf P t with
    | some n => aStore n (ρ a) (ρ x) s fun s' => κ (.tuple []) s'
    | _ => none)
  | .nilCheck x => aNilCheck (ρ x) fun v => κ v s
  | .binOp op t x y _ => (match op with
    | .shl | .shr => aShift op (ρ x) (ρ y) fun v => κ v s
    | _ => match ekOf P t with
      | some .int => aBin op (ρ x) (ρ y) fun v => κ v s
      | some .str => aBin op (ρ x) (ρ y) fun v => κ v s
      | some e => (match op with
        | .eql => aEq e (ρ x) (ρ y) fun b => κ (.bool b) s
        | .neq => aEq e (ρ x) (ρ y) fun b => κ (.bool (!b)) s
        | _ => none)
      | Option.none => none)
  | .unOp op _ x => aUn op (ρ x) fun v => κ v s
  | .convert src dst x => (match P.underlying src, P.underlying dst with
    | some (.int _), some (.int k) => aConvInt k (ρ x) fun v => κ v s
    | some .string, some .string => aStr (ρ x) fun b => κ (.str b) s
    | some .string, some (.slice e) => (match P.underlying e with
      | some (.int .u8) => aBytesOf (ρ x) s κ
      | some (.int .i32) => aRunesOf (ρ x) s κ
      | _ => none)
    | some (.slice e), some .string => (match P.underlying e with
      | some (.int .u8) => aStrOf (ρ x) s fun v => κ v s
      | _ => none)
    | some (.slice _), some (.slice e) => (match P.underlying e with
      | some (.int .u8) => if src = dst then aConvSl (ρ x) s κ else none
      | _ => none)
    | _, _ => none)
  | .makeInterface t x => (match P.underlying t with
    | some (.interface _) => none
    | some _ => κ (.iface t (ρ x)) s
    | Option.none => none)
  | .makeFunc (.func f) first cap => κ (.func f (first.toList.map ρ) (cap.toList.map ρ)) s
  | .makeFunc (.method n) first _ => (match first.toList.map ρ with
    | [x] => κ (.meth n x) s
    | _ => none)
  | .makeMap _ Option.none => κ (.map s.next) (s.push (.map [] ([], 0)))
  | .makeSlice t n c => (match elemOf P t with
    | some e => (match zerosOf P e, P.info? e with
      | some zs, some i => if zs.length = i.size then aMakeSlice zs i.size i.bytes (ρ n) (ρ c) s κ else none
      | _, _ => none)
    | _ => none)
  | .slice t x lo hi Option.none => (match P.underlying t with
    | some .string => aSliceStr (ρ x) (lo.map ρ) (hi.map ρ) fun v => κ v s
    | some (.slice e) => (match szOf P e with
      | some c => aSliceSl c (ρ x) (lo.map ρ) (hi.map ρ) fun v => κ v s
      | _ => none)
    | some (.array n e) => (match szOf P e with
      | some c => aSliceArr n c (ρ x) (lo.map ρ) (hi.map ρ) fun v => κ v s
      | _ => none)
    | _ => none)
  | .slice t x lo hi (some mx) => (match P.underlying t with
    | some (.slice e) => (match szOf P e with
      | some _ => aCutCap (ρ x) (lo.map ρ) (hi.map ρ) (ρ mx) fun v => κ v s
      | _ => none)
    | _ => none)
  | .fieldAddr t x i => (match P.underlying t with
    | some (.struct fs) => (match fs[i]? with
      | some f => (match szOf P f.type with
        | some n => if 0 < n then aFieldAddr f.offset (ρ x) fun v => κ v s else none
        | _ => none)
      | _ => none)
    | _ => none)
  | .field t x i => (match P.underlying t with
    | some (.struct fs) => (match fs[i]? with
      | some f => (match aggOf P f.type, szOf P f.type with
        | some true, some n => aFieldN f.offset n (ρ x) fun v => κ v s
        | some false, _ => aField1 f.offset (ρ x) fun v => κ v s
        | _, _ => none)
      | _ => none)
    | _ => none)
  | .indexAddr t x i => (match P.underlying t with
    | some (.slice e) => (match szOf P e with
      | some c => aIndexSl c (ρ x) (ρ i) fun v => κ v s
      | _ => none)
    | some (.array n e) => (match szOf P e with
      | some c => aIndexArr n c (ρ x) (ρ i) fun v => κ v s
      | _ => none)
    | _ => none)
  | .index t x i => (match P.underlying t with
    | some .string => aIndexStr (ρ x) (ρ i) fun v => κ v s
    | some (.array n e) => (match aggOf P e, szOf P e with
      | some b, some c => aIndexAgg b n c (ρ x) (ρ i) fun v => κ v s
      | _, _ => none)
    | _ => none)
  | .lookup t m k ok => (match P.underlying t with
    | some (.map kt e) => (match zeroOf P e with
      | some z => (match keyKind P kt with
        | some kd => aLookup kd z ok (ρ m) (ρ k) s fun v => κ v s
        | _ => none)
      | _ => none)
    | _ => none)
  | .mapUpdate t m k x => (match P.underlying t with
    | some (.map kt _) => (match keyKind P kt with
      | some kd => aMapUpdate kd (ρ m) (ρ k) (ρ x) s fun s' => κ (.tuple []) s'
      | _ => none)
    | _ => none)
  | .extract x i => aExtract i (ρ x) fun v => κ v s
  | .call c => (match c.callee with
    | .value f => aCall call (ρ f) (c.args.toList.map ρ) s κ
    | .builtin b => aBuiltin P b c.argTypes.toList (c.args.toList.map ρ) s κ
    | .invoke x name => aInvoke P call (ρ x) name (c.args.toList.map ρ) s κ)
  | .mapEntry t m k => (match P.underlying t with
    | some (.map kt e) => (match zeroOf P e with
      | some z => (match keyKind P kt with
        | some kd => aMapEntry kd z (ρ m) (ρ k) s κ
        | _ => none)
      | _ => none)
    | _ => none)
  | .entryStore _ m st x => aEntryStore (ρ m) (ρ st) (ρ x) s fun s' => κ (.tuple []) s'
  | .range t x => (match P.underlying t with
    | some .string => aRangeStr (ρ x) s κ
    | some (.map _ _) => aRangeMap (ρ x) s κ
    | _ => none)
  | .next it isStr => if isStr = true then aNextStr (ρ it) s κ else aNextMap (ρ it) s κ
  | .entry it => aEntry (ρ it) s fun v => κ v s
  | .typeAssert x _ t ok => aAssert P t ok (ρ x) fun v => κ v s
  | _ => none

def aPut (nt : Nat) (d : Option Tmp) (v : AV) (fr : Fr) (κ : Fr → Option α) : Option α :=
  match d with
  | Option.none => κ fr
  | some t => if t < nt then κ (upd fr t v) else none

abbrev FK (α : Type) := Fr → Store → Option α

/-- A region's operations in the text's order. -/
def execOps (P : Program) (call : CallA) (nt : Nat) (ops : Array Oper) : List Oper → (Fr → Store → Option α) → Fr → Store → Option α
  | [], κ, fr, s => κ fr s
  | o :: r, κ, fr, s => match o.guard with
    | Option.none => aop P call (evalA fr) o s fun v s' => aPut nt o.dst v fr fun fr' => execOps P call nt ops r κ fr' s'
    | some (j, want) => match (ops[j]?).bind (·.dst) with
      | Option.none => none
      | some t => (aGuard (fr t) want (aop P call (evalA fr) o s fun v s' => some (v, s')) (some (.tuple [], s))).bind fun q =>
          aPut nt o.dst q.1 fr fun fr' => execOps P call nt ops r κ fr' q.2

/-! ### regions whose order is drawn -/

def pairK : AV → Store → Option (AV × Store) := fun v s => some (v, s)

/-- An operation under its guard. -/
def stepA (P : Program) (call : CallA) (ops : Array Oper) (fr : Fr) (o : Oper) (s : Store) : Option (AV × Store) :=
  match o.guard with
  | Option.none => aop P call (evalA fr) o s pairK
  | some (j, want) => match (ops[j]?).bind (·.dst) with
    | Option.none => none
    | some t => aGuard (fr t) want (aop P call (evalA fr) o s pairK) (some (.tuple [], s))

/-- An operation that neither reads nor changes the store. -/
def opPure (P : Program) : Op → Bool
  | .move _ | .assign _ | .pick _ _ _ | .build _ _ | .nilCheck _ | .binOp _ _ _ _ _ | .unOp _ _ _ | .makeInterface _ _ | .makeFunc _ _ _ | .slice _ _ _ _ _ | .fieldAddr _ _ _ | .field _ _ _
  | .indexAddr _ _ _ | .index _ _ _ | .extract _ _ => true
  | .convert s d _ => (match P.underlying s, P.underlying d with
    | some (.int _), _ => true
    | some .string, some .string => true
    | _, _ => false)
  | .call c => (match c.callee with
    | .builtin .len => (match (c.argTypes.toList.head?).bind P.underlying with
      | some .string | some (.slice _) | some (.array _ _) => true
      | _ => false)
    | .builtin .max | .builtin .min => true
    | _ => false)
  | _ => false

/-- An operation that reads the store. -/
def opRead (P : Program) : Op → Bool
  | .load _ _ | .lookup _ _ _ _ => true
  | .convert s d _ => (match P.underlying s, P.underlying d with
    | some (.slice _), some .string => true
    | _, _ => false)
  | .call c => (match c.callee with
    | .builtin .len => (match (c.argTypes.toList.head?).bind P.underlying with
      | some (.map _ _) => true
      | _ => false)
    | _ => false)
  | _ => false

def opWrite (P : Program) (o : Op) : Bool := !(opPure P o) && !(opRead P o)

/-- Are two values the same? -/
def avEq : AV → AV → Bool
  | .bool a, .bool b => a == b
  | .int k n, .int k' n' => decide (k = k') && decide (n = n')
  | .str a, .str b => decide (a.data.toList = b.data.toList)
  | .ptr l o e, .ptr l' o' e' => Nat.beq l l' && Nat.beq o o' && Nat.beq e e'
  | .nilptr, .nilptr => true
  | .sl l o n z e, .sl l' o' n' z' e' => Nat.beq l l' && Nat.beq o o' && Nat.beq n n' && Nat.beq z z' && Nat.beq e e'
  | .nilsl, .nilsl => true
  | .map l, .map l' => Nat.beq l l'
  | .nilmap, .nilmap => true
  | .func f a b, .func f' a' b' => Nat.beq f f' && avsEq a a' && avsEq b b'
  | .nilfunc, .nilfunc => true
  | .iface t v, .iface t' v' => Nat.beq t t' && avEq v v'
  | .meth n v, .meth n' v' => decide (n = n') && avEq v v'
  | .nilif, .nilif => true
  | .agg a, .agg b => avsEq a b
  | .tuple a, .tuple b => avsEq a b
  | .junk, .junk => true
  | _, _ => false
where avsEq : List AV → List AV → Bool
  | [], [] => true
  | x :: a, y :: b => avEq x y && avsEq a b
  | _, _ => false
termination_by structural x => x

def aSame (v v' : AV) (x : Option α) : Option α := bif avEq v v' then x else none

def sames : List (Option (AV × Store) × AV) → Option α → Option α
  | [], x => x
  | (c, v) :: r, x => c.bind fun q => aSame q.1 v (sames r x)

/-- What is looked at again: a reading operation at the stores at which another order would have it read. -/
def chk (P : Program) (call : CallA) (ops : Array Oper) (b : Array Nat) (j : Nat) (o : Oper) (q : AV × Store) (fr : Fr) (H : List (Nat × Oper × Store)) : List (Option (AV × Store) × AV) :=
  if opRead P o.op = true then H.filterMap fun h => if opWrite P h.2.1.op = true ∧ (b.getD j 0).testBit h.1 = false then some (stepA P call ops fr o h.2.2, q.1) else none
  else if opWrite P o.op = true then H.filterMap fun h => if opRead P h.2.1.op = true ∧ (b.getD j 0).testBit h.1 = false then (h.2.1.dst).map fun d => (stepA P call ops fr h.2.1 q.2, fr d) else none
  else []

noncomputable def execDraw (P : Program) (call : CallA) (nt : Nat) (ops : Array Oper) (b : Array Nat) (κ : Fr → Store → Option α) : List (Nat × Oper) → List (Nat × Oper × Store) → Fr → Store → Option α
  | [], _, fr, s => κ fr s
  | (j, o) :: r, H, fr, s => (stepA P call ops fr o s).bind fun q => sames (chk P call ops b j o q fr H) (aPut nt o.dst q.1 fr fun fr' => execDraw P call nt ops b κ r ((j, o, s) :: H) fr' q.2)

/-- The slots at which an operation looks. -/
def looks (ops : Array Oper) (o : Oper) : List Tmp :=
  (o.op.operands.toList.filterMap fun | .tmp t => some t | _ => none) ++
  (match o.guard with
   | some (g, _) => ((ops[g]?).bind (·.dst)).toList
   | Option.none => [])

/-- Numbers worked out, one by one. -/
def forceL : List Nat → (List Nat → α) → α
  | [], k => k []
  | x :: r, k => CheckFast.force x fun v => forceL r fun r' => k (v :: r')
theorem forceL_eq : ∀ (l : List Nat) (k : List Nat → α), forceL l k = k l
  | [], _ => rfl
  | x :: r, k => by rw [forceL, CheckFast.force_eq, forceL_eq r]

/-- An operation's slot (0: none), the slots at which it looks, what it is: 0 reckons, 1 reads, 2 the rest. -/
def rowOf (P : Program) (ops : Array Oper) (o : Oper) : Nat × List Nat × Nat :=
  ((match o.dst with | Option.none => 0 | some d => d + 1), looks ops o, bif opPure P o.op then 0 else bif opRead P o.op then 1 else 2)
def forceRows : List (Nat × List Nat × Nat) → (List (Nat × List Nat × Nat) → α) → α
  | [], k => k []
  | r :: rs, k => CheckFast.force r.1 fun d => forceL r.2.1 fun l => CheckFast.force r.2.2 fun c => forceRows rs fun rs' => k ((d, l, c) :: rs')
theorem forceRows_eq : ∀ (l : List (Nat × List Nat × Nat)) (k : List (Nat × List Nat × Nat) → α), forceRows l k = k l
  | [], _ => rfl
  | r :: rs, k => by rw [forceRows, CheckFast.force_eq, forceL_eq, CheckFast.force_eq, forceRows_eq rs]

/-- What a region must be like: what an operation looks at has been laid by one for which it waits, or was there before, or is laid (no reader looks at it then) by one that waits for it; writers wait for each other; readers have a slot; no slot is laid twice. -/
def rowsOk (rs : List (Nat × List Nat × Nat)) (b : List Nat) : Bool :=
  rs.zipIdx.all fun p =>
    (!(Nat.beq p.1.2.2 1) || !(Nat.beq p.1.1 0)) &&
    rs.zipIdx.all fun q =>
      (Nat.beq q.1.1 0 || !(p.1.2.1.any fun t => Nat.beq (t + 1) q.1.1) || (b.getD p.2 0).testBit q.2 || (!(Nat.beq p.1.2.2 1) && Nat.blt p.2 q.2 && (b.getD q.2 0).testBit p.2)) &&
      (!Nat.blt q.2 p.2 || ((!(Nat.beq p.1.2.2 2) || !(Nat.beq q.1.2.2 2) || (b.getD p.2 0).testBit q.2) && (Nat.beq p.1.1 0 || !(Nat.beq p.1.1 q.1.1))))

/-- And each operation waits for earlier ones alone. -/
def drawOk (P : Program) (ops : Array Oper) (rs : List (Nat × List Nat × Nat)) (b : List Nat) : Bool :=
  P.follows .mixedOrders && (ops.toList.zipIdx.all fun p => p.1.after.toList.all fun e => !Region.binds .any e || Nat.blt e.on p.2) && rowsOk rs b

/-! ### regions in which new rows are made without an order -/
/-- An operation that makes a new row out of nothing. -/
def opAlloc : Op → Bool
  | .alloc _ | .makeSlice _ _ _ | .buildSlice _ _ _ => true
  | .makeMap _ Option.none => true
  | _ => false
/-- These rows taken away; these rows as they were. -/
def hideL (L : List Nat) (s : Store) : Store := ⟨s.next, fun l => if l ∈ L then .none else s.get l⟩
def backL (L : List Nat) (s s' : Store) : Store := ⟨s'.next, fun l => if l ∈ L then s.get l else s'.get l⟩
/-- Ids kept for rows that are to come. -/
def reserve (n : Nat) (s : Store) : Store := ⟨s.next + n, fun l => if l < s.next then s.get l else .none⟩
/-- A new row that lies at an id kept for it. -/
def atRow (r : Nat) (s : Store) (F : Store → Option (AV × Store)) : Option (AV × Store) := (F ⟨r, s.get⟩).map fun q => (q.1, ⟨s.next, q.2.get⟩)
/-- Without these rows. -/
def underL (L : List Nat) (s : Store) (F : Store → Option (AV × Store)) : Option (AV × Store) :=
  match L with
  | [] => F s
  | x :: r => (F (hideL (x :: r) s)).map fun q => (q.1, backL (x :: r) s q.2)
def allocAt (ops : Array Oper) (j : Nat) : Bool := match ops[j]? with | some o => opAlloc o.op | Option.none => false
/-- The rows made ahead of 'q' for which 'p' doesn't wait. -/
def hidOf (ops : Array Oper) (b : Array Nat) (n0 p q : Nat) : List Nat := (List.range q).filterMap fun j => if (allocAt ops j && !(b.getD p 0).testBit j) = true then some (n0 + j) else none
def stepQ (P : Program) (call : CallA) (ops : Array Oper) (b : Array Nat) (n0 : Nat) (fr : Fr) (j : Nat) (o : Oper) (s : Store) : Option (AV × Store) :=
  if opAlloc o.op = true then atRow (n0 + j) s (stepA P call ops fr o) else underL (hidOf ops b n0 j j) s (stepA P call ops fr o)
def opW2 (P : Program) (o : Op) : Bool := opWrite P o && !opAlloc o
def chkQ (P : Program) (call : CallA) (ops : Array Oper) (b : Array Nat) (n0 j : Nat) (o : Oper) (q : AV × Store) (fr : Fr) (H : List (Nat × Oper × Store)) : List (Option (AV × Store) × AV) :=
  if opRead P o.op = true then H.filterMap fun h => if opW2 P h.2.1.op = true ∧ (b.getD j 0).testBit h.1 = false then some (stepA P call ops fr o (hideL (hidOf ops b n0 j h.1) h.2.2), q.1) else none
  else if opW2 P o.op = true then H.filterMap fun h => if opRead P h.2.1.op = true ∧ (b.getD j 0).testBit h.1 = false then (h.2.1.dst).map fun d => (stepA P call ops fr h.2.1 (hideL (hidOf ops b n0 h.1 (j + 1)) q.2), fr d) else none
  else []
noncomputable def execDrawQ (P : Program) (call : CallA) (nt : Nat) (ops : Array Oper) (b : Array Nat) (n0 : Nat) (κ : Fr → Store → Option α) : List (Nat × Oper) → List (Nat × Oper × Store) → Fr → Store → Option α
  | [], _, fr, s => κ fr s
  | (j, o) :: r, H, fr, s => (stepQ P call ops b n0 fr j o s).bind fun q => sames (chkQ P call ops b n0 j o q fr H) (aPut nt o.dst q.1 fr fun fr' => execDrawQ P call nt ops b n0 κ r ((j, o, s) :: H) fr' q.2)
/-- As 'rowOf', but new rows are a kind of their own. -/
def rowOf2 (P : Program) (ops : Array Oper) (o : Oper) : Nat × List Nat × Nat :=
  ((match o.dst with | Option.none => 0 | some d => d + 1), looks ops o, bif opAlloc o.op then 3 else bif opPure P o.op then 0 else bif opRead P o.op then 1 else 2)

/-- Rows of some ids as told, the others as they are. -/
noncomputable def addT (H : Nat → Prop) (T : Nat → AObj) (s : Store) : Store := open Classical in ⟨s.next, fun l => if H l then T l else s.get l⟩
/-- These rows are not there yet. -/
def Hid (H : Nat → Prop) (s : Store) : Prop := ∀ l, H l → s.get l = .none ∧ l < s.next
/-- Rows that are not there yet play no part in calls. -/
def CallFr (H : Nat → Prop) (T : Nat → AObj) (call : CallA) : Prop := ∀ f args s v s', Hid H s → call f args s = some (v, s') → Hid H s' ∧ call f args (addT H T s) = some (v, addT H T s')

/-- What follows: behind the end, behind an exit, behind a return. -/
structure Ks (α : Type) where
  n : Fr → Store → Option α
  x : Nat → Fr → Store → Option α
  r : Fr → Store → Option α

def loopN (b : (Fr → Store → Option α) → Fr → Store → Option α) : Nat → Fr → Store → Option α
  | 0 => fun _ _ => none
  | n + 1 => b (loopN b n)

noncomputable def exec (P : Program) (call : CallA) (fuel nt : Nat) : Code → Ks α → Fr → Store → Option α
  | .skip, K => K.n
  | .region _ ops false, K => execOps P call nt ops ops.toList K.n
  | .region _ ops true, K => fun fr s => forceL (CheckFast.beforeF ops).toList fun b => forceRows (ops.toList.map (rowOf P ops)) fun rs => Bool.rec (motive := fun _ => Option α) (forceRows (ops.toList.map (rowOf2 P ops)) fun rs2 => Bool.rec (motive := fun _ => Option α) none (execDrawQ P call nt ops b.toArray s.next K.n (ops.toList.zipIdx.map fun p => (p.2, p.1)) [] fr (reserve ops.size s)) (drawOk P ops rs2 b)) (execDraw P call nt ops b.toArray K.n (ops.toList.zipIdx.map fun p => (p.2, p.1)) [] fr s) (drawOk P ops rs b)
  | .seq x y, K => exec P call fuel nt x ⟨exec P call fuel nt y K, K.x, K.r⟩
  | .cond c x y, K => fun fr s => aIf (evalA fr c) (exec P call fuel nt x K fr s) (exec P call fuel nt y K fr s)
  | .block id b, K => exec P call fuel nt b ⟨K.n, fun j => if j = id then K.n else K.x j, K.r⟩
  | .loop b, K => loopN (fun rec => exec P call fuel nt b ⟨rec, K.x, K.r⟩) fuel
  | .exit id, K => K.x id
  | .ret, K => K.r
  | _, _ => fun _ _ => none

/-- The frame in which a function begins. -/
def frOf (args : List AV) : Fr := fun t => args.getD t (.tuple [])

/-- What a function returns. -/
def aResult (P : Program) (fr : Fr) (s : Store) (r : ResultVar) (κ : AV → Option α) : Option α :=
  match r with
  | .tmp t => κ (fr t)
  | .cell a t => match aggOf P t, szOf P t with
    | some true, some n => aLoadN n (fr a) s κ
    | some false, _ => aLoad1 (fr a) s κ
    | _, _ => none

def aResults (P : Program) (fr : Fr) (s : Store) : List ResultVar → (List AV → Option α) → Option α
  | [], κ => κ []
  | r :: rs, κ => aResult P fr s r fun v => aResults P fr s rs fun vs => κ (v :: vs)

def tupled : List AV → AV
  | [v] => v
  | vs => .tuple vs

def retK (P : Program) (rs : List ResultVar) : Fr → Store → Option (AV × Store) := fun fr s => aResults P fr s rs fun vs => some (tupled vs, s)

def topK (P : Program) (rs : List ResultVar) : Ks (AV × Store) := ⟨retK P rs, fun _ _ _ => none, retK P rs⟩

noncomputable def run (P : Program) : Nat → CallA
  | 0, _, _, _ => none
  | k + 1, f, args, s => match P.funcs[f]? with
    | Option.none => none
    | some fn => match fn.body with
      | Option.none => none
      | some c => if fn.name == "runtime.NumGoroutine" then none else
        if args.length ≤ fn.ntmps then exec P (run P k) k fn.ntmps c (topK P fn.results.toList) (frOf args) s else none
end
end Go.Proofs.Ytkfdgegmahbkiaa.Sim
