/- The abstract machine: values, store, operations, code, calls. Definitions alone. No condition. -/
import Derived.Calls
import Derived.Below
import Derived.Deep.LoopGhost
namespace Go.Proofs.YtjbgdpfkmcibbaaGreatDoor.Sim

/-- Values: addresses are ids of the abstract store; a header or a pointer bears the size that its row had when it was made ('ep'): behind a growth it is stale. -/
inductive AV where
  | bool (b : Bool)
  | int (k : IntKind) (n : Int)
  | str (s : ByteArray)
  | ptr (l off ep : Nat)
  | nilptr
  | sl (l off n es ep : Nat)
  | nilsl
  | map (l : Nat)
  | nilmap
  | func (f : Nat) (first cap : List AV)
  | nilfunc
  | iface (t : Nat) (v : AV)
  | meth (n : String) (v : AV)
  | nilif
  | agg (vs : List AV)
  | tuple (vs : List AV)
  | junk

/-- Rows; maps: entries, when each came, the clock; what goes through a map, or a string. -/
inductive AObj where
  | none
  | cells (xs : List AV) (ro : Bool)
  | map (es : List (AV × AV)) (st : List Nat × Nat)
  | miter (m : AV) (since : Nat) (seen : List Nat) (last : Nat)
  | siter (b : ByteArray) (pos : Nat)

/-- How much of a row there is: nothing of one that is not there yet. -/
def AObj.size : AObj → Nat
  | .none => 0
  | .cells xs _ => xs.length + 1
  | .map _ _ => 1
  | .miter _ _ _ _ => 1
  | .siter _ _ => 1
def AObj.wr : AObj → Bool
  | .cells _ ro => !ro
  | .none => false
  | _ => true

/-- A row that lies somewhere: an empty one that nobody writes lies nowhere. -/
def AObj.live : AObj → Bool
  | .none => false
  | .cells xs ro => !(xs.isEmpty && ro)
  | _ => true

structure Store where
  next : Nat
  get : Nat → AObj

def Store.set (s : Store) (l : Nat) (o : AObj) : Store := ⟨s.next, fun j => if j = l then o else s.get j⟩
def Store.push (s : Store) (o : AObj) : Store := ⟨s.next + 1, fun j => if j = s.next then o else s.get j⟩

def AV.one : AV → Bool
  | .agg _ | .tuple _ | .junk => false
  | _ => true

/-- A constant of the code. -/
def ofVal : Value → AV
  | .bool b => .bool b
  | .int k n => .int k n
  | .string s => .str s
  | .pointer Option.none => .nilptr
  | .slice Option.none 0 0 => .nilsl
  | .map Option.none => .nilmap
  | .nilFunc => .nilfunc
  | .nilIface => .nilif
  | _ => .junk

section
variable {α : Type}

def aPick (c a b : AV) (κ : AV → Option α) : Option α :=
  match c with
  | .bool t => κ (bif t then a else b)
  | _ => none

def aIf (c : AV) (x y : Option α) : Option α :=
  match c with
  | .bool t => if t = true then x else y
  | _ => none

/-- A guard: performed, skipped. -/
def aGuard (v : AV) (want : Bool) (x y : Option α) : Option α :=
  match v with
  | .bool b => if b = want then x else y
  | .tuple [] => y
  | _ => none

def aCells (x : AV) (κ : List AV → Option α) : Option α :=
  match x with
  | .agg vs => κ vs
  | .tuple _ | .junk => none
  | v => κ [v]

def aNew (cs : List AV) (s : Store) (κ : AV → Store → Option α) : Option α := κ (.ptr s.next 0 cs.length) (s.push (.cells cs false))

/-- The cells of an id, if the address is not stale. -/
def aRow (l ep : Nat) (s : Store) (κ : List AV → Option α) : Option α :=
  match s.get l with
  | .cells xs _ => if xs.length = ep then κ xs else none
  | _ => none

def aLoad1 (p : AV) (s : Store) (κ : AV → Option α) : Option α :=
  match p with
  | .ptr l off ep => aRow l ep s fun xs => match xs[off]? with
    | some v => κ v
    | Option.none => none
  | _ => none

def aLoadN (n : Nat) (p : AV) (s : Store) (κ : AV → Option α) : Option α :=
  match p with
  | .ptr l off ep => aRow l ep s fun xs => if off + n ≤ xs.length then κ (.agg ((xs.drop off).take n)) else none
  | _ => none

def putAll (xs : List AV) (off : Nat) : List AV → List AV
  | [] => xs
  | c :: cs => putAll (xs.set off c) (off + 1) cs

/-- A row that may be written. -/
def aOwn (l ep : Nat) (s : Store) (κ : List AV → Option α) : Option α :=
  match s.get l with
  | .cells xs false => if xs.length = ep then κ xs else none
  | _ => none

def aStore (n : Nat) (p x : AV) (s : Store) (κ : Store → Option α) : Option α :=
  match p with
  | .ptr l off ep => aCells x fun cs => aOwn l ep s fun xs =>
    if cs.length = n ∧ off + n ≤ xs.length then κ (s.set l (.cells (putAll xs off cs) false)) else none
  | _ => none

/-- Methods' values that are looked at (that is all that is done with them): names and types. -/
def methL : List (String × Nat) := []
def methT (n : String) (t : Nat) : Bool := methL.any fun p => p.1 == n && Nat.beq p.2 t

def aNilCheck (x : AV) (κ : AV → Option α) : Option α :=
  match x with
  | .ptr l off ep => κ (.ptr l off ep)
  | .func f a b => κ (.func f a b)
  | .iface t v => κ (.iface t v)
  | .meth n (.iface t v) => if methT n t = true then κ (.meth n (.iface t v)) else none
  | .sl l off n es ep => κ (.sl l off n es ep)
  | .nilsl => κ .nilsl
  | .map l => κ (.map l)
  | _ => none

def aFieldAddr (off : Nat) (x : AV) (κ : AV → Option α) : Option α :=
  match x with
  | .ptr l o ep => κ (.ptr l (o + off) ep)
  | _ => none

def aField1 (off : Nat) (x : AV) (κ : AV → Option α) : Option α :=
  match x with
  | .agg vs => match vs[off]? with
    | some v => κ v
    | Option.none => none
  | _ => none

def aFieldN (off n : Nat) (x : AV) (κ : AV → Option α) : Option α :=
  match x with
  | .agg vs => κ (.agg ((vs.drop off).take n))
  | _ => none

/-- An element's address: of a slice of elements of 'es' cells. -/
def aIndexSl (es : Nat) (x i : AV) (κ : AV → Option α) : Option α :=
  match x, i with
  | .sl l off n es' ep, .int _ j => if es' = es then (if 0 ≤ j then (if j < n then κ (.ptr l (off + j.toNat * es) ep) else none) else none) else none
  | _, _ => none

/-- An element's address: of an array of 'len' elements behind a pointer. -/
def aIndexArr (len es : Nat) (x i : AV) (κ : AV → Option α) : Option α :=
  match x, i with
  | .ptr l off ep, .int _ j => if 0 ≤ j then (if j < len then κ (.ptr l (off + j.toNat * es) ep) else none) else none
  | _, _ => none

def aIndexStr (x i : AV) (κ : AV → Option α) : Option α :=
  match x, i with
  | .str s, .int _ j => if 0 ≤ j then (if h : j.toNat < s.size then κ (.int .u8 (s[j.toNat]'h).toNat) else none) else none
  | _, _ => none

def intBin (op : BinOp) (k : IntKind) (a b : Int) : Option AV :=
  match op with
  | .add => some (.int k (k.wrap (a + b)))
  | .sub => some (.int k (k.wrap (a - b)))
  | .mul => some (.int k (k.wrap (a * b)))
  | .quo => if b = 0 then none else some (.int k (k.wrap (a.tdiv b)))
  | .rem => if b = 0 then none else some (.int k (a.tmod b))
  | .and => some (.int k (k.wrap (BitVec.ofInt k.bits a &&& BitVec.ofInt k.bits b).toNat))
  | .or => some (.int k (k.wrap (BitVec.ofInt k.bits a ||| BitVec.ofInt k.bits b).toNat))
  | .xor => some (.int k (k.wrap (BitVec.ofInt k.bits a ^^^ BitVec.ofInt k.bits b).toNat))
  | .andNot => some (.int k (k.wrap (BitVec.ofInt k.bits a &&& ~~~BitVec.ofInt k.bits b).toNat))
  | .eql => some (.bool (a == b))
  | .neq => some (.bool (a != b))
  | .lss => some (.bool (decide (a < b)))
  | .leq => some (.bool (decide (a ≤ b)))
  | .gtr => some (.bool (decide (a > b)))
  | .geq => some (.bool (decide (a ≥ b)))
  | _ => none

def aShift (op : BinOp) (x y : AV) (κ : AV → Option α) : Option α :=
  match x, y with
  | .int k a, .int _ b => if b < 0 then none else
    match op with
    | .shl => κ (.int k (k.wrap (a * 2 ^ min b.toNat k.bits)))
    | .shr => κ (.int k (a.fdiv (2 ^ min b.toNat k.bits)))
    | _ => none
  | _, _ => none

/-- What '==' compares: what a type's cells are; none: not compared here. -/
inductive EK where
  | bool | int | str | ptr | sl | map | func | iface
  | struct (fs : List EK)

def strBin (op : BinOp) (x y : ByteArray) : Option AV :=
  match op with
  | .add => if ((x.size + y.size : Nat) : Int) ≤ 9223372036854775807 then some (.str (x ++ y)) else none
  | .eql => some (.bool (x.toList == y.toList))
  | .neq => some (.bool (!(x.toList == y.toList)))
  | .lss => some (.bool (Op.bytesLess x.toList y.toList))
  | .leq => some (.bool (Op.bytesLess x.toList y.toList || x.toList == y.toList))
  | .gtr => some (.bool (!(Op.bytesLess x.toList y.toList || x.toList == y.toList)))
  | .geq => some (.bool (!(Op.bytesLess x.toList y.toList)))
  | _ => none

def aBin (op : BinOp) (x y : AV) (κ : AV → Option α) : Option α :=
  match x, y with
  | .int k a, .int k' b => if k = k' then (match intBin op k a b with | some v => κ v | Option.none => none) else none
  | .str a, .str b => match strBin op a b with
    | some v => κ v
    | Option.none => none
  | _, _ => none

/-- Cells that are held against each other, one by one. -/
def eqCells : List EK → List AV → List AV → Option Bool
  | [], [], [] => some true
  | .int :: ks, .int k a :: xs, .int k' b :: ys => if k = k' then (eqCells ks xs ys).map (fun r => (a == b) && r) else none
  | .bool :: ks, .bool a :: xs, .bool b :: ys => (eqCells ks xs ys).map (fun r => (a == b) && r)
  | .str :: ks, .str a :: xs, .str b :: ys => (eqCells ks xs ys).map (fun r => (a == b) && r)
  | _, _, _ => none

/-- '==' where the operands are neither numbers nor strings. -/
def aEq (e : EK) (x y : AV) (κ : Bool → Option α) : Option α :=
  match e, x, y with
  | .bool, .bool a, .bool b => κ (a == b)
  | .ptr, .nilptr, .nilptr => κ true
  | .ptr, .nilptr, .ptr _ _ _ => κ false
  | .ptr, .ptr _ _ _, .nilptr => κ false
  | .sl, .nilsl, .nilsl => κ true
  | .sl, .nilsl, .sl _ _ _ _ _ => κ false
  | .sl, .sl _ _ _ _ _, .nilsl => κ false
  | .map, .nilmap, .nilmap => κ true
  | .map, .nilmap, .map _ => κ false
  | .map, .map _, .nilmap => κ false
  | .func, .nilfunc, .nilfunc => κ true
  | .func, .nilfunc, .func _ _ _ => κ false
  | .func, .func _ _ _, .nilfunc => κ false
  | .iface, .nilif, .iface _ _ => κ false
  | .iface, .iface _ _, .nilif => κ false
  | .struct fs, .agg xs, .agg ys => match eqCells fs xs ys with
    | some b => κ b
    | Option.none => none
  | _, _, _ => none

def aUn (op : UnOp) (x : AV) (κ : AV → Option α) : Option α :=
  match op, x with
  | .neg, .int k n => κ (.int k (k.wrap (0 - n)))
  | .xor, .int k n => κ (.int k (k.wrap (BitVec.ofInt k.bits (if k.signed then -1 else k.max) ^^^ BitVec.ofInt k.bits n).toNat))
  | .not, .bool b => κ (.bool (!b))
  | _, _ => none

def aConvInt (k : IntKind) (x : AV) (κ : AV → Option α) : Option α :=
  match x with
  | .int _ n => κ (.int k (k.wrap n))
  | _ => none

def aStr (x : AV) (κ : ByteArray → Option α) : Option α :=
  match x with
  | .str s => κ s
  | _ => none

/-- Bytes of a row, as numbers. -/
def bytesAt : List AV → Option (List UInt8)
  | [] => some []
  | .int .u8 n :: r => (bytesAt r).map (UInt8.ofNat n.toNat :: ·)
  | _ => none

/-- A string out of a slice of bytes. -/
def aStrOf (x : AV) (s : Store) (κ : AV → Option α) : Option α :=
  match x with
  | .nilsl => κ (.str ByteArray.empty)
  | .sl l off n _ ep => aRow l ep s fun xs =>
    if off + n ≤ xs.length then (match bytesAt ((xs.drop off).take n) with
      | some b => κ (.str ⟨b.toArray⟩)
      | Option.none => none) else none
  | _ => none

/-- A new slice of a string's bytes. -/
def aBytesOf (x : AV) (s : Store) (κ : AV → Store → Option α) : Option α :=
  aStr x fun b => κ (.sl s.next 0 b.size 1 b.size) (s.push (.cells (b.data.toList.map fun c => .int .u8 c.toNat) true))

/-- A new slice of a string's code points. -/
def aRunesOf (x : AV) (s : Store) (κ : AV → Store → Option α) : Option α :=
  aStr x fun b => if (Conv.runesFrom b b.size 0 #[]).size ≤ 70368744177664 then κ (.sl s.next 0 (Conv.runesFrom b b.size 0 #[]).size 1 (Conv.runesFrom b b.size 0 #[]).size) (s.push (.cells ((Conv.runesFrom b b.size 0 #[]).toList.map ofVal) false)) else none

def aMakeSlice (zs : List AV) (es bytes : Nat) (n c : AV) (s : Store) (κ : AV → Store → Option α) : Option α :=
  match n, c with
  | .int .i64 a, .int .i64 b => if 0 ≤ a ∧ a ≤ b ∧ b ≤ 9223372036854775807 ∧ b * bytes ≤ 281474976710656 then
      κ (.sl s.next 0 a.toNat es (a.toNat * es)) (s.push (.cells (List.replicate a.toNat zs).flatten false)) else none
  | _, _ => none

/-- A number on its way into a bound. -/
def aNum (x : AV) (κ : Int → Option α) : Option α :=
  match x with
  | .int _ n => κ n
  | _ => none

def aSliceSl (es : Nat) (x : AV) (lo hi : Option AV) (κ : AV → Option α) : Option α :=
  match x with
  | .nilsl => (match lo with | some l => aNum l | Option.none => fun k => k 0) fun a => (match hi with | some h => aNum h | Option.none => fun k => k 0) fun b => if a = 0 ∧ b = 0 then κ .nilsl else none
  | .sl l off n es' ep => (match lo with | some l => aNum l | Option.none => fun k => k 0) fun a => (match hi with | some h => aNum h | Option.none => fun k => k (n : Int)) fun b =>
    if es' = es ∧ 0 ≤ a ∧ a ≤ b ∧ b ≤ n then κ (.sl l (off + a.toNat * es) (b.toNat - a.toNat) es ep)
    else if es' = es ∧ 0 ≤ a ∧ a ≤ b ∧ 0 < es ∧ off + b.toNat * es ≤ ep then κ (.sl l (off + a.toNat * es) (b.toNat - a.toNat) es ep) else none
  | _ => none

def aSliceStr (x : AV) (lo hi : Option AV) (κ : AV → Option α) : Option α :=
  match x with
  | .str s => (match lo with | some l => aNum l | Option.none => fun k => k 0) fun a => (match hi with | some h => aNum h | Option.none => fun k => k (s.size : Int)) fun b =>
    if 0 ≤ a ∧ a ≤ b ∧ b ≤ s.size then κ (.str (s.extract a.toNat b.toNat)) else none
  | _ => none

/-- A whole array behind a pointer, as a slice, or a part of it. -/
def aSliceArr (len es : Nat) (x : AV) (lo hi : Option AV) (κ : AV → Option α) : Option α :=
  match x with
  | .ptr l off ep => (match lo with | some l => aNum l | Option.none => fun k => k 0) fun a => (match hi with | some h => aNum h | Option.none => fun k => k (len : Int)) fun b =>
    if 0 ≤ a ∧ a ≤ b ∧ b ≤ len ∧ off + len * es = ep ∧ 0 < ep then κ (.sl l (off + a.toNat * es) (b.toNat - a.toNat) es ep) else none
  | _ => none

/-- A cut with a capacity: nobody knows how far the header goes then; it may not be used. -/
def aCutCap (x : AV) (lo hi : Option AV) (mx : AV) (κ : AV → Option α) : Option α :=
  match x with
  | .sl _ _ n _ _ => (match lo with | some l => aNum l | Option.none => fun k => k 0) fun a => (match hi with | some h => aNum h | Option.none => fun k => k (n : Int)) fun b => aNum mx fun c =>
    if 0 ≤ a ∧ a ≤ b ∧ b ≤ c ∧ c ≤ n ∧ hi.isSome = true then κ .junk else none
  | _ => none

/-- An element of an array's value. -/
def aIndexAgg (agg : Bool) (len c : Nat) (x i : AV) (κ : AV → Option α) : Option α :=
  match i with
  | .int _ j => if 0 ≤ j then (if j < len then (if agg = true then aFieldN (j.toNat * c) c x κ else aField1 (j.toNat * c) x κ) else none) else none
  | _ => none

/-- A literal's row of bytes that is seen as a string from now on: nobody writes it. -/
def aConvSl (x : AV) (s : Store) (κ : AV → Store → Option α) : Option α :=
  match x with
  | .sl l off n es ep => if 0 < n then aOwn l ep s fun xs => κ (.sl l off n es ep) (s.set l (.cells xs true)) else none
  | _ => none

/-- clear of a slice. -/
def aClear (zs : List AV) (es : Nat) (x : AV) (s : Store) (κ : Store → Option α) : Option α :=
  match x with
  | .nilsl => κ s
  | .sl l off n es' ep => if n = 0 then κ s else if es' = es then aOwn l ep s fun xs =>
      if off + n * es ≤ xs.length then κ (s.set l (.cells (putAll xs off (List.replicate n zs).flatten) false)) else none
    else none
  | _ => none

def aExtract (i : Nat) (x : AV) (κ : AV → Option α) : Option α :=
  match x with
  | .tuple vs => match vs[i]? with
    | some v => κ v
    | Option.none => none
  | _ => none

/-- The cells that an append adds. -/
def aCellsOf (es : Nat) (x : AV) (s : Store) (κ : Nat → List AV → Option α) : Option α :=
  match x with
  | .nilsl => κ 0 []
  | .str b => if es = 1 then κ b.size (b.data.toList.map fun c => .int .u8 c.toNat) else none
  | .sl l off n es' ep => if es' = es then aRow l ep s fun xs => if off + n * es ≤ xs.length then κ n ((xs.drop off).take (n * es)) else none else none
  | _ => none

/-- append: nothing to add: the same header; a nil slice: a new row; a header that ends with its row: the row grows; a header with that much of its row behind it: that is written. -/
def aAppend (es bytes : Nat) (x y : AV) (s : Store) (κ : AV → Store → Option α) : Option α :=
  aCellsOf es y s fun m new =>
    match x with
    | .nilsl => if m = 0 then κ .nilsl s else if m * bytes ≤ 140737488355328 ∧ 0 < bytes then κ (.sl s.next 0 m es (m * es)) (s.push (.cells new false)) else none
    | .sl l off n es' ep => if es' = es then aOwn l ep s fun xs =>
        if m = 0 then κ (.sl l off n es ep) s
        else if off + n * es = xs.length ∧ (n + m) * bytes ≤ 140737488355328 ∧ 0 < es ∧ 0 < bytes then κ (.sl l off (n + m) es (ep + m * es)) (s.set l (.cells (xs ++ new) false))
        else if off + (n + m) * es ≤ xs.length ∧ 0 < es then κ (.sl l off (n + m) es ep) (s.set l (.cells (putAll xs (off + n * es) new) false)) else none
      else none
    | _ => none

def aLen (x : AV) (κ : AV → Option α) : Option α :=
  match x with
  | .nilsl => κ (.int .i64 0)
  | .sl _ _ n _ _ => κ (.int .i64 n)
  | _ => none

/-- append of what a make would make, behind nil alone. -/
def aAppendMake (zs : List AV) (es bytes : Nat) (x y : AV) (s : Store) (κ : AV → Store → Option α) : Option α :=
  match x, y with
  | .nilsl, .int _ n => if n = 0 then κ .nilsl s else if 0 < n ∧ n ≤ 4611686018427387904 ∧ n * bytes ≤ 140737488355328 ∧ 0 < bytes ∧ 0 < es then
      κ (.sl s.next 0 n.toNat es (n.toNat * es)) (s.push (.cells (List.replicate n.toNat zs).flatten false)) else none
  | _, _ => none

/-- Of nil alone: else it hangs on what was made. -/
def aCap (x : AV) (κ : AV → Option α) : Option α :=
  match x with
  | .nilsl => κ (.int .i64 0)
  | _ => none

def aLenStr (x : AV) (κ : AV → Option α) : Option α :=
  match x with
  | .str s => κ (.int .i64 s.size)
  | _ => none

def aLenMap (x : AV) (s : Store) (κ : AV → Option α) : Option α :=
  match x with
  | .nilmap => κ (.int .i64 0)
  | .map l => match s.get l with
    | .map es _ => κ (.int .i64 es.length)
    | _ => none
  | _ => none

def aMax2 (x y : AV) (κ : AV → Option α) : Option α :=
  match x, y with
  | .int k a, .int _ b => κ (.int k (if b > a then b else a))
  | _, _ => none
def aMin2 (x y : AV) (κ : AV → Option α) : Option α :=
  match x, y with
  | .int k a, .int _ b => κ (.int k (if b < a then b else a))
  | _, _ => none
def aMaxL : AV → List AV → (AV → Option α) → Option α
  | x, [], κ => κ x
  | x, y :: r, κ => aMax2 x y fun z => aMaxL z r κ
def aMinL : AV → List AV → (AV → Option α) → Option α
  | x, [], κ => κ x
  | x, y :: r, κ => aMin2 x y fun z => aMinL z r κ

/-- copy, where both rows differ, or nothing is copied into itself otherwise than onto itself: the cells are read first. -/
def aCopy (es : Nat) (x y : AV) (s : Store) (κ : AV → Store → Option α) : Option α :=
  aCellsOf es y s fun m new =>
    match x with
    | .nilsl => κ (.int .i64 0) s
    | .sl l off n es' ep => if es' = es then aOwn l ep s fun xs =>
        if off + n * es ≤ xs.length then κ (.int .i64 (min m n : Nat)) (s.set l (.cells (putAll xs off (new.take (min m n * es))) false)) else none
      else none
    | _ => none

/-- Keys of maps: numbers, strings, bools, structs of these. -/
def cellEq : AV → AV → Option Bool
  | .int k a, .int k' b => if k = k' then some (a == b) else none
  | .str a, .str b => some (a == b)
  | .bool a, .bool b => some (a == b)
  | _, _ => none
def keyEq : AV → AV → EK → Option Bool
  | .agg xs, .agg ys, .struct ks => eqCells ks xs ys
  | a, b, _ => cellEq a b

def findAt (kd : EK) (key : AV) : List (AV × AV) → Nat → Option (Option (Nat × AV))
  | [], _ => some none
  | (k, v) :: r, i => match keyEq key k kd with
    | some true => some (some (i, v))
    | some false => findAt kd key r (i + 1)
    | Option.none => Option.none

/-- Does a key fit the kind of a map's keys? -/
def keyFits : EK → AV → Bool
  | .int, .int _ _ => true
  | .str, .str _ => true
  | .bool, .bool _ => true
  | .struct ks, .agg xs => (eqCells ks xs xs).isSome
  | _, _ => false

/-- A map's entry of a key. -/
def aFind (kd : EK) (m key : AV) (s : Store) (κ : Option (Nat × AV) → Option α) : Option α :=
  if keyFits kd key = true then
    (match m with
    | .nilmap => κ none
    | .map l => match s.get l with
      | .map es _ => match findAt kd key es 0 with
        | some r => κ r
        | Option.none => none
      | _ => none
    | _ => none) else none

def aLookup (kd : EK) (zero : AV) (ok : Bool) (m key : AV) (s : Store) (κ : AV → Option α) : Option α :=
  aFind kd m key s fun r => match r with
    | some (_, v) => κ (bif ok then .tuple [v, .bool true] else v)
    | Option.none => κ (bif ok then .tuple [zero, .bool false] else zero)

/-- A map's entries, to be changed. -/
def aMapAt (kd : EK) (m key : AV) (s : Store) (κ : Nat → List (AV × AV) → List Nat × Nat → Option (Nat × AV) → Option α) : Option α :=
  if keyFits kd key = true then
    (match m with
    | .map l => match s.get l with
      | .map es st => match findAt kd key es 0 with
        | some r => κ l es st r
        | Option.none => none
      | _ => none
    | _ => none) else none

def aMapUpdate (kd : EK) (m key x : AV) (s : Store) (κ : Store → Option α) : Option α :=
  aMapAt kd m key s fun l es st r => match r with
    | some (i, _) => κ (s.set l (.map (es.set i (key, x)) st))
    | Option.none => κ (s.set l (.map (es ++ [(key, x)]) (st.1 ++ [st.2], st.2 + 1)))

/-- The entry of a key, made if there is none: what it holds, and when it came. -/
def aMapEntry (kd : EK) (zero m key : AV) (s : Store) (κ : AV → Store → Option α) : Option α :=
  aMapAt kd m key s fun l es st r => match r with
    | some (i, v) => match st.1[i]? with
      | some b => κ (.tuple [v, .int .i64 b]) (s.set l (.map (es.set i (key, v)) st))
      | Option.none => none
    | Option.none => κ (.tuple [zero, .int .i64 st.2]) (s.set l (.map (es ++ [(key, zero)]) (st.1 ++ [st.2], st.2 + 1)))

def aEntryStore (m stamp x : AV) (s : Store) (κ : Store → Option α) : Option α :=
  match m, stamp with
  | .map l, .int _ b => match s.get l with
    | .map es st => match st.1.findIdx? (fun c : Nat => (c : Int) == b) with
      | some i => match es[i]? with
        | some (k, _) => κ (s.set l (.map (es.set i (k, x)) st))
        | Option.none => none
      | Option.none => none
    | _ => none
  | _, _ => none

def aDelete (kd : EK) (m key : AV) (s : Store) (κ : Store → Option α) : Option α :=
  if keyFits kd key = true then
    (match m with
    | .nilmap => κ s
    | .map l => match s.get l with
      | .map es st => match findAt kd key es 0 with
        | some (some (i, _)) => κ (s.set l (.map (es.eraseIdx i) (st.1.eraseIdx i, st.2)))
        | some Option.none => κ s
        | Option.none => none
      | _ => none
    | _ => none) else none

/-- What goes through a map, or a string. -/
def aRangeMap (m : AV) (s : Store) (κ : AV → Store → Option α) : Option α :=
  match m with
  | .nilmap => κ (.ptr s.next 0 0) (s.push (.miter .nilmap 0 [] 0))
  | .map l => match s.get l with
    | .map _ st => κ (.ptr s.next 0 0) (s.push (.miter (.map l) st.2 [] st.2))
    | _ => none
  | _ => none
def aRangeStr (x : AV) (s : Store) (κ : AV → Store → Option α) : Option α :=
  aStr x fun b => κ (.ptr s.next 0 0) (s.push (.siter b 0))

/-- The next one: of a map, where there is no choice. -/
def aNextMap (p : AV) (s : Store) (κ : AV → Store → Option α) : Option α :=
  match p with
  | .ptr l 0 0 => match s.get l with
    | .miter .nilmap _ _ _ => κ (.tuple [.bool false]) s
    | .miter (.map m) since seen last => match s.get m with
      | .map es st => if seen ≠ [] ∧ es ≠ [] ∧ st.1.all (fun b => decide (last ≤ b)) = true then none else
        match (es.zip st.1).filter (fun e => !seen.contains e.2) with
        | [] => κ (.tuple [.bool false]) s
        | [((k, v), b)] => if b < since then κ (.tuple [.bool true, k, v]) (s.set l (.miter (.map m) since (seen ++ [b]) st.2)) else none
        | _ => none
      | _ => none
    | _ => none
  | _ => none
/-- The entry that the last step told, as it is now. -/
def aEntry (p : AV) (s : Store) (κ : AV → Option α) : Option α :=
  match p with
  | .ptr l 0 0 => match s.get l with
    | .miter (.map m) _ seen last => match s.get m, seen.getLast? with
      | .map es st, some b => if st.2 = last then (match (es.zip st.1).find? (fun e => e.2 == b) with
        | some ((k, v), _) => κ (.tuple [k, v])
        | Option.none => none) else none
      | _, _ => none
    | _ => none
  | _ => none
def aNextStr (p : AV) (s : Store) (κ : AV → Store → Option α) : Option α :=
  match p with
  | .ptr l 0 0 => match s.get l with
    | .siter b pos => if pos < b.size then κ (.tuple [.bool true, .int .i64 pos, .int .i32 (Utf8.decode b pos).1]) (s.set l (.siter b (pos + (Utf8.decode b pos).2)))
      else κ (.tuple [.bool false]) s
    | _ => none
  | _ => none

/-! ### types -/

def zerosOf (P : Program) (t : TypeId) : Option (List AV) := ((P.info? t).bind (·.zero)).bind fun v => if v.cells.toList.all (fun x => match x with | .agg _ | .tuple _ => false | _ => true) = true then some (v.cells.toList.map ofVal) else none

/-- A type's cells. -/
def szOf (P : Program) (t : TypeId) : Option Nat := (P.info? t).map (·.size)
/-- A struct's fields, one behind the other, that are numbers, bools and strings, or structs of these, without blanks. -/
def ekStep (P : Program) (sub : List Field → Option (List EK)) : Nat → List Field → Option (List EK)
  | _, [] => some []
  | i, f :: fs => if f.name = "_" then none else if f.offset = i then (match P.underlying f.type with
    | some .bool => (ekStep P sub (i + 1) fs).map (.bool :: ·)
    | some (.int _) => (ekStep P sub (i + 1) fs).map (.int :: ·)
    | some .string => (ekStep P sub (i + 1) fs).map (.str :: ·)
    | some (.struct gs) => (match sub gs.toList with
      | some ks => if P.stoodInHeld f.type = false ∧ szOf P f.type = some ks.length then (ekStep P sub (i + ks.length) fs).map (ks ++ ·) else none
      | none => none)
    | _ => none) else none
def ekFields (P : Program) : Nat → Nat → List Field → Option (List EK)
  | 0, i, fs => ekStep P (fun _ => none) i fs
  | d + 1, i, fs => ekStep P (fun gs => ekFields P d 0 gs) i fs

/-- The comparison of a type's values: a struct's cells one by one. -/
def ekOf (P : Program) (t : TypeId) : Option EK :=
  match P.underlying t with
  | some .bool => some .bool
  | some (.int _) => some .int
  | some .string => some .str
  | some (.pointer _) => some .ptr
  | some (.slice _) => some .sl
  | some (.map _ _) => some .map
  | some (.func _ _ _) => some .func
  | some (.interface _) => some .iface
  | some (.struct fs) => if P.stoodInHeld t = false ∧ P.eqGuardType P.depth t = false then (ekFields P 4 0 fs.toList).map .struct else none
  | _ => none

end
end Go.Proofs.YtjbgdpfkmcibbaaGreatDoor.Sim
