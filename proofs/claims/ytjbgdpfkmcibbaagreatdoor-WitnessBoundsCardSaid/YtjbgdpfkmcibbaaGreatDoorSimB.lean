/- The abstract machine: what an operation, a region, code and a call do. Definitions alone. No condition. -/
import Derived.Test.YtjbgdpfkmcibbaaGreatDoorSimA
import Derived.CheckFast
namespace Go.Proofs.YtjbgdpfkmcibbaaGreatDoor.Sim

abbrev Fr := Nat → AV
def upd (fr : Fr) (d : Nat) (v : AV) : Fr := fun j => if j = d then v else fr j

/-- What a package-level variable's address is, in the store: nothing is known of it, but for the tables that are laid. -/
def gvA : Nat → AV := fun g => if g = 0 then .ptr 0 0 64 else .junk
def evalA (fr : Fr) : Operand → AV
  | .tmp t => fr t
  | .const v => ofVal v
  | .global g => gvA g
  | .func f => .func f [] []

/-- The calls: a function's number, its arguments, the store: what it returns, and the store behind it. -/
abbrev CallA := Nat → List AV → Store → Option (AV × Store)

section
variable {α : Type}

/-- Parts laid into a value: the place of each, its size, the part. -/
def aBuild : List (Nat × Nat × AV) → List AV → (List AV → Option α) → Option α
  | [], cs, κ => κ cs
  | (off, size, x) :: r, cs, κ => aCells x fun vs => if vs.length = size ∧ off + size ≤ cs.length then aBuild r (putAll cs off vs) κ else none

/-- A type's zero value. -/
def zeroOf (P : Program) (t : TypeId) : Option AV :=
  match (P.info? t).bind (·.zero) with
  | some (.agg cs) => if cs.toList.all (fun x => match x with | .agg _ | .tuple _ => false | _ => true) = true then some (.agg (cs.toList.map ofVal)) else none
  | some v => some (ofVal v)
  | _ => none
/-- Is it a struct or an array? -/
def aggOf (P : Program) (t : TypeId) : Option Bool :=
  match P.underlying t with
  | some (.struct _) | some (.array _ _) => some true
  | some _ => some false
  | none => none

/-- The places of a struct's fields, of an array's elements. -/
def placeOf (P : Program) (t : TypeId) : Option (Nat → Option (Nat × Nat)) :=
  match P.underlying t with
  | some (.struct fs) => (fs.toList.mapM fun f => (szOf P f.type).map fun n => (f.offset, n)).map fun l => fun i => l[i]?
  | some (.array _ e) => (szOf P e).map fun n => fun i => some (i * n, n)
  | _ => none
def partsOf (pl : Nat → Option (Nat × Nat)) (ρ : Operand → AV) : List (Nat × Operand) → Option (List (Nat × Nat × AV))
  | [] => some []
  | p :: r => match pl p.1, partsOf pl ρ r with
    | some q, some l => some ((q.1, q.2, ρ p.2) :: l)
    | _, _ => none

def aCall (call : CallA) (f : AV) (args : List AV) (s : Store) (κ : AV → Store → Option α) : Option α :=
  match f with
  | .func g first cap => (call g (first ++ args ++ cap) s).bind fun r => κ r.1 r.2
  | _ => none

/-- The kind of what an operand's type is, for the operations that ask. -/
def elemOf (P : Program) (t : TypeId) : Option TypeId :=
  match P.underlying t with
  | some (.slice e) => some e
  | _ => none

/-- Keys that are numbers, strings or bools. -/
def keyKind (P : Program) (t : TypeId) : Option EK :=
  match P.underlying t with
  | some .bool => some .bool
  | some (.int _) => some .int
  | some .string => some .str
  | some (.struct _) => ekOf P t
  | _ => none

/-- A method of what an interface holds: of its type's own. -/
def aInvoke (P : Program) (call : CallA) (recv : AV) (name : String) (args : List AV) (s : Store) (κ : AV → Store → Option α) : Option α :=
  match recv with
  | .iface t v => match (P.info? t).bind fun i => i.methods.find? (·.name == name), P.underlying t with
    | some m, some d => match m.func, d with
      | some (f, true), .pointer _ => if m.path.isEmpty = true then (call f (v :: args) s).bind fun r => κ r.1 r.2 else none
      | some (_, false), .pointer _ => none
      | some (f, false), _ => if m.path.isEmpty = true then (call f (v :: args) s).bind fun r => κ r.1 r.2 else none
      | _, _ => none
    | _, _ => none
  | _ => none

/-- A method that is looked at is its type's own, and asks for nothing of its receiver. -/
def methOkB (P : Program) (n : String) (t : Nat) : Bool :=
  match (P.info? t).bind fun i => i.methods.find? (·.name == n), P.underlying t with
  | some m, some d => m.path.isEmpty && (match m.func, d with
    | some (_, true), _ => true
    | some (_, false), .pointer _ => false
    | some (_, false), _ => true
    | _, _ => false)
  | _, _ => false
def MethFine (P : Program) : Prop := methL.all (fun p => methOkB P p.1 p.2) = true

/-- What an interface holds, of a type that isn't one. -/
def aAssert (P : Program) (asserted : TypeId) (ok : Bool) (x : AV) (κ : AV → Option α) : Option α :=
  match P.underlying asserted, zeroOf P asserted with
  | some (.interface _), _ => none
  | some _, some z => (match x with
    | .iface t v => if t = asserted then κ (bif ok then .tuple [v, .bool true] else v) else bif ok then κ (.tuple [z, .bool false]) else none
    | .nilif => bif ok then κ (.tuple [z, .bool false]) else none
    | _ => none)
  | _, _ => none

def aBuiltin (P : Program) (b : Builtin) (ts : List TypeId) (xs : List AV) (s : Store) (κ : AV → Store → Option α) : Option α :=
  match b, ts, xs with
  | .len, t :: _, x :: _ => (match P.underlying t with
    | some .string => aLenStr x fun v => κ v s
    | some (.slice _) => aLen x fun v => κ v s
    | some (.array n _) => κ (.int .i64 n) s
    | some (.map _ _) => aLenMap x s fun v => κ v s
    | _ => none)
  | .append, [t, u], [x, y] => (match elemOf P t, P.underlying u with
    | some e, some (.slice _) | some e, some .string => (match zerosOf P e, P.info? e with
      | some zs, some i => if zs.length = i.size then aAppend i.size i.bytes x y s κ else none
      | _, _ => none)
    | some e, some (.int _) => (match zerosOf P e, P.info? e with
      | some zs, some i => if zs.length = i.size then aAppendMake zs i.size i.bytes x y s κ else none
      | _, _ => none)
    | _, _ => none)
  | .copy, [t, _], [x, y] => (match elemOf P t with
    | some e => (match szOf P e with
      | some n => aCopy n x y s κ
      | _ => none)
    | _ => none)
  | .clear, t :: _, [x] => (match elemOf P t with
    | some e => (match zerosOf P e, P.info? e with
      | some zs, some i => if zs.length = i.size then aClear zs i.size x s fun s' => κ (.tuple []) s' else none
      | _, _ => none)
    | _ => none)
  | .max, _, x :: r => aMaxL x r fun v => κ v s
  | .min, _, x :: r => aMinL x r fun v => κ v s
  | .delete, t :: _, [m, k] => (match P.underlying t with
    | some (.map kt _) => (match keyKind P kt with
      | some kd => aDelete kd m k s fun s' => κ (.tuple []) s'
      | _ => none)
    | _ => none)
  | .cap, t :: _, x :: _ => (match P.underlying t with
    | some (.slice _) => aCap x fun v => κ v s
    | _ => none)
  | _, _, _ => none

def isEq : BinOp → Bool
  | .eql | .neq => true
  | _ => false

def aop (P : Program) (call : CallA) (ρ : Operand → AV) (o : Oper) (s : Store) (κ : AV → Store → Option α) : Option α :=
  match o.op with
  | .move x | .assign x => κ (ρ x) s
  | .pick c a b => aPick (ρ c) (ρ a) (ρ b) fun v => κ v s
  | .alloc t => (match zerosOf P t with
    | some zs => aNew zs s κ
    | _ => none)
  | .box _ x => aCells (ρ x) fun cs => aNew cs s κ
  | .build t parts => (match zerosOf P t, placeOf P t with
    | some zs, some pl => (match partsOf pl ρ parts.toList with
      | some ps => aBuild ps zs fun cs => κ (.agg cs) s
      | _ => none)
    | _, _ => none)
  | .buildSlice t n parts => (match elemOf P t with
    | some e => (match zerosOf P e, szOf P e with
      | some zs, some c => if n * c ≤ 16777216 ∧ zs.length = c then
          aBuild (parts.toList.map fun p => (p.1 * c, c, ρ p.2)) (List.replicate n zs).flatten fun cs =>
            κ (.sl s.next 0 n c (n * c)) (s.push (.cells cs false)) else none
      | _, _ => none)
    | _ => none)
  | .load t a => (match aggOf P t, szOf P t with
    | some true, some n => aLoadN n (ρ a) s fun v => κ v s
    | some false, _ => aLoad1 (ρ a) s fun v => κ v s
    | _, _ => none)
  | .store t a x => (match szOf P t with
    | some n => aStore n (ρ a) (ρ x) s fun s' => κ (.tuple []) s'
    | _ => none)
  | .nilCheck x => aNilCheck (ρ x) fun v => κ v s
  | .binOp op t x y _ => (match op with
    | .shl | .shr => aShift op (ρ x) (ρ y) fun v => κ v s
    | _ => match ekOf P t with
      | some .int => aBin op (ρ x) (ρ y) fun v => κ v s
      | some .str => aBin op (ρ x) (ρ y) fun v => κ v s
      | some e => (match op with
        | .eql => aEq e (ρ x) (ρ y) fun b => κ (.bool b) s
        | .neq => aEq e (ρ x) (ρ y) fun b => κ (.bool (!b)) s
        | _ => none)
      | Option.none => none)
  | .unOp op _ x => aUn op (ρ x) fun v => κ v s
  | .convert src dst x => (match P.underlying src, P.underlying dst with
    | some (.int _), some (.int k) => aConvInt k (ρ x) fun v => κ v s
    | some .string, some .string => aStr (ρ x) fun b => κ (.str b) s
    | some .string, some (.slice e) => (match P.underlying e with
      | some (.int .u8) => aBytesOf (ρ x) s κ
      | some (.int .i32) => aRunesOf (ρ x) s κ
      | _ => none)
    | some (.slice e), some .string => (match P.underlying e with
      | some (.int .u8) => aStrOf (ρ x) s fun v => κ v s
      | _ => none)
    | some (.slice _), some (.slice e) => (match P.underlying e with
      | some (.int .u8) => if src = dst then aConvSl (ρ x) s κ else none
      | _ => none)
    | _, _ => none)
  | .makeInterface t x => (match P.underlying t with
    | some (.interface _) => none
    | some _ => κ (.iface t (ρ x)) s
    | Option.none => none)
  | .makeFunc (.func f) first cap => κ (.func f (first.toList.map ρ) (cap.toList.map ρ)) s
  | .makeFunc (.method n) first _ => (match first.toList.map ρ with
    | [x] => κ (.meth n x) s
    | _ => none)
  | .makeMap _ Option.none => κ (.map s.next) (s.push (.map [] ([], 0)))
  | .makeSlice t n c => (match elemOf P t with
    | some e => (match zerosOf P e, P.info? e with
      | some zs, some i => if zs.length = i.size then aMakeSlice zs i.size i.bytes (ρ n) (ρ c) s κ else none
      | _, _ => none)
    | _ => none)
  | .slice t x lo hi Option.none => (match P.underlying t with
    | some .string => aSliceStr (ρ x) (lo.map ρ) (hi.map ρ) fun v => κ v s
    | some (.slice e) => (match szOf P e with
      | some c => aSliceSl c (ρ x) (lo.map ρ) (hi.map ρ) fun v => κ v s
      | _ => none)
    | some (.array n e) => (match szOf P e with
      | some c => aSliceArr n c (ρ x) (lo.map ρ) (hi.map ρ) fun v => κ v s
      | _ => none)
    | _ => none)
  | .slice t x lo hi (some mx) => (match P.underlying t with
    | some (.slice e) => (match szOf P e with
      | some _ => aCutCap (ρ x) (lo.map ρ) (hi.map ρ) (ρ mx) fun v => κ v s
      | _ => none)
    | _ => none)
  | .fieldAddr t x i => (match P.underlying t with
    | some (.struct fs) => (match fs[i]? with
      | some f => (match szOf P f.type with
        | some n => if 0 < n then aFieldAddr f.offset (ρ x) fun v => κ v s else none
        | _ => none)
      | _ => none)
    | _ => none)
  | .field t x i => (match P.underlying t with
    | some (.struct fs) => (match fs[i]? with
      | some f => (match aggOf P f.type, szOf P f.type with
        | some true, some n => aFieldN f.offset n (ρ x) fun v => κ v s
        | some false, _ => aField1 f.offset (ρ x) fun v => κ v s
        | _, _ => none)
      | _ => none)
    | _ => none)
  | .indexAddr t x i => (match P.underlying t with
    | some (.slice e) => (match szOf P e with
      | some c => aIndexSl c (ρ x) (ρ i) fun v => κ v s
      | _ => none)
    | some (.array n e) => (match szOf P e with
      | some c => aIndexArr n c (ρ x) (ρ i) fun v => κ v s
      | _ => none)
    | _ => none)
  | .index t x i => (match P.underlying t with
    | some .string => aIndexStr (ρ x) (ρ i) fun v => κ v s
    | some (.array n e) => (match aggOf P e, szOf P e with
      | some b, some c => aIndexAgg b n c (ρ x) (ρ i) fun v => κ v s
      | _, _ => none)
    | _ => none)
  | .lookup t m k ok => (match P.underlying t with
    | some (.map kt e) => (match zeroOf P e with
      | some z => (match keyKind P kt with
        | some kd => aLookup kd z ok (ρ m) (ρ k) s fun v => κ v s
        | _ => none)
      | _ => none)
    | _ => none)
  | .mapUpdate t m k x => (match P.underlying t with
    | some (.map kt _) => (match keyKind P kt with
      | some kd => aMapUpdate kd (ρ m) (ρ k) (ρ x) s fun s' => κ (.tuple []) s'
      | _ => none)
    | _ => none)
  | .extract x i => aExtract i (ρ x) fun v => κ v s
  | .call c => (match c.callee with
    | .value f => aCall call (ρ f) (c.args.toList.map ρ) s κ
    | .builtin b => aBuiltin P b c.argTypes.toList (c.args.toList.map ρ) s κ
    | .invoke x name => aInvoke P call (ρ x) name (c.args.toList.map ρ) s κ)
  | .mapEntry t m k => (match P.underlying t with
    | some (.map kt e) => (match zeroOf P e with
      | some z => (match keyKind P kt with
        | some kd => aMapEntry kd z (ρ m) (ρ k) s κ
        | _ => none)
      | _ => none)
    | _ => none)
  | .entryStore _ m st x => aEntryStore (ρ m) (ρ st) (ρ x) s fun s' => κ (.tuple []) s'
  | .range t x => (match P.underlying t with
    | some .string => aRangeStr (ρ x) s κ
    | some (.map _ _) => aRangeMap (ρ x) s κ
    | _ => none)
  | .next it isStr => if isStr = true then aNextStr (ρ it) s κ else aNextMap (ρ it) s κ
  | .entry it => aEntry (ρ it) s fun v => κ v s
  | .typeAssert x _ t ok => aAssert P t ok (ρ x) fun v => κ v s
  | _ => none

def aPut (nt : Nat) (d : Option Tmp) (v : AV) (fr : Fr) (κ : Fr → Option α) : Option α :=
  match d with
  | Option.none => κ fr
  | some t => if t < nt then κ (upd fr t v) else none

abbrev FK (α : Type) := Fr → Store → Option α

/-- A region's operations in the text's order. -/
def execOps (P : Program) (call : CallA) (nt : Nat) (ops : Array Oper) : List Oper → (Fr → Store → Option α) → Fr → Store → Option α
  | [], κ, fr, s => κ fr s
  | o :: r, κ, fr, s => match o.guard with
    | Option.none => aop P call (evalA fr) o s fun v s' => aPut nt o.dst v fr fun fr' => execOps P call nt ops r κ fr' s'
    | some (j, want) => match (ops[j]?).bind (·.dst) with
      | Option.none => none
      | some t => (aGuard (fr t) want (aop P call (evalA fr) o s fun v s' => some (v, s')) (some (.tuple [], s))).bind fun q =>
          aPut nt o.dst q.1 fr fun fr' => execOps P call nt ops r κ fr' q.2

/-! ### regions whose order is drawn -/

def pairK : AV → Store → Option (AV × Store) := fun v s => some (v, s)

/-- An operation under its guard. -/
def stepA (P : Program) (call : CallA) (ops : Array Oper) (fr : Fr) (o : Oper) (s : Store) : Option (AV × Store) :=
  match o.guard with
  | Option.none => aop P call (evalA fr) o s pairK
  | some (j, want) => match (ops[j]?).bind (·.dst) with
    | Option.none => none
    | some t => aGuard (fr t) want (aop P call (evalA fr) o s pairK) (some (.tuple [], s))

/-- An operation that neither reads nor changes the store. -/
def opPure (P : Program) : Op → Bool
  | .move _ | .assign _ | .pick _ _ _ | .build _ _ | .nilCheck _ | .binOp _ _ _ _ _ | .unOp _ _ _ | .makeInterface _ _ | .makeFunc _ _ _ | .slice _ _ _ _ _ | .fieldAddr _ _ _ | .field _ _ _
  | .indexAddr _ _ _ | .index _ _ _ | .extract _ _ => true
  | .convert s d _ => (match P.underlying s, P.underlying d with
    | some (.int _), _ => true
    | some .string, some .string => true
    | _, _ => false)
  | .call c => (match c.callee with
    | .builtin .len => (match (c.argTypes.toList.head?).bind P.underlying with
      | some .string | some (.slice _) | some (.array _ _) => true
      | _ => false)
    | .builtin .max | .builtin .min => true
    | _ => false)
  | _ => false

/-- An operation that reads the store. -/
def opRead (P : Program) : Op → Bool
  | .load _ _ | .lookup _ _ _ _ => true
  | .convert s d _ => (match P.underlying s, P.underlying d with
    | some (.slice _), some .string => true
    | _, _ => false)
  | .call c => (match c.callee with
    | .builtin .len => (match (c.argTypes.toList.head?).bind P.underlying with
      | some (.map _ _) => true
      | _ => false)
    | _ => false)
  | _ => false

def opWrite (P : Program) (o : Op) : Bool := !(opPure P o) && !(opRead P o)

/-- Are two values the same? -/
def avEq : AV → AV → Bool
  | .bool a, .bool b => a == b
  | .int k n, .int k' n' => decide (k = k') && decide (n = n')
  | .str a, .str b => decide (a.data.toList = b.data.toList)
  | .ptr l o e, .ptr l' o' e' => Nat.beq l l' && Nat.beq o o' && Nat.beq e e'
  | .nilptr, .nilptr => true
  | .sl l o n z e, .sl l' o' n' z' e' => Nat.beq l l' && Nat.beq o o' && Nat.beq n n' && Nat.beq z z' && Nat.beq e e'
  | .nilsl, .nilsl => true
  | .map l, .map l' => Nat.beq l l'
  | .nilmap, .nilmap => true
  | .func f a b, .func f' a' b' => Nat.beq f f' && avsEq a a' && avsEq b b'
  | .nilfunc, .nilfunc => true
  | .iface t v, .iface t' v' => Nat.beq t t' && avEq v v'
  | .meth n v, .meth n' v' => decide (n = n') && avEq v v'
  | .nilif, .nilif => true
  | .agg a, .agg b => avsEq a b
  | .tuple a, .tuple b => avsEq a b
  | .junk, .junk => true
  | _, _ => false
where avsEq : List AV → List AV → Bool
  | [], [] => true
  | x :: a, y :: b => avEq x y && avsEq a b
  | _, _ => false
termination_by structural x => x

def aSame (v v' : AV) (x : Option α) : Option α := bif avEq v v' then x else none

def sames : List (Option (AV × Store) × AV) → Option α → Option α
  | [], x => x
  | (c, v) :: r, x => c.bind fun q => aSame q.1 v (sames r x)

/-- What is looked at again: a reading operation at the stores at which another order would have it read. -/
def chk (P : Program) (call : CallA) (ops : Array Oper) (b : Array Nat) (j : Nat) (o : Oper) (q : AV × Store) (fr : Fr) (H : List (Nat × Oper × Store)) : List (Option (AV × Store) × AV) :=
  if opRead P o.op = true then H.filterMap fun h => if opWrite P h.2.1.op = true ∧ (b.getD j 0).testBit h.1 = false then some (stepA P call ops fr o h.2.2, q.1) else none
  else if opWrite P o.op = true then H.filterMap fun h => if opRead P h.2.1.op = true ∧ (b.getD j 0).testBit h.1 = false then (h.2.1.dst).map fun d => (stepA P call ops fr h.2.1 q.2, fr d) else none
  else []

noncomputable def execDraw (P : Program) (call : CallA) (nt : Nat) (ops : Array Oper) (b : Array Nat) (κ : Fr → Store → Option α) : List (Nat × Oper) → List (Nat × Oper × Store) → Fr → Store → Option α
  | [], _, fr, s => κ fr s
  | (j, o) :: r, H, fr, s => (stepA P call ops fr o s).bind fun q => sames (chk P call ops b j o q fr H) (aPut nt o.dst q.1 fr fun fr' => execDraw P call nt ops b κ r ((j, o, s) :: H) fr' q.2)

/-- The slots at which an operation looks. -/
def looks (ops : Array Oper) (o : Oper) : List Tmp :=
  (o.op.operands.toList.filterMap fun | .tmp t => some t | _ => none) ++
  (match o.guard with
   | some (g, _) => ((ops[g]?).bind (·.dst)).toList
   | Option.none => [])

/-- Numbers worked out, one by one. -/
def forceL : List Nat → (List Nat → α) → α
  | [], k => k []
  | x :: r, k => CheckFast.force x fun v => forceL r fun r' => k (v :: r')
theorem forceL_eq : ∀ (l : List Nat) (k : List Nat → α), forceL l k = k l
  | [], _ => rfl
  | x :: r, k => by rw [forceL, CheckFast.force_eq, forceL_eq r]

/-- An operation's slot (0: none), the slots at which it looks, what it is: 0 reckons, 1 reads, 2 the rest. -/
def rowOf (P : Program) (ops : Array Oper) (o : Oper) : Nat × List Nat × Nat :=
  ((match o.dst with | Option.none => 0 | some d => d + 1), looks ops o, bif opPure P o.op then 0 else bif opRead P o.op then 1 else 2)
def forceRows : List (Nat × List Nat × Nat) → (List (Nat × List Nat × Nat) → α) → α
  | [], k => k []
  | r :: rs, k => CheckFast.force r.1 fun d => forceL r.2.1 fun l => CheckFast.force r.2.2 fun c => forceRows rs fun rs' => k ((d, l, c) :: rs')
theorem forceRows_eq : ∀ (l : List (Nat × List Nat × Nat)) (k : List (Nat × List Nat × Nat) → α), forceRows l k = k l
  | [], _ => rfl
  | r :: rs, k => by rw [forceRows, CheckFast.force_eq, forceL_eq, CheckFast.force_eq, forceRows_eq rs]

/-- What a region must be like: what an operation looks at has been laid by one for which it waits, or was there before, or is laid (no reader looks at it then) by one that waits for it; writers wait for each other; readers have a slot; no slot is laid twice. -/
def rowsOk (rs : List (Nat × List Nat × Nat)) (b : List Nat) : Bool :=
  rs.zipIdx.all fun p =>
    (!(Nat.beq p.1.2.2 1) || !(Nat.beq p.1.1 0)) &&
    rs.zipIdx.all fun q =>
      (Nat.beq q.1.1 0 || !(p.1.2.1.any fun t => Nat.beq (t + 1) q.1.1) || (b.getD p.2 0).testBit q.2 || (!(Nat.beq p.1.2.2 1) && Nat.blt p.2 q.2 && (b.getD q.2 0).testBit p.2)) &&
      (!Nat.blt q.2 p.2 || ((!(Nat.beq p.1.2.2 2) || !(Nat.beq q.1.2.2 2) || (b.getD p.2 0).testBit q.2) && (Nat.beq p.1.1 0 || !(Nat.beq p.1.1 q.1.1))))

/-- And each operation waits for earlier ones alone. -/
def drawOk (P : Program) (ops : Array Oper) (rs : List (Nat × List Nat × Nat)) (b : List Nat) : Bool :=
  P.follows .mixedOrders && (ops.toList.zipIdx.all fun p => p.1.after.toList.all fun e => !Region.binds .any e || Nat.blt e.on p.2) && rowsOk rs b

/-! ### regions in which new rows are made without an order -/
/-- An operation that makes a new row out of nothing. -/
def opAlloc : Op → Bool
  | .alloc _ | .makeSlice _ _ _ | .buildSlice _ _ _ => true
  | .makeMap _ Option.none => true
  | _ => false
/-- These rows taken away; these rows as they were. -/
def hideL (L : List Nat) (s : Store) : Store := ⟨s.next, fun l => if l ∈ L then .none else s.get l⟩
def backL (L : List Nat) (s s' : Store) : Store := ⟨s'.next, fun l => if l ∈ L then s.get l else s'.get l⟩
/-- Ids kept for rows that are to come. -/
def reserve (n : Nat) (s : Store) : Store := ⟨s.next + n, fun l => if l < s.next then s.get l else .none⟩
/-- A new row that lies at an id kept for it. -/
def atRow (r : Nat) (s : Store) (F : Store → Option (AV × Store)) : Option (AV × Store) := (F ⟨r, s.get⟩).map fun q => (q.1, ⟨s.next, q.2.get⟩)
/-- Without these rows. -/
def underL (L : List Nat) (s : Store) (F : Store → Option (AV × Store)) : Option (AV × Store) :=
  match L with
  | [] => F s
  | x :: r => (F (hideL (x :: r) s)).map fun q => (q.1, backL (x :: r) s q.2)
def allocAt (ops : Array Oper) (j : Nat) : Bool := match ops[j]? with | some o => opAlloc o.op | Option.none => false
/-- The rows made ahead of 'q' for which 'p' doesn't wait. -/
def hidOf (ops : Array Oper) (b : Array Nat) (n0 p q : Nat) : List Nat := (List.range q).filterMap fun j => if (allocAt ops j && !(b.getD p 0).testBit j) = true then some (n0 + j) else none
def stepQ (P : Program) (call : CallA) (ops : Array Oper) (b : Array Nat) (n0 : Nat) (fr : Fr) (j : Nat) (o : Oper) (s : Store) : Option (AV × Store) :=
  if opAlloc o.op = true then atRow (n0 + j) s (stepA P call ops fr o) else underL (hidOf ops b n0 j j) s (stepA P call ops fr o)
def opW2 (P : Program) (o : Op) : Bool := opWrite P o && !opAlloc o
def chkQ (P : Program) (call : CallA) (ops : Array Oper) (b : Array Nat) (n0 j : Nat) (o : Oper) (q : AV × Store) (fr : Fr) (H : List (Nat × Oper × Store)) : List (Option (AV × Store) × AV) :=
  if opRead P o.op = true then H.filterMap fun h => if opW2 P h.2.1.op = true ∧ (b.getD j 0).testBit h.1 = false then some (stepA P call ops fr o (hideL (hidOf ops b n0 j h.1) h.2.2), q.1) else none
  else if opW2 P o.op = true then H.filterMap fun h => if opRead P h.2.1.op = true ∧ (b.getD j 0).testBit h.1 = false then (h.2.1.dst).map fun d => (stepA P call ops fr h.2.1 (hideL (hidOf ops b n0 h.1 (j + 1)) q.2), fr d) else none
  else []
noncomputable def execDrawQ (P : Program) (call : CallA) (nt : Nat) (ops : Array Oper) (b : Array Nat) (n0 : Nat) (κ : Fr → Store → Option α) : List (Nat × Oper) → List (Nat × Oper × Store) → Fr → Store → Option α
  | [], _, fr, s => κ fr s
  | (j, o) :: r, H, fr, s => (stepQ P call ops b n0 fr j o s).bind fun q => sames (chkQ P call ops b n0 j o q fr H) (aPut nt o.dst q.1 fr fun fr' => execDrawQ P call nt ops b n0 κ r ((j, o, s) :: H) fr' q.2)
/-- As 'rowOf', but new rows are a kind of their own. -/
def rowOf2 (P : Program) (ops : Array Oper) (o : Oper) : Nat × List Nat × Nat :=
  ((match o.dst with | Option.none => 0 | some d => d + 1), looks ops o, bif opAlloc o.op then 3 else bif opPure P o.op then 0 else bif opRead P o.op then 1 else 2)

/-- Rows of some ids as told, the others as they are. -/
noncomputable def addT (H : Nat → Prop) (T : Nat → AObj) (s : Store) : Store := open Classical in ⟨s.next, fun l => if H l then T l else s.get l⟩
/-- These rows are not there yet. -/
def Hid (H : Nat → Prop) (s : Store) : Prop := ∀ l, H l → s.get l = .none ∧ l < s.next
/-- Rows that are not there yet play no part in calls. -/
def CallFr (H : Nat → Prop) (T : Nat → AObj) (call : CallA) : Prop := ∀ f args s v s', Hid H s → call f args s = some (v, s') → Hid H s' ∧ call f args (addT H T s) = some (v, addT H T s')

/-- What follows: behind the end, behind an exit, behind a return. -/
structure Ks (α : Type) where
  n : Fr → Store → Option α
  x : Nat → Fr → Store → Option α
  r : Fr → Store → Option α

def loopN (b : (Fr → Store → Option α) → Fr → Store → Option α) : Nat → Fr → Store → Option α
  | 0 => fun _ _ => none
  | n + 1 => b (loopN b n)

noncomputable def exec (P : Program) (call : CallA) (fuel nt : Nat) : Code → Ks α → Fr → Store → Option α
  | .skip, K => K.n
  | .region _ ops false, K => execOps P call nt ops ops.toList K.n
  | .region _ ops true, K => fun fr s => forceL (CheckFast.beforeF ops).toList fun b => forceRows (ops.toList.map (rowOf P ops)) fun rs => Bool.rec (motive := fun _ => Option α) (forceRows (ops.toList.map (rowOf2 P ops)) fun rs2 => Bool.rec (motive := fun _ => Option α) none (execDrawQ P call nt ops b.toArray s.next K.n (ops.toList.zipIdx.map fun p => (p.2, p.1)) [] fr (reserve ops.size s)) (drawOk P ops rs2 b)) (execDraw P call nt ops b.toArray K.n (ops.toList.zipIdx.map fun p => (p.2, p.1)) [] fr s) (drawOk P ops rs b)
  | .seq x y, K => exec P call fuel nt x ⟨exec P call fuel nt y K, K.x, K.r⟩
  | .cond c x y, K => fun fr s => aIf (evalA fr c) (exec P call fuel nt x K fr s) (exec P call fuel nt y K fr s)
  | .block id b, K => exec P call fuel nt b ⟨K.n, fun j => if j = id then K.n else K.x j, K.r⟩
  | .loop b, K => loopN (fun rec => exec P call fuel nt b ⟨rec, K.x, K.r⟩) fuel
  | .exit id, K => K.x id
  | .ret, K => K.r
  | _, _ => fun _ _ => none

/-- The frame in which a function begins. -/
def frOf (args : List AV) : Fr := fun t => args.getD t (.tuple [])

/-- What a function returns. -/
def aResult (P : Program) (fr : Fr) (s : Store) (r : ResultVar) (κ : AV → Option α) : Option α :=
  match r with
  | .tmp t => κ (fr t)
  | .cell a t => match aggOf P t, szOf P t with
    | some true, some n => aLoadN n (fr a) s κ
    | some false, _ => aLoad1 (fr a) s κ
    | _, _ => none

def aResults (P : Program) (fr : Fr) (s : Store) : List ResultVar → (List AV → Option α) → Option α
  | [], κ => κ []
  | r :: rs, κ => aResult P fr s r fun v => aResults P fr s rs fun vs => κ (v :: vs)

def tupled : List AV → AV
  | [v] => v
  | vs => .tuple vs

def retK (P : Program) (rs : List ResultVar) : Fr → Store → Option (AV × Store) := fun fr s => aResults P fr s rs fun vs => some (tupled vs, s)

def topK (P : Program) (rs : List ResultVar) : Ks (AV × Store) := ⟨retK P rs, fun _ _ _ => none, retK P rs⟩

noncomputable def run (P : Program) : Nat → CallA
  | 0, _, _, _ => none
  | k + 1, f, args, s => match P.funcs[f]? with
    | Option.none => none
    | some fn => match fn.body with
      | Option.none => none
      | some c => if fn.name == "runtime.NumGoroutine" then none else
        if args.length ≤ fn.ntmps then exec P (run P k) k fn.ntmps c (topK P fn.results.toList) (frOf args) s else none
end
end Go.Proofs.YtjbgdpfkmcibbaaGreatDoor.Sim
