/- The abstract machine: what an operation that only reckons, or only reads, does; where operands are the same. Plain lemmas. No condition. -/
import Derived.Test.YtjbgdpfkmcibbaaGreatDoorSimM
namespace Go.Proofs.YtjbgdpfkmcibbaaGreatDoor.Sim
set_option linter.unusedSimpArgs false
mutual
theorem avEq_iff : ∀ a b : AV, avEq a b = true ↔ a = b
  | .bool a, y => by cases y <;> simp [avEq]
  | .int k n, y => by cases y <;> simp [avEq]
  | .str ⟨⟨a⟩⟩, y => by cases y <;> simp [avEq] ; rename_i x; obtain ⟨⟨b⟩⟩ := x; simp
  | .ptr l o e, y => by cases y <;> simp [avEq, and_assoc]
  | .nilptr, y => by cases y <;> simp [avEq]
  | .sl l o n z e, y => by cases y <;> simp [avEq, and_assoc]
  | .nilsl, y => by cases y <;> simp [avEq]
  | .map l, y => by cases y <;> simp [avEq]
  | .nilmap, y => by cases y <;> simp [avEq]
  | .func f a b, y => by cases y <;> simp [avEq, avsEq_iff, and_assoc]
  | .nilfunc, y => by cases y <;> simp [avEq]
  | .iface f a, y => by cases y <;> simp [avEq, avEq_iff a]
  | .meth n a, y => by cases y <;> simp [avEq, avEq_iff a]
  | .nilif, y => by cases y <;> simp [avEq]
  | .agg a, y => by cases y <;> simp [avEq, avsEq_iff]
  | .tuple a, y => by cases y <;> simp [avEq, avsEq_iff]
  | .junk, y => by cases y <;> simp [avEq]
theorem avsEq_iff : ∀ a b : List AV, avEq.avsEq a b = true ↔ a = b
  | [], b => by cases b <;> simp [avEq.avsEq]
  | x :: a, b => by cases b <;> simp [avEq.avsEq, avEq_iff x, avsEq_iff a]
end
theorem aSame_self {α : Type} (v : AV) (x : Option α) : aSame v v x = x := by unfold aSame; rw [(avEq_iff v v).2 rfl]; rfl
section
variable {P : Program} {call : CallA} {s : Store} {β : Type}

/-! ### what an operation waits for -/
theorem fold_bits (g : Nat → Nat) (i : Nat) : ∀ (l : List Edge) (x : Nat), (l.foldl (fun s e => if Region.binds .any e then s ||| 2 ^ e.on ||| g e.on else s) x).testBit i = true →
    x.testBit i = true ∨ ∃ e ∈ l, Region.binds .any e = true ∧ (e.on = i ∨ (g e.on).testBit i = true)
  | [], x, h => .inl h
  | e :: l, x, h => by
    rw [List.foldl_cons] at h
    rcases fold_bits g i l _ h with h | ⟨e', he, h1, h2⟩
    · split at h
      · rename_i hb
        rw [Nat.testBit_or, Nat.testBit_or, Bool.or_eq_true, Bool.or_eq_true] at h
        rcases h with (h | h) | h
        · exact .inl h
        · refine .inr ⟨e, List.mem_cons_self, hb, .inl ?_⟩
          rw [Nat.testBit_two_pow] at h
          simpa using h
        · exact .inr ⟨e, List.mem_cons_self, hb, .inr h⟩
      · exact .inl h
    · exact .inr ⟨e', List.mem_cons_of_mem _ he, h1, h2⟩

theorem before_list : ∀ (l pre : List Oper) (acc : Array Nat), acc.size = pre.length →
    (∀ j i, j < pre.length → (acc.getD j 0).testBit i = true → ∃ o, pre[j]? = some o ∧ ∃ e ∈ o.after.toList, Region.binds .any e = true ∧ (e.on = i ∨ (e.on < j ∧ (acc.getD e.on 0).testBit i = true))) →
    ∀ j i, j < (pre ++ l).length → (((l.foldl (fun acc o => acc.push (o.after.foldl (fun s e => if Region.binds .any e then s ||| 2 ^ e.on ||| acc.getD e.on 0 else s) 0)) acc) : Array Nat).getD j 0).testBit i = true →
      ∃ o, (pre ++ l)[j]? = some o ∧ ∃ e ∈ o.after.toList, Region.binds .any e = true ∧ (e.on = i ∨ (e.on < j ∧ ((l.foldl (fun acc o => acc.push (o.after.foldl (fun s e => if Region.binds .any e then s ||| 2 ^ e.on ||| acc.getD e.on 0 else s) 0)) acc : Array Nat).getD e.on 0).testBit i = true))
  | [], pre, acc, _, h, j, i, hj, hb => by simpa using h j i (by simpa using hj) hb
  | o :: l, pre, acc, hs, h, j, i, hj, hb => by
    rw [List.foldl_cons] at hb ⊢
    have e : pre ++ o :: l = (pre ++ [o]) ++ l := by simp
    rw [e] at hj ⊢
    refine before_list l (pre ++ [o]) _ (by simp [hs]) ?_ j i hj hb
    intro j i hj hb
    simp only [List.length_append, List.length_cons, List.length_nil] at hj
    have old : ∀ q, q < acc.size → (acc.push (o.after.foldl (fun s e => if Region.binds .any e then s ||| 2 ^ e.on ||| acc.getD e.on 0 else s) 0)).getD q 0 = acc.getD q 0 := by
      intro q hq
      simp only [Array.getD_eq_getD_getElem?, Array.getElem?_push, if_neg (show ¬ q = acc.size by omega)]
    by_cases hj2 : j < pre.length
    · rw [old j (by omega)] at hb
      obtain ⟨o', h1, e', h2, h3, h4⟩ := h j i hj2 hb
      refine ⟨o', by rw [List.getElem?_append_left hj2]; exact h1, e', h2, h3, ?_⟩
      rcases h4 with h4 | ⟨h4, h5⟩
      · exact .inl h4
      · exact .inr ⟨h4, by rw [old _ (by omega)]; exact h5⟩
    · have hj3 : j = pre.length := by omega
      subst hj3
      have hb2 : ((o.after.foldl (fun s e => if Region.binds .any e then s ||| 2 ^ e.on ||| acc.getD e.on 0 else s) 0)).testBit i = true := by
        simpa only [Array.getD_eq_getD_getElem?, Array.getElem?_push, ← hs, if_pos, Option.getD_some] using hb
      rw [← Array.foldl_toList] at hb2
      rcases fold_bits (fun q => acc.getD q 0) i _ 0 hb2 with h0 | ⟨e', h2, h3, h4⟩
      · simp at h0
      · refine ⟨o, by simp, e', h2, h3, ?_⟩
        rcases h4 with h4 | h4
        · exact .inl h4
        · have hlt : e'.on < acc.size := by
            rcases Nat.lt_or_ge e'.on acc.size with h' | h'
            · exact h'
            · simp [Array.getD_eq_getD_getElem?, Array.getElem?_eq_none h'] at h4
          exact .inr ⟨by omega, by rw [old _ hlt]; exact h4⟩

theorem before_spec (ops : Array Oper) {j i : Nat} (hb : ((Region.before ops).getD j 0).testBit i = true) :
    ∃ o, ops[j]? = some o ∧ ∃ e ∈ o.after.toList, Region.binds .any e = true ∧ (e.on = i ∨ (e.on < j ∧ ((Region.before ops).getD e.on 0).testBit i = true)) := by
  have key := before_list ops.toList [] #[] rfl (fun j i hj => by simp at hj) j i
  have hsz : ∀ (l : List Oper) (acc : Array Nat), (l.foldl (fun acc o => acc.push (o.after.foldl (fun s e => if Region.binds .any e then s ||| 2 ^ e.on ||| acc.getD e.on 0 else s) 0)) acc : Array Nat).size = acc.size + l.length := by
    intro l
    induction l with
    | nil => intro acc; rfl
    | cons o l ih => intro acc; rw [List.foldl_cons, ih]; simp; omega
  have e : Region.before ops = (ops.toList.foldl (fun acc o => acc.push (o.after.foldl (fun s e => if Region.binds .any e then s ||| 2 ^ e.on ||| acc.getD e.on 0 else s) 0)) #[] : Array Nat) := by
    unfold Region.before
    rw [← Array.foldl_toList]
  rw [e] at hb ⊢
  have hj : j < ops.size := by
    rcases Nat.lt_or_ge j ops.size with h' | h'
    · exact h'
    · have : ((ops.toList.foldl (fun acc o => acc.push (o.after.foldl (fun s e => if Region.binds .any e then s ||| 2 ^ e.on ||| acc.getD e.on 0 else s) 0)) #[] : Array Nat).getD j 0) = 0 := by
        rw [Array.getD_eq_getD_getElem?, Array.getElem?_eq_none (by rw [hsz]; simpa using h')]
        rfl
      rw [this] at hb
      simp at hb
  obtain ⟨o, h1, h2⟩ := key (by simpa using hj) hb
  exact ⟨o, by simpa using h1, h2⟩

/-! ### naturality -/
theorem aPick_nat (c a b : AV) (κ : AV → Option β) : aPick c a b κ = (aPick c a b some).bind κ := by unfold aPick; split <;> rfl
theorem aCells_nat (x : AV) (κ : List AV → Option β) : aCells x κ = (aCells x some).bind κ := by unfold aCells; split <;> rfl
theorem aBuild_nat : ∀ (ps : List (Nat × Nat × AV)) (cs : List AV) (κ : List AV → Option β), aBuild ps cs κ = (aBuild ps cs some).bind κ
  | [], cs, κ => rfl
  | (off, size, x) :: ps, cs, κ => by
    have e1 := aCells_nat x (fun vs => if vs.length = size ∧ off + size ≤ cs.length then aBuild ps (putAll cs off vs) κ else none)
    have e2 := aCells_nat x (fun vs => if vs.length = size ∧ off + size ≤ cs.length then aBuild ps (putAll cs off vs) some else none)
    simp only [aBuild]
    rw [e1, e2]
    cases aCells x some with
    | none => rfl
    | some vs =>
      simp only [Option.bind_some]
      split
      · exact aBuild_nat ps _ κ
      · rfl
theorem aNilCheck_nat (x : AV) (κ : AV → Option β) : aNilCheck x κ = (aNilCheck x some).bind κ := by unfold aNilCheck; split <;> first | rfl | (split <;> rfl)
theorem aShift_nat (op : BinOp) (x y : AV) (κ : AV → Option β) : aShift op x y κ = (aShift op x y some).bind κ := by
  unfold aShift; split
  · split
    · rfl
    · split <;> rfl
  · rfl
theorem aBin_nat (op : BinOp) (x y : AV) (κ : AV → Option β) : aBin op x y κ = (aBin op x y some).bind κ := by
  unfold aBin; split
  · split
    · split <;> rfl
    · rfl
  · split <;> rfl
  · rfl
theorem aEq_nat (e : EK) (x y : AV) (κ : Bool → Option β) : aEq e x y κ = (aEq e x y some).bind κ := by
  unfold aEq; split <;> first | rfl | (split <;> rfl)
theorem aUn_nat (op : UnOp) (x : AV) (κ : AV → Option β) : aUn op x κ = (aUn op x some).bind κ := by unfold aUn; split <;> rfl
theorem aConvInt_nat (k : IntKind) (x : AV) (κ : AV → Option β) : aConvInt k x κ = (aConvInt k x some).bind κ := by unfold aConvInt; split <;> rfl
theorem aStr_nat (x : AV) (κ : ByteArray → Option β) : aStr x κ = (aStr x some).bind κ := by unfold aStr; split <;> rfl
theorem aNum_nat (x : AV) (κ : Int → Option β) : aNum x κ = (aNum x some).bind κ := by unfold aNum; split <;> rfl
theorem bound_nat (d : Int) (o : Option AV) (κ : Int → Option β) : (match o with | some l => aNum l | Option.none => fun k => k d) κ = ((match o with | some l => aNum l | Option.none => fun k => k d) some : Option Int).bind κ := by
  cases o with
  | none => rfl
  | some x => exact aNum_nat x κ
theorem aSliceSl_nat (es : Nat) (x : AV) (lo hi : Option AV) (κ : AV → Option β) : aSliceSl es x lo hi κ = (aSliceSl es x lo hi some).bind κ := by
  unfold aSliceSl
  cases lo <;> cases hi <;> simp only [aNum] <;> repeat' first | rfl | split
theorem aSliceStr_nat (x : AV) (lo hi : Option AV) (κ : AV → Option β) : aSliceStr x lo hi κ = (aSliceStr x lo hi some).bind κ := by
  unfold aSliceStr
  cases lo <;> cases hi <;> simp only [aNum] <;> repeat' first | rfl | split
theorem aSliceArr_nat (len es : Nat) (x : AV) (lo hi : Option AV) (κ : AV → Option β) : aSliceArr len es x lo hi κ = (aSliceArr len es x lo hi some).bind κ := by
  unfold aSliceArr
  cases lo <;> cases hi <;> simp only [aNum] <;> repeat' first | rfl | split
theorem aFieldAddr_nat (off : Nat) (x : AV) (κ : AV → Option β) : aFieldAddr off x κ = (aFieldAddr off x some).bind κ := by unfold aFieldAddr; split <;> rfl
theorem aField1_nat (off : Nat) (x : AV) (κ : AV → Option β) : aField1 off x κ = (aField1 off x some).bind κ := by unfold aField1; split <;> first | rfl | (split <;> rfl)
theorem aFieldN_nat (off n : Nat) (x : AV) (κ : AV → Option β) : aFieldN off n x κ = (aFieldN off n x some).bind κ := by unfold aFieldN; split <;> rfl
theorem aIndexSl_nat (es : Nat) (x i : AV) (κ : AV → Option β) : aIndexSl es x i κ = (aIndexSl es x i some).bind κ := by
  unfold aIndexSl; split
  · split
    · split
      · split <;> rfl
      · rfl
    · rfl
  · rfl
theorem aIndexArr_nat (len es : Nat) (x i : AV) (κ : AV → Option β) : aIndexArr len es x i κ = (aIndexArr len es x i some).bind κ := by
  unfold aIndexArr; split
  · split
    · split <;> rfl
    · rfl
  · rfl
theorem aIndexStr_nat (x i : AV) (κ : AV → Option β) : aIndexStr x i κ = (aIndexStr x i some).bind κ := by
  unfold aIndexStr; split
  · split
    · split <;> rfl
    · rfl
  · rfl
theorem aIndexAgg_nat (b : Bool) (len c : Nat) (x i : AV) (κ : AV → Option β) : aIndexAgg b len c x i κ = (aIndexAgg b len c x i some).bind κ := by
  unfold aIndexAgg
  split
  · split
    · split
      · split
        · exact aFieldN_nat _ _ _ _
        · exact aField1_nat _ _ _
      · rfl
    · rfl
  · rfl
theorem aCutCap_nat (x : AV) (lo hi : Option AV) (mx : AV) (κ : AV → Option β) : aCutCap x lo hi mx κ = (aCutCap x lo hi mx some).bind κ := by
  unfold aCutCap aNum
  cases x <;> first | rfl | skip
  cases lo with
  | none =>
    cases hi with
    | none => simp only; cases mx <;> first | rfl | (simp only; split <;> rfl)
    | some h => cases h <;> first | rfl | (simp only; cases mx <;> first | rfl | (simp only; split <;> rfl))
  | some l =>
    cases l <;> first | rfl | skip
    cases hi with
    | none => simp only; cases mx <;> first | rfl | (simp only; split <;> rfl)
    | some h => cases h <;> first | rfl | (simp only; cases mx <;> first | rfl | (simp only; split <;> rfl))
theorem aExtract_nat (i : Nat) (x : AV) (κ : AV → Option β) : aExtract i x κ = (aExtract i x some).bind κ := by unfold aExtract; split <;> first | rfl | (split <;> rfl)
theorem aLen_nat (x : AV) (κ : AV → Option β) : aLen x κ = (aLen x some).bind κ := by unfold aLen; split <;> rfl
theorem aCap_nat (x : AV) (κ : AV → Option β) : aCap x κ = (aCap x some).bind κ := by unfold aCap; split <;> rfl
theorem aLenStr_nat (x : AV) (κ : AV → Option β) : aLenStr x κ = (aLenStr x some).bind κ := by unfold aLenStr; split <;> rfl
theorem aMaxL_nat : ∀ (xs : List AV) (x : AV) (κ : AV → Option β), aMaxL x xs κ = (aMaxL x xs some).bind κ
  | [], x, κ => rfl
  | y :: r, x, κ => by
    simp only [aMaxL, aMax2]
    split
    · exact aMaxL_nat r _ κ
    · rfl
theorem aMinL_nat : ∀ (xs : List AV) (x : AV) (κ : AV → Option β), aMinL x xs κ = (aMinL x xs some).bind κ
  | [], x, κ => rfl
  | y :: r, x, κ => by
    simp only [aMinL, aMin2]
    split
    · exact aMinL_nat r _ κ
    · rfl
theorem aRow_nat (l ep : Nat) (f : List AV → Option AV) (κ : AV → Option β) : (aRow l ep s fun xs => (f xs).bind κ) = (aRow l ep s f).bind κ := by unfold aRow; split <;> first | rfl | (split <;> rfl)
theorem aLoad1_nat (p : AV) (κ : AV → Option β) : aLoad1 p s κ = (aLoad1 p s some).bind κ := by
  unfold aLoad1; split
  · rw [← aRow_nat]; congr 1; funext xs; split <;> rfl
  · rfl
theorem aLoadN_nat (n : Nat) (p : AV) (κ : AV → Option β) : aLoadN n p s κ = (aLoadN n p s some).bind κ := by
  unfold aLoadN; split
  · rw [← aRow_nat]; congr 1; funext xs; split <;> rfl
  · rfl
theorem aStrOf_nat (x : AV) (κ : AV → Option β) : aStrOf x s κ = (aStrOf x s some).bind κ := by
  unfold aStrOf; split
  · rfl
  · rw [← aRow_nat]; congr 1; funext xs; split
    · split <;> rfl
    · rfl
  · rfl
theorem aLenMap_nat (x : AV) (κ : AV → Option β) : aLenMap x s κ = (aLenMap x s some).bind κ := by unfold aLenMap; split <;> first | rfl | (split <;> rfl)
theorem aFind_nat (kd : EK) (m key : AV) (κ : Option (Nat × AV) → Option β) : aFind kd m key s κ = (aFind kd m key s some).bind κ := by
  unfold aFind; split
  · split
    · rfl
    · split
      · split <;> rfl
      · rfl
    · rfl
  · rfl
theorem aAssert_nat (t : TypeId) (ok : Bool) (x : AV) (κ : AV → Option β) : aAssert P t ok x κ = (aAssert P t ok x some).bind κ := by
  unfold aAssert
  split
  · rfl
  · split
    · split
      · rfl
      · cases ok <;> rfl
    · cases ok <;> rfl
    · rfl
  · rfl
theorem aLookup_nat (kd : EK) (z : AV) (ok : Bool) (m key : AV) (κ : AV → Option β) : aLookup kd z ok m key s κ = (aLookup kd z ok m key s some).bind κ := by
  unfold aLookup aFind
  repeat' first | rfl | split
  all_goals (rename_i q _; cases q <;> rfl)

theorem leaf (F : ∀ {β : Type}, (AV → Option β) → Option β) (hF : ∀ {β : Type} (κ : AV → Option β), F κ = (F some).bind κ) (s s0 : Store) : F (fun v => pairK v s) = ((F (fun v => pairK v s0)).map (·.1)).bind (fun v => pairK v s) := by
  rw [hF (fun v => pairK v s), hF (fun v => pairK v s0)]
  cases F some <;> rfl

theorem leaf_eq (f : Bool → AV) (e : EK) (x y : AV) (s s0 : Store) : aEq e x y (fun b => pairK (f b) s) = ((aEq e x y (fun b => pairK (f b) s0)).map (·.1)).bind (fun v => pairK v s) := by
  rw [aEq_nat e x y (fun b => pairK (f b) s), aEq_nat e x y (fun b => pairK (f b) s0)]
  cases aEq e x y some <;> rfl
theorem leaf_str (x : AV) (s s0 : Store) : aStr x (fun b => pairK (.str b) s) = ((aStr x (fun b => pairK (.str b) s0)).map (·.1)).bind (fun v => pairK v s) := by
  rw [aStr_nat x (fun b => pairK (.str b) s), aStr_nat x (fun b => pairK (.str b) s0)]
  cases aStr x some <;> rfl
theorem leaf_build (ps : List (Nat × Nat × AV)) (cs : List AV) (s s0 : Store) : aBuild ps cs (fun b => pairK (.agg b) s) = ((aBuild ps cs (fun b => pairK (.agg b) s0)).map (·.1)).bind (fun v => pairK v s) := by
  rw [aBuild_nat ps cs (fun b => pairK (.agg b) s), aBuild_nat ps cs (fun b => pairK (.agg b) s0)]
  cases aBuild ps cs some <;> rfl

/-- The store plays no part. -/
theorem pure_nat {ρ : Operand → AV} {o : Oper} (hp : opPure P o.op = true) (s s0 : Store) : aop P call ρ o s pairK = ((aop P call ρ o s0 pairK).map (·.1)).bind (fun v => pairK v s) := by
  unfold aop
  cases hop : o.op <;> rw [hop] at hp <;> simp only [opPure, Bool.false_eq_true] at hp <;> try simp only
  case move x => rfl
  case assign x => rfl
  case pick c a b => exact leaf (fun κ => aPick (ρ c) (ρ a) (ρ b) κ) (fun κ => aPick_nat _ _ _ κ) s s0
  case build t parts =>
    split
    · split
      · exact leaf_build _ _ s s0
      · rfl
    · rfl
  case nilCheck x => exact leaf (fun κ => aNilCheck (ρ x) κ) (fun κ => aNilCheck_nat _ κ) s s0
  case binOp op t x y ty =>
    split
    · exact leaf (fun κ => aShift .shl (ρ x) (ρ y) κ) (fun κ => aShift_nat _ _ _ κ) s s0
    · exact leaf (fun κ => aShift .shr (ρ x) (ρ y) κ) (fun κ => aShift_nat _ _ _ κ) s s0
    · split
      · exact leaf (fun κ => aBin _ (ρ x) (ρ y) κ) (fun κ => aBin_nat _ _ _ κ) s s0
      · exact leaf (fun κ => aBin _ (ρ x) (ρ y) κ) (fun κ => aBin_nat _ _ _ κ) s s0
      · split
        · exact leaf_eq (fun b => .bool b) _ _ _ s s0
        · exact leaf_eq (fun b => .bool (!b)) _ _ _ s s0
        · rfl
      · rfl
  case unOp op t x => exact leaf (fun κ => aUn op (ρ x) κ) (fun κ => aUn_nat _ _ κ) s s0
  case convert src dst x =>
    split
    · rename_i k _ _; exact leaf (fun κ => aConvInt k (ρ x) κ) (fun κ => aConvInt_nat _ _ κ) s s0
    · exact leaf_str _ s s0
    · rename_i h1 h2; rw [h1, h2] at hp; simp at hp
    · rename_i h1 h2; rw [h1, h2] at hp; simp at hp
    · rename_i h1 h2; rw [h1, h2] at hp; simp at hp
    · rfl
  case makeInterface t x => split <;> rfl
  case makeFunc f a b => split <;> first | rfl | (split <;> rfl) | (simp_all; done) | (simp_all; split <;> rfl)
  case slice t x lo hi mx =>
    cases mx with
    | some m =>
      simp only
      split
      · split
        · exact leaf (fun κ => aCutCap (ρ x) (lo.map ρ) (hi.map ρ) (ρ m) κ) (fun κ => aCutCap_nat _ _ _ _ κ) s s0
        · rfl
      · rfl
    | none =>
      simp only
      split
      · exact leaf (fun κ => aSliceStr (ρ x) (lo.map ρ) (hi.map ρ) κ) (fun κ => aSliceStr_nat _ _ _ κ) s s0
      · split
        · exact leaf (fun κ => aSliceSl _ (ρ x) (lo.map ρ) (hi.map ρ) κ) (fun κ => aSliceSl_nat _ _ _ _ κ) s s0
        · rfl
      · split
        · exact leaf (fun κ => aSliceArr _ _ (ρ x) (lo.map ρ) (hi.map ρ) κ) (fun κ => aSliceArr_nat _ _ _ _ _ κ) s s0
        · rfl
      · rfl
  case fieldAddr t x i =>
    split
    · split
      · split
        · split
          · exact leaf (fun κ => aFieldAddr _ (ρ x) κ) (fun κ => aFieldAddr_nat _ _ κ) s s0
          · rfl
        · rfl
      · rfl
    · rfl
  case field t x i =>
    split
    · split
      · split
        · exact leaf (fun κ => aFieldN _ _ (ρ x) κ) (fun κ => aFieldN_nat _ _ _ κ) s s0
        · exact leaf (fun κ => aField1 _ (ρ x) κ) (fun κ => aField1_nat _ _ κ) s s0
        · rfl
      · rfl
    · rfl
  case indexAddr t x i =>
    split
    · split
      · exact leaf (fun κ => aIndexSl _ (ρ x) (ρ i) κ) (fun κ => aIndexSl_nat _ _ _ κ) s s0
      · rfl
    · split
      · exact leaf (fun κ => aIndexArr _ _ (ρ x) (ρ i) κ) (fun κ => aIndexArr_nat _ _ _ _ κ) s s0
      · rfl
    · rfl
  case index t x i =>
    split
    · exact leaf (fun κ => aIndexStr (ρ x) (ρ i) κ) (fun κ => aIndexStr_nat _ _ κ) s s0
    · split
      · exact leaf (fun κ => aIndexAgg _ _ _ (ρ x) (ρ i) κ) (fun κ => aIndexAgg_nat _ _ _ _ _ κ) s s0
      · rfl
    · rfl
  case extract x i => exact leaf (fun κ => aExtract i (ρ x) κ) (fun κ => aExtract_nat _ _ κ) s s0
  case call c =>
    generalize c.args.toList.map ρ = xs
    generalize c.argTypes.toList = ts at hp ⊢
    split at hp
    · rename_i hc
      rw [hc]
      simp only
      cases ts with
      | nil => simp at hp
      | cons t tr =>
        simp only [List.head?_cons, Option.bind_some] at hp
        cases xs with
        | nil => simp [aBuiltin]
        | cons x xr =>
          simp only [aBuiltin]
          split
          · exact leaf (fun κ => aLenStr x κ) (fun κ => aLenStr_nat _ κ) s s0
          · exact leaf (fun κ => aLen x κ) (fun κ => aLen_nat _ κ) s s0
          · rfl
          · rename_i hu; rw [hu] at hp; simp at hp
          · rfl
    · rename_i hc
      rw [hc]
      simp only
      cases xs with
      | nil => simp [aBuiltin]
      | cons x xr => simp only [aBuiltin]; exact leaf (fun κ => aMaxL x xr κ) (fun κ => aMaxL_nat _ _ κ) s s0
    · rename_i hc
      rw [hc]
      simp only
      cases xs with
      | nil => simp [aBuiltin]
      | cons x xr => simp only [aBuiltin]; exact leaf (fun κ => aMinL x xr κ) (fun κ => aMinL_nat _ _ κ) s s0
    · cases hp

theorem pure_step {ρ : Operand → AV} {o : Oper} {v : AV} {s s' : Store} (hp : opPure P o.op = true) (h : aop P call ρ o s pairK = some (v, s')) : s' = s ∧ ∀ s2, aop P call ρ o s2 pairK = some (v, s2) := by
  rw [pure_nat hp s s] at h
  cases hC : (aop P call ρ o s pairK).map (·.1) with
  | none => rw [hC] at h; cases h
  | some u =>
    rw [hC] at h
    simp only [Option.bind_some, pairK, Option.some.injEq, Prod.mk.injEq] at h
    exact ⟨h.2.symm, fun s2 => by rw [pure_nat hp s2 s, hC, Option.bind_some, h.1]; rfl⟩

/-- A reader leaves the store. -/
theorem read_step {ρ : Operand → AV} {o : Oper} {v : AV} {s s' : Store} (hp : opRead P o.op = true) (h : aop P call ρ o s pairK = some (v, s')) : s' = s := by
  have fin : ∀ {C : Option AV}, (C.bind fun v => pairK v s) = some (v, s') → s' = s := fun h => by
    rename_i C
    cases C with
    | none => cases h
    | some u =>
      simp only [Option.bind_some, pairK, Option.some.injEq, Prod.mk.injEq] at h
      exact h.2.symm
  unfold aop at h
  cases hop : o.op <;> rw [hop] at hp h <;> simp only [opRead, Bool.false_eq_true] at hp <;> try simp only at h
  case load t a =>
    split at h
    · rw [aLoadN_nat] at h; exact fin h
    · rw [aLoad1_nat] at h; exact fin h
    · cases h
  case lookup t m k ok =>
    split at h
    · split at h
      · split at h
        · rw [aLookup_nat] at h; exact fin h
        · cases h
      · cases h
    · cases h
  case convert src dst x =>
    split at h
    · rename_i h1 h2; rw [h1, h2] at hp; simp at hp
    · rename_i h1 h2; rw [h1, h2] at hp; simp at hp
    · rename_i h1 h2; rw [h1, h2] at hp; simp at hp
    · split at h
      · rw [aStrOf_nat] at h; exact fin h
      · cases h
    · rename_i h1 h2; rw [h1, h2] at hp; simp at hp
    · cases h
  case call c =>
    generalize c.args.toList.map ρ = xs at h
    generalize c.argTypes.toList = ts at hp h
    split at hp
    · rename_i hc
      rw [hc] at h
      simp only at h
      cases ts with
      | nil => simp at hp
      | cons t tr =>
        simp only [List.head?_cons, Option.bind_some] at hp
        cases xs with
        | nil => simp [aBuiltin] at h
        | cons x xr =>
          simp only [aBuiltin] at h
          split at h
          · rename_i hu; rw [hu] at hp; simp at hp
          · rename_i hu; rw [hu] at hp; simp at hp
          · rename_i hu; rw [hu] at hp; simp at hp
          · rw [aLenMap_nat] at h; exact fin h
          · cases h
    · cases hp

/-! ### operands -/
theorem parts_congr {pl : Nat → Option (Nat × Nat)} {ρ ρ' : Operand → AV} : ∀ (l : List (Nat × Operand)), (∀ p ∈ l, ρ p.2 = ρ' p.2) → partsOf pl ρ l = partsOf pl ρ' l
  | [], _ => rfl
  | p :: l, h => by
    simp only [partsOf]
    rw [parts_congr l (fun q hq => h q (List.mem_cons_of_mem _ hq)), h p List.mem_cons_self]

theorem aop_congr {α : Type} {ρ ρ' : Operand → AV} {κ : AV → Store → Option α} (o : Oper) (h : ∀ x ∈ o.op.operands, ρ x = ρ' x) : aop P call ρ o s κ = aop P call ρ' o s κ := by
  unfold aop
  cases hop : o.op <;> rw [hop] at h <;> simp only [Op.operands] at h <;> try simp only
  case build t ps =>
    have : ∀ pl, partsOf pl ρ ps.toList = partsOf pl ρ' ps.toList := fun pl => parts_congr _ fun p hp => h p.2 (by simpa using ⟨p.1, by simpa using hp⟩)
    simp only [this]
  case buildSlice t n ps =>
    have : ∀ c : Nat, (ps.toList.map fun p => (p.1 * c, c, ρ p.2)) = (ps.toList.map fun p => (p.1 * c, c, ρ' p.2)) := fun c => List.map_congr_left fun p hp => by rw [h p.2 (by simpa using ⟨p.1, by simpa using hp⟩)]
    simp only [this]
  case makeFunc fn first cap =>
    have e1 : first.toList.map ρ = first.toList.map ρ' := List.map_congr_left fun x hx => h x (by simp; exact .inl (by simpa using hx))
    have e2 : cap.toList.map ρ = cap.toList.map ρ' := List.map_congr_left fun x hx => h x (by simp; exact .inr (by simpa using hx))
    cases fn <;> simp only [e1, e2]
  case call c =>
    have e1 : c.args.toList.map ρ = c.args.toList.map ρ' := List.map_congr_left fun x hx => h x (by simp [Call.operands]; exact .inr (by simpa using hx))
    rw [e1]
    cases hc : c.callee with
    | value f => have : ρ f = ρ' f := h f (by simp [Call.operands, hc]); simp only [this]
    | builtin b => rfl
    | invoke a b => have : ρ a = ρ' a := h a (by simp [Call.operands, hc]); simp only [this]
  case slice t x lo hi mx =>
    cases lo <;> cases hi <;> cases mx <;> simp_all
  case makeMap t r => cases r <;> rfl
  all_goals first | rfl | (simp_all; done) | (rename_i a1 a2 a3 a4; cases a4 <;> simp_all; done) | skip
end
end Go.Proofs.YtjbgdpfkmcibbaaGreatDoor.Sim
