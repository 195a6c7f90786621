/- Layer 23: orders in the store: what they are; queues; new ones. No condition. -/
import Derived.Test.YtmaidlndikcgkaaB23A
namespace Go.Proofs.Ytmaidlndikcgkaa.Sim
set_option linter.unusedSimpArgs false
set_option linter.unusedVariables false

/-- A slice of a thing's own, of whose row a front may have been taken off. -/
def Que {β : Type} (c : β → List AV) (es : Nat) (s : Store) (τ : Nat → Nat) (t : Nat) (v : AV) (l : List β) : Prop := (v = .nilsl ∧ l = []) ∨ ∃ (r : Nat) (pre : List β), v = .sl r (pre.length * es) l.length es ((pre ++ l).length * es) ∧ r < s.next ∧ τ r = t ∧ s.get r = .cells ((pre ++ l).map c).flatten false
section
variable {β : Type} {c : β → List AV} {es : Nat} {s s' : Store} {τ τ' : Nat → Nat} {t : Nat} {v : AV} {l : List β}
theorem Que.len (h : Que c es s τ t v l) {α : Type} (f : AV → Option α) : aLen v f = f (.int .i64 l.length) := by
  rcases h with ⟨rfl, rfl⟩ | ⟨r, pre, rfl, _⟩ <;> rfl
theorem Que.cell (h : Que c es s τ t v l) {α : Type} (f : List AV → Option α) : aCells v f = f [v] := by
  rcases h with ⟨rfl, rfl⟩ | ⟨r, pre, rfl, _⟩ <;> rfl
theorem Que.keep (h : Que c es s τ t v l) (hn : s.next ≤ s'.next) (hg : ∀ r, r < s.next → τ r = t → s'.get r = s.get r) (ht : ∀ r, r < s.next → τ' r = τ r) : Que c es s' τ' t v l := by
  rcases h with h | ⟨r, pre, h1, h2, h3, h4⟩
  · exact .inl h
  · exact .inr ⟨r, pre, h1, Nat.lt_of_lt_of_le h2 hn, (ht r h2).trans h3, (hg r h2 h3).trans h4⟩
/-- The first of it: where it lies. -/
theorem Que.head {x : β} (hc : ∀ x, (c x).length = es) (h : Que c es s τ t v (x :: l)) : ∃ r pre, v = .sl r (pre.length * es) (l.length + 1) es ((pre ++ x :: l).length * es) ∧ r < s.next ∧ τ r = t ∧ s.get r = .cells ((pre ++ x :: l).map c).flatten false ∧
    (∀ {α : Type} (k : IntKind) (f : AV → Option α), aIndexSl es v (.int k 0) f = f (.ptr r (0 + pre.length * es) ((pre ++ x :: l).length * es))) ∧
    (∀ {α : Type} (f : AV → Option α), aLoadN es (.ptr r (0 + pre.length * es) ((pre ++ x :: l).length * es)) s f = f (.agg (c x))) ∧
    (∀ {α : Type} (f : AV → Option α), aSliceSl es v (some (.int .i64 1)) none f = f (.sl r ((pre ++ [x]).length * es) l.length es ((pre ++ x :: l).length * es))) := by
  rcases h with ⟨_, h⟩ | ⟨r, pre, rfl, h2, h3, h4⟩
  · cases h
  · have hi : pre.length < (pre ++ x :: l).length := by simp
    refine ⟨r, pre, rfl, h2, h3, h4, fun k f => ?_, fun f => ?_, fun f => ?_⟩
    · simp [aIndexSl]
    · rw [loadL hc h4 pre.length hi]
      simp
    · simp only [aSliceSl, aNum]
      rw [if_pos ⟨trivial, by omega, by simp; omega, by simp⟩]
      simp [Nat.succ_mul]
theorem Que.tail {x : β} (h : Que c es s τ t v (x :: l)) {r : Nat} {pre : List β} (hv : v = .sl r (pre.length * es) (l.length + 1) es ((pre ++ x :: l).length * es)) (h2 : r < s.next) (h3 : τ r = t) (h4 : s.get r = .cells ((pre ++ x :: l).map c).flatten false) :
    Que c es s τ t (.sl r ((pre ++ [x]).length * es) l.length es ((pre ++ x :: l).length * es)) l :=
  .inr ⟨r, pre ++ [x], by simp, h2, h3, by rw [h4]; simp⟩

/-- More behind it. -/
theorem Que.app {bytes : Nat} (hc : ∀ x, (c x).length = es) (he : 0 < es) (hby : 0 < bytes) (h : Que c es s τ t v l) {y : AV} {l2 : List β} (hy : IsL c es s y l2) (hb : (l.length + l2.length) * bytes ≤ 140737488355328) (hfr : ∀ r, s.next ≤ r → τ r = 0) :
    ∃ v' s' τ', (∀ {α : Type} (f : AV → Store → Option α), aAppend es bytes v y s f = f v' s') ∧ Que c es s' τ' t v' (l ++ l2) ∧ s.next ≤ s'.next ∧ (∀ r, r < s.next → τ r ≠ t → s'.get r = s.get r) ∧ (∀ r, r < s.next → τ' r = τ r) ∧ (∀ r, s'.next ≤ r → τ' r = 0) ∧ (∀ r, s.next ≤ r → τ' r ≠ 0 → τ' r = t) := by
  have hcells : ∀ {α : Type} (f : Nat → List AV → Option α), aCellsOf es y s f = f l2.length (l2.map c).flatten := fun f => by
    rcases hy with ⟨rfl, rfl⟩ | ⟨id, ro, rfl, _, h3⟩
    · rfl
    · have hl := flatL_len hc l2
      simp [aCellsOf, aRow, h3, hl, List.take_of_length_le]
  rcases h with ⟨rfl, rfl⟩ | ⟨r, pre, rfl, h2, h3, h4⟩
  · by_cases h0 : l2 = []
    · subst h0
      exact ⟨.nilsl, s, τ, fun f => by simp [aAppend, hcells], .inl ⟨rfl, rfl⟩, Nat.le_refl _, fun _ _ _ => rfl, fun _ _ => rfl, hfr, fun r hr h => absurd (hfr r hr) h⟩
    · have hl : l2.length ≠ 0 := fun q => h0 (List.length_eq_zero_iff.1 q)
      refine ⟨.sl s.next 0 l2.length es (l2.length * es), s.push (.cells (l2.map c).flatten false), fun r => if r = s.next then t else τ r, fun f => ?_, .inr ⟨s.next, [], by simp, Nat.lt_succ_self _, if_pos rfl, by rw [get_push, if_pos rfl]; rfl⟩, Nat.le_succ _, fun r hr _ => by rw [get_push, if_neg (by omega)], fun r hr => if_neg (by omega), fun r hr => ?_, fun r hr h => ?_⟩
      · simp only [aAppend, hcells]
        rw [if_neg hl, if_pos ⟨by simpa using hb, hby⟩]
      · have hr : s.next + 1 ≤ r := hr
        simp only [if_neg (show ¬ r = s.next by omega)]
        exact hfr r (by omega)
      · by_cases e : r = s.next
        · simp only [if_pos e]
        · simp only [if_neg e] at h
          exact absurd (hfr r hr) h
  · have hl1 := flatL_len hc (pre ++ l)
    by_cases h0 : l2 = []
    · subst h0
      exact ⟨.sl r (pre.length * es) l.length es ((pre ++ l).length * es), s, τ, fun f => by simp only [aAppend, hcells, aOwn, h4, hl1, if_true, List.length_nil, eq_self], .inr ⟨r, pre, by rw [List.append_nil], h2, h3, by rw [List.append_nil]; exact h4⟩, Nat.le_refl _, fun _ _ _ => rfl, fun _ _ => rfl, hfr, fun r hr h => absurd (hfr r hr) h⟩
    · have hl : l2.length ≠ 0 := fun q => h0 (List.length_eq_zero_iff.1 q)
      refine ⟨.sl r (pre.length * es) (l ++ l2).length es ((pre ++ (l ++ l2)).length * es), s.set r (.cells ((pre ++ (l ++ l2)).map c).flatten false), τ, fun f => ?_, .inr ⟨r, pre, rfl, h2, h3, by rw [get_set, if_pos rfl]⟩, Nat.le_refl _, fun q hq hne => by rw [get_set, if_neg (fun e => hne (by rw [e]; exact h3))], fun _ _ => rfl, hfr, fun r hr h => absurd (hfr r hr) h⟩
      simp only [aAppend, hcells, if_true, aOwn, h4, hl1]
      rw [if_neg hl, if_pos ⟨by simp [Nat.add_mul], hb, he, hby⟩]
      congr 1
      · simp [Nat.add_mul, Nat.add_assoc]
      · simp
end

theorem ld_fld {s : Store} {id j ep : Nat} {cs : List AV} {ro : Bool} (h : s.get id = .cells cs ro) (hc : cs.length = ep) {v : AV} (hv : cs[j]? = some v) {α : Type} (f : AV → Option α) : aLoad1 (.ptr id (0 + j) ep) s f = f v := load_1 h hc (by rw [Nat.zero_add]; exact hv)
theorem st_fld {s : Store} {id j ep : Nat} {cs : List AV} {v : AV} (h : s.get id = .cells cs false) (hc : cs.length = ep) (hj : j < ep) (hv : ∀ {α : Type} (f : List AV → Option α), aCells v f = f [v]) {α : Type} (f : Store → Option α) : aStore 1 (.ptr id (0 + j) ep) v s f = f (s.set id (.cells (cs.set j v) false)) := by
  simp only [aStore, hv, aOwn, h, hc, if_true, Nat.zero_add, List.length_cons, List.length_nil, true_and]
  rw [if_pos (by omega)]
  rfl

def wcells (x : Nat × Nat) : List AV := [.int .u64 (x.1 : Int), .int .i64 (x.2 : Int)]
theorem wc_len (x : Nat × Nat) : (wcells x).length = 2 := rfl
/-- Runs whose row is tagged. -/
def RunsT (s : Store) (τ : Nat → Nat) (v : AV) (l : List Rn) : Prop := (v = .nilsl ∧ l = []) ∨ ∃ (id : Nat) (ro : Bool), v = .sl id 0 l.length 3 (l.length * 3) ∧ id < s.next ∧ τ id = 7 ∧ s.get id = .cells (l.map rcells).flatten ro
theorem RunsT.is {s : Store} {τ : Nat → Nat} {v : AV} {l : List Rn} (h : RunsT s τ v l) : IsRuns s v l := by
  rcases h with h | ⟨id, ro, h1, h2, _, h3⟩
  · exact .inl h
  · exact .inr ⟨id, ro, h1, h2, h3⟩
/-- What is kept, by instance. -/
def KeptR (s : Store) (τ : Nat → Nat) : List (AV × AV) → Nat → List (List Rn) → Prop
  | [], _, [] => True
  | (k, v) :: es, i, l :: L => k = .int .u64 (i : Int) ∧ RunsT s τ v l ∧ KeptR s τ es (i + 1) L
  | _, _, _ => False
theorem KeptR.len {s : Store} {τ : Nat → Nat} : ∀ {es : List (AV × AV)} {i : Nat} {L : List (List Rn)}, KeptR s τ es i L → es.length = L.length
  | [], _, [], _ => rfl
  | (k, v) :: es, i, l :: L, h => by simp [KeptR.len h.2.2]
  | [], _, _ :: _, h => h.elim
  | _ :: _, _, [], h => h.elim
theorem KeptR.keep {s s' : Store} {τ τ' : Nat → Nat} (hn : s.next ≤ s'.next) (hg : ∀ r, r < s.next → τ r = 7 → s'.get r = s.get r) (ht : ∀ r, r < s.next → τ' r = τ r) : ∀ {es : List (AV × AV)} {i : Nat} {L : List (List Rn)}, KeptR s τ es i L → KeptR s' τ' es i L
  | [], _, [], _ => trivial
  | (k, v) :: es, i, l :: L, h => by
    refine ⟨h.1, ?_, KeptR.keep hn hg ht h.2.2⟩
    rcases h.2.1 with q | ⟨id, ro, h1, h2, h3, h4⟩
    · exact .inl q
    · exact .inr ⟨id, ro, h1, Nat.lt_of_lt_of_le h2 hn, (ht id h2).trans h3, (hg id h2 h3).trans h4⟩
  | [], _, _ :: _, h => h.elim
  | _ :: _, _, [], h => h.elim
theorem KeptR.snoc {s : Store} {τ : Nat → Nat} {v : AV} {l : List Rn} (hv : RunsT s τ v l) : ∀ {es : List (AV × AV)} {i : Nat} {L : List (List Rn)}, KeptR s τ es i L → KeptR s τ (es ++ [(.int .u64 ((i + L.length : Nat) : Int), v)]) i (L ++ [l])
  | [], i, [], _ => ⟨rfl, hv, trivial⟩
  | (k, v') :: es, i, l' :: L, h => by
    refine ⟨h.1, h.2.1, ?_⟩
    have := KeptR.snoc hv h.2.2
    rw [show i + 1 + L.length = i + (l' :: L).length by simp; omega] at this
    exact this
  | [], _, _ :: _, h => h.elim
  | _ :: _, _, [], h => h.elim
/-- An instance that is kept, one that isn't. -/
theorem KeptR.find {s : Store} {τ : Nat → Nat} (x : Nat) : ∀ {es : List (AV × AV)} {i : Nat} {L : List (List Rn)} (j : Nat), KeptR s τ es i L →
    (∀ h : i ≤ x ∧ x - i < L.length, ∃ v, findAt (.int .u64 (x : Int)) es j = some (some (j + (x - i), v)) ∧ RunsT s τ v L[x - i]) ∧ (¬ (i ≤ x ∧ x - i < L.length) → findAt (.int .u64 (x : Int)) es j = some none)
  | [], i, [], j, _ => ⟨fun h => absurd h.2 (Nat.not_lt_zero _), fun _ => rfl⟩
  | (k, v) :: es, i, l :: L, j, h => by
    obtain ⟨rfl, hv, hk⟩ := h
    obtain ⟨h1, h2⟩ := KeptR.find x (j + 1) hk
    have hf : findAt (.int .u64 (x : Int)) ((AV.int .u64 (i : Int), v) :: es) j = if x = i then some (some (j, v)) else findAt (.int .u64 (x : Int)) es (j + 1) := by
      simp only [findAt, keyEq, if_true]
      by_cases e : x = i
      · subst e; simp
      · rw [if_neg e, show ((x : Int) == (i : Int)) = false from beq_eq_false_iff_ne.2 (by omega)]
    rw [hf]
    by_cases e : x = i
    · subst e
      refine ⟨fun _ => ⟨v, by simp, by simpa using hv⟩, fun q => absurd ⟨Nat.le_refl _, by simp⟩ q⟩
    · rw [if_neg e]
      refine ⟨fun q => ?_, fun q => h2 fun z => q ⟨by omega, by simp; omega⟩⟩
      have hlt : x - (i + 1) < L.length := by have := q.2; simp at this; omega
      obtain ⟨v', g1, g2⟩ := h1 ⟨by omega, hlt⟩
      refine ⟨v', by rw [g1]; congr 3; omega, ?_⟩
      have e2 : (l :: L)[x - i]'q.2 = L[x - (i + 1)] := by
        have : x - i = (x - (i + 1)) + 1 := by omega
        simp only [this, List.getElem_cons_succ]
      rw [e2]; exact g2
  | [], _, _ :: _, _, h => h.elim
  | _ :: _, _, [], _, h => h.elim

structure ORows where
  ro : Nat
  rd : Nat
  m : Nat
  vi : AV
  vw : AV
  es : List (AV × AV)

def ocells (R : ORows) (n : Nat) (L : List (List Rn)) (d f : Nat) : List AV := [.sl R.ro 0 n 1 n, .sl R.rd 0 n 1 n, .int .u64 (L.length : Nat), .int .u64 (wholeN L d : Nat), R.vi, R.vw, .map R.m, .int .u64 ((f + 1 : Nat) : Int)]
/-- Orders in the store: what was decided, how far it is delivered, how much of it is forgotten. -/
structure IsO (s : Store) (τ : Nat → Nat) (id n : Nat) (L : List (List Rn)) (d f : Nat) (R : ORows) : Prop where
  ok : OkL n L
  n1 : 1 ≤ n ∧ n ≤ 64
  dle : d ≤ (idsOf L).length
  fle : f ≤ L.length
  st : s.get id = .cells (ocells R n L d f) false
  ord : s.get R.ro = .cells ((baseOf n L).map (.int .u64)) false
  don : s.get R.rd = .cells ((doneOf n L d).map (.int .u64)) false
  ids : Que icells 2 s τ 4 R.vi ((idsOf L).drop d)
  wts : Que wcells 2 s τ 5 R.vw (waitsOf 1 L d)
  map : s.get R.m = .map R.es
  kept : KeptR s τ R.es (f + 1) (L.drop f)
  lt : id < s.next ∧ R.ro < s.next ∧ R.rd < s.next ∧ R.m < s.next
  tag : τ id = 1 ∧ τ R.ro = 2 ∧ τ R.rd = 3 ∧ τ R.m = 6
  fresh : ∀ l, s.next ≤ l → τ l = 0
/-- Rows that are not its own stay. -/
structure FrT (τ : Nat → Nat) (s s' : Store) : Prop where
  next : s.next ≤ s'.next
  get : ∀ l, l < s.next → τ l = 0 → s'.get l = s.get l
theorem FrT.refl (τ : Nat → Nat) (s : Store) : FrT τ s s := ⟨Nat.le_refl _, fun _ _ _ => rfl⟩
theorem FrT.trans {τ τ' : Nat → Nat} {s s' s'' : Store} (h : FrT τ s s') (k : FrT τ' s' s'') (ht : ∀ r, r < s.next → τ' r = τ r) : FrT τ s s'' :=
  ⟨Nat.le_trans h.next k.next, fun l hl h0 => (k.get l (Nat.lt_of_lt_of_le hl h.next) ((ht l hl).trans h0)).trans (h.get l hl h0)⟩
theorem Ext.frT {s s' : Store} (h : Ext s s') (τ : Nat → Nat) : FrT τ s s' := ⟨h.next, fun l hl _ => h.get l hl⟩

section
variable {s s' : Store} {τ : Nat → Nat} {id n d f : Nat} {L : List (List Rn)} {R : ORows}
/-- Where its rows stay it stays. -/
theorem IsO.keep (h : IsO s τ id n L d f R) (hn : s.next ≤ s'.next) (hg : ∀ r, r < s.next → τ r ≠ 0 → s'.get r = s.get r) : IsO s' τ id n L d f R := by
  obtain ⟨l1, l2, l3, l4⟩ := h.lt
  obtain ⟨t1, t2, t3, t4⟩ := h.tag
  exact ⟨h.ok, h.n1, h.dle, h.fle, (hg _ l1 (by omega)).trans h.st, (hg _ l2 (by omega)).trans h.ord, (hg _ l3 (by omega)).trans h.don, h.ids.keep hn (fun r hr ht => hg r hr (by omega)) (fun _ _ => rfl), h.wts.keep hn (fun r hr ht => hg r hr (by omega)) (fun _ _ => rfl),
    (hg _ l4 (by omega)).trans h.map, h.kept.keep hn (fun r hr ht => hg r hr (by omega)) (fun _ _ => rfl), ⟨by omega, by omega, by omega, by omega⟩, h.tag, fun l hl => h.fresh l (by omega)⟩
theorem IsO.ext (h : IsO s τ id n L d f R) (e : Ext s s') : IsO s' τ id n L d f R := h.keep e.next fun r hr _ => e.get r hr
theorem ids_le (h : OkL n L) : (idsOf L).length ≤ 4096 * L.length := by
  induction h with
  | nil => simp [idsOf]
  | snoc h hw hm ih => rw [idsOf_app]; have := (order_len hm).2.2; simp; omega

theorem IsO.base (h : IsO s τ id n L d f R) : IsSl s (.sl R.ro 0 n 1 n) .u64 (baseOf n L) := .inr ⟨R.ro, false, by rw [baseOf_len], h.lt.2.1, h.ord⟩
theorem IsO.dons (h : IsO s τ id n L d f R) : IsSl s (.sl R.rd 0 n 1 n) .u64 (doneOf n L d) := .inr ⟨R.rd, false, by rw [doneOf_len], h.lt.2.2.1, h.don⟩

theorem IsO.fld (h : IsO s τ id n L d f R) {j : Nat} {v : AV} (hv : (ocells R n L d f)[j]? = some v) {α : Type} (g : AV → Option α) : aLoad1 (.ptr id (0 + j) 8) s g = g v := ld_fld h.st rfl hv g
end
end Go.Proofs.Ytmaidlndikcgkaa.Sim
