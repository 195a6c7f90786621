/- The texts B23A, B23B, B23C, B23D, B23E, B22A, one behind the other. No condition. -/
import Derived.Test.YtmaidlndikcgkaaB05P
namespace Go.Proofs.Ytmaidlndikcgkaa.Sim
set_option linter.unusedSimpArgs false
set_option linter.unusedVariables false

def baseOf (n : Nat) (L : List (List Rn)) : List Int := L.foldl afterR (List.replicate n 0)
def idsOf (L : List (List Rn)) : List Idn := (L.map orderR).flatten
/-- Batches, each of which may be on what those ahead of it come to. -/
inductive OkL (n : Nat) : List (List Rn) → Prop
  | nil : OkL n []
  | snoc {L : List (List Rn)} {l : List Rn} (h : OkL n L) (hw : ∀ r ∈ l, WfR r) (hm : mayR (baseOf n L) 4096 l = true) : OkL n (L ++ [l])

theorem baseOf_app (n : Nat) (L : List (List Rn)) (l : List Rn) : baseOf n (L ++ [l]) = afterR (baseOf n L) l := by simp [baseOf]
theorem baseOf_len (n : Nat) (L : List (List Rn)) : (baseOf n L).length = n := by
  have : ∀ (L : List (List Rn)) (b : List Int), (L.foldl afterR b).length = b.length := by
    intro L
    induction L with
    | nil => intro b; rfl
    | cons l L ih => intro b; rw [List.foldl_cons, ih, afterR_len]
  unfold baseOf
  rw [this]; simp
theorem U_zero (n : Nat) : U (List.replicate n 0) := fun x hx => by
  rw [(List.mem_replicate.1 hx).2]; omega
theorem U_after {b : List Int} {l : List Rn} (hb : U b) (hw : ∀ r ∈ l, WfR r) : U (afterR b l) := by
  unfold afterR
  split
  · rename_i h
    exact foldR_U (by omega) hw (mayR_from h) hb
  · exact hb
theorem OkL.u {n : Nat} {L : List (List Rn)} (h : OkL n L) : U (baseOf n L) := by
  induction h with
  | nil => exact U_zero n
  | snoc h hw hm ih => rw [baseOf_app]; exact U_after ih hw
theorem OkL.wf {n : Nat} {L : List (List Rn)} (h : OkL n L) : ∀ l ∈ L, ∀ r ∈ l, WfR r := by
  induction h with
  | nil => intro l hl; simp at hl
  | snoc h hw hm ih =>
    intro l hl
    rcases List.mem_append.1 hl with q | q
    · exact ih l q
    · rw [List.mem_singleton.1 q]; exact hw
theorem OkL.ids {n : Nat} {L : List (List Rn)} (h : OkL n L) : ∀ x ∈ idsOf L, (0 ≤ x.1 ∧ x.1 < 256) ∧ (0 ≤ x.2 ∧ x.2 < 18446744073709551616) := by
  intro x hx
  obtain ⟨l, hl, hx⟩ := List.mem_flatten.1 hx
  obtain ⟨l', hl', rfl⟩ := List.mem_map.1 hl
  exact orderR_wf (h.wf l' hl') x hx

/-- What is delivered: the last number of each sender. -/
def dset (b : List Int) (x : Idn) : List Int := b.set x.1.toNat x.2
def doneOf (n : Nat) (L : List (List Rn)) (d : Nat) : List Int := ((idsOf L).take d).foldl dset (List.replicate n 0)
section
variable {n : Nat} {L : List (List Rn)} {d : Nat}
end

/-- Which batches are not wholly delivered: the instance, how many ids are left. -/
def waitsOf : Nat → List (List Rn) → Nat → List (Nat × Nat)
  | _, [], _ => []
  | i, l :: L, d => if (orderR l).length ≤ d then waitsOf (i + 1) L (d - (orderR l).length) else (i, (orderR l).length - d) :: waitsOf (i + 1) L 0
def wholeN : List (List Rn) → Nat → Nat
  | [], _ => 0
  | l :: L, d => if (orderR l).length ≤ d then wholeN L (d - (orderR l).length) + 1 else 0
end Go.Proofs.Ytmaidlndikcgkaa.Sim
namespace Go.Proofs.Ytmaidlndikcgkaa.Sim
set_option linter.unusedSimpArgs false
set_option linter.unusedVariables false

/-- A slice of a thing's own, of whose row a front may have been taken off. -/
def Que {β : Type} (c : β → List AV) (es : Nat) (s : Store) (τ : Nat → Nat) (t : Nat) (v : AV) (l : List β) : Prop := (v = .nilsl ∧ l = []) ∨ ∃ (r : Nat) (pre : List β), v = .sl r (pre.length * es) l.length es ((pre ++ l).length * es) ∧ r < s.next ∧ τ r = t ∧ s.get r = .cells ((pre ++ l).map c).flatten false
section
variable {β : Type} {c : β → List AV} {es : Nat} {s s' : Store} {τ τ' : Nat → Nat} {t : Nat} {v : AV} {l : List β}
theorem Que.len (h : Que c es s τ t v l) {α : Type} (f : AV → Option α) : aLen v f = f (.int .i64 l.length) := by
  rcases h with ⟨rfl, rfl⟩ | ⟨r, pre, rfl, _⟩ <;> rfl
theorem Que.cell (h : Que c es s τ t v l) {α : Type} (f : List AV → Option α) : aCells v f = f [v] := by
  rcases h with ⟨rfl, rfl⟩ | ⟨r, pre, rfl, _⟩ <;> rfl
theorem Que.keep (h : Que c es s τ t v l) (hn : s.next ≤ s'.next) (hg : ∀ r, r < s.next → τ r = t → s'.get r = s.get r) (ht : ∀ r, r < s.next → τ' r = τ r) : Que c es s' τ' t v l := by
  rcases h with h | ⟨r, pre, h1, h2, h3, h4⟩
  · exact .inl h
  · exact .inr ⟨r, pre, h1, Nat.lt_of_lt_of_le h2 hn, (ht r h2).trans h3, (hg r h2 h3).trans h4⟩
/-- The first of it: where it lies. -/
theorem Que.head {x : β} (hc : ∀ x, (c x).length = es) (h : Que c es s τ t v (x :: l)) : ∃ r pre, v = .sl r (pre.length * es) (l.length + 1) es ((pre ++ x :: l).length * es) ∧ r < s.next ∧ τ r = t ∧ s.get r = .cells ((pre ++ x :: l).map c).flatten false ∧
    (∀ {α : Type} (k : IntKind) (f : AV → Option α), aIndexSl es v (.int k 0) f = f (.ptr r (0 + pre.length * es) ((pre ++ x :: l).length * es))) ∧
    (∀ {α : Type} (f : AV → Option α), aLoadN es (.ptr r (0 + pre.length * es) ((pre ++ x :: l).length * es)) s f = f (.agg (c x))) ∧
    (∀ {α : Type} (f : AV → Option α), aSliceSl es v (some (.int .i64 1)) none f = f (.sl r ((pre ++ [x]).length * es) l.length es ((pre ++ x :: l).length * es))) := by
  rcases h with ⟨_, h⟩ | ⟨r, pre, rfl, h2, h3, h4⟩
  · cases h
  · have hi : pre.length < (pre ++ x :: l).length := by simp
    refine ⟨r, pre, rfl, h2, h3, h4, fun k f => ?_, fun f => ?_, fun f => ?_⟩
    · simp [aIndexSl]
    · rw [loadL hc h4 pre.length hi]
      simp
    · simp only [aSliceSl, aNum]
      rw [if_pos ⟨trivial, by omega, by simp; omega, by simp⟩]
      simp [Nat.succ_mul]
end

theorem ld_fld {s : Store} {id j ep : Nat} {cs : List AV} {ro : Bool} (h : s.get id = .cells cs ro) (hc : cs.length = ep) {v : AV} (hv : cs[j]? = some v) {α : Type} (f : AV → Option α) : aLoad1 (.ptr id (0 + j) ep) s f = f v := load_1 h hc (by rw [Nat.zero_add]; exact hv)
theorem st_fld {s : Store} {id j ep : Nat} {cs : List AV} {v : AV} (h : s.get id = .cells cs false) (hc : cs.length = ep) (hj : j < ep) (hv : ∀ {α : Type} (f : List AV → Option α), aCells v f = f [v]) {α : Type} (f : Store → Option α) : aStore 1 (.ptr id (0 + j) ep) v s f = f (s.set id (.cells (cs.set j v) false)) := by
  simp only [aStore, hv, aOwn, h, hc, if_true, Nat.zero_add, List.length_cons, List.length_nil, true_and]
  rw [if_pos (by omega)]
  rfl

def wcells (x : Nat × Nat) : List AV := [.int .u64 (x.1 : Int), .int .i64 (x.2 : Int)]
/-- Runs whose row is tagged. -/
def RunsT (s : Store) (τ : Nat → Nat) (v : AV) (l : List Rn) : Prop := (v = .nilsl ∧ l = []) ∨ ∃ (id : Nat) (ro : Bool), v = .sl id 0 l.length 3 (l.length * 3) ∧ id < s.next ∧ τ id = 7 ∧ s.get id = .cells (l.map rcells).flatten ro
theorem RunsT.is {s : Store} {τ : Nat → Nat} {v : AV} {l : List Rn} (h : RunsT s τ v l) : IsRuns s v l := by
  rcases h with h | ⟨id, ro, h1, h2, _, h3⟩
  · exact .inl h
  · exact .inr ⟨id, ro, h1, h2, h3⟩
/-- What is kept, by instance. -/
def KeptR (s : Store) (τ : Nat → Nat) : List (AV × AV) → Nat → List (List Rn) → Prop
  | [], _, [] => True
  | (k, v) :: es, i, l :: L => k = .int .u64 (i : Int) ∧ RunsT s τ v l ∧ KeptR s τ es (i + 1) L
  | _, _, _ => False
theorem KeptR.len {s : Store} {τ : Nat → Nat} : ∀ {es : List (AV × AV)} {i : Nat} {L : List (List Rn)}, KeptR s τ es i L → es.length = L.length
  | [], _, [], _ => rfl
  | (k, v) :: es, i, l :: L, h => by simp [KeptR.len h.2.2]
  | [], _, _ :: _, h => h.elim
  | _ :: _, _, [], h => h.elim
theorem KeptR.keep {s s' : Store} {τ τ' : Nat → Nat} (hn : s.next ≤ s'.next) (hg : ∀ r, r < s.next → τ r = 7 → s'.get r = s.get r) (ht : ∀ r, r < s.next → τ' r = τ r) : ∀ {es : List (AV × AV)} {i : Nat} {L : List (List Rn)}, KeptR s τ es i L → KeptR s' τ' es i L
  | [], _, [], _ => trivial
  | (k, v) :: es, i, l :: L, h => by
    refine ⟨h.1, ?_, KeptR.keep hn hg ht h.2.2⟩
    rcases h.2.1 with q | ⟨id, ro, h1, h2, h3, h4⟩
    · exact .inl q
    · exact .inr ⟨id, ro, h1, Nat.lt_of_lt_of_le h2 hn, (ht id h2).trans h3, (hg id h2 h3).trans h4⟩
  | [], _, _ :: _, h => h.elim
  | _ :: _, _, [], h => h.elim
theorem KeptR.snoc {s : Store} {τ : Nat → Nat} {v : AV} {l : List Rn} (hv : RunsT s τ v l) : ∀ {es : List (AV × AV)} {i : Nat} {L : List (List Rn)}, KeptR s τ es i L → KeptR s τ (es ++ [(.int .u64 ((i + L.length : Nat) : Int), v)]) i (L ++ [l])
  | [], i, [], _ => ⟨rfl, hv, trivial⟩
  | (k, v') :: es, i, l' :: L, h => by
    refine ⟨h.1, h.2.1, ?_⟩
    have := KeptR.snoc hv h.2.2
    rw [show i + 1 + L.length = i + (l' :: L).length by simp; omega] at this
    exact this
  | [], _, _ :: _, h => h.elim
  | _ :: _, _, [], h => h.elim
structure ORows where
  ro : Nat
  rd : Nat
  m : Nat
  vi : AV
  vw : AV
  es : List (AV × AV)

def ocells (R : ORows) (n : Nat) (L : List (List Rn)) (d f : Nat) : List AV := [.sl R.ro 0 n 1 n, .sl R.rd 0 n 1 n, .int .u64 (L.length : Nat), .int .u64 (wholeN L d : Nat), R.vi, R.vw, .map R.m, .int .u64 ((f + 1 : Nat) : Int)]
/-- Orders in the store: what was decided, how far it is delivered, how much of it is forgotten. -/
structure IsO (s : Store) (τ : Nat → Nat) (id n : Nat) (L : List (List Rn)) (d f : Nat) (R : ORows) : Prop where
  ok : OkL n L
  n1 : 1 ≤ n ∧ n ≤ 64
  dle : d ≤ (idsOf L).length
  fle : f ≤ L.length
  st : s.get id = .cells (ocells R n L d f) false
  ord : s.get R.ro = .cells ((baseOf n L).map (.int .u64)) false
  don : s.get R.rd = .cells ((doneOf n L d).map (.int .u64)) false
  ids : Que icells 2 s τ 4 R.vi ((idsOf L).drop d)
  wts : Que wcells 2 s τ 5 R.vw (waitsOf 1 L d)
  map : s.get R.m = .map R.es
  kept : KeptR s τ R.es (f + 1) (L.drop f)
  lt : id < s.next ∧ R.ro < s.next ∧ R.rd < s.next ∧ R.m < s.next
  tag : τ id = 1 ∧ τ R.ro = 2 ∧ τ R.rd = 3 ∧ τ R.m = 6
  fresh : ∀ l, s.next ≤ l → τ l = 0
/-- Rows that are not its own stay. -/
structure FrT (τ : Nat → Nat) (s s' : Store) : Prop where
  next : s.next ≤ s'.next
  get : ∀ l, l < s.next → τ l = 0 → s'.get l = s.get l
theorem FrT.refl (τ : Nat → Nat) (s : Store) : FrT τ s s := ⟨Nat.le_refl _, fun _ _ _ => rfl⟩
theorem FrT.trans {τ τ' : Nat → Nat} {s s' s'' : Store} (h : FrT τ s s') (k : FrT τ' s' s'') (ht : ∀ r, r < s.next → τ' r = τ r) : FrT τ s s'' :=
  ⟨Nat.le_trans h.next k.next, fun l hl h0 => (k.get l (Nat.lt_of_lt_of_le hl h.next) ((ht l hl).trans h0)).trans (h.get l hl h0)⟩
section
variable {s s' : Store} {τ : Nat → Nat} {id n d f : Nat} {L : List (List Rn)} {R : ORows}
/-- Where its rows stay it stays. -/
theorem IsO.keep (h : IsO s τ id n L d f R) (hn : s.next ≤ s'.next) (hg : ∀ r, r < s.next → τ r ≠ 0 → s'.get r = s.get r) : IsO s' τ id n L d f R := by
  obtain ⟨l1, l2, l3, l4⟩ := h.lt
  obtain ⟨t1, t2, t3, t4⟩ := h.tag
  exact ⟨h.ok, h.n1, h.dle, h.fle, (hg _ l1 (by omega)).trans h.st, (hg _ l2 (by omega)).trans h.ord, (hg _ l3 (by omega)).trans h.don, h.ids.keep hn (fun r hr ht => hg r hr (by omega)) (fun _ _ => rfl), h.wts.keep hn (fun r hr ht => hg r hr (by omega)) (fun _ _ => rfl),
    (hg _ l4 (by omega)).trans h.map, h.kept.keep hn (fun r hr ht => hg r hr (by omega)) (fun _ _ => rfl), ⟨by omega, by omega, by omega, by omega⟩, h.tag, fun l hl => h.fresh l (by omega)⟩
theorem IsO.ext (h : IsO s τ id n L d f R) (e : Ext s s') : IsO s' τ id n L d f R := h.keep e.next fun r hr _ => e.get r hr
theorem IsO.base (h : IsO s τ id n L d f R) : IsSl s (.sl R.ro 0 n 1 n) .u64 (baseOf n L) := .inr ⟨R.ro, false, by rw [baseOf_len], h.lt.2.1, h.ord⟩
end
end Go.Proofs.Ytmaidlndikcgkaa.Sim
namespace Go.Proofs.Ytmaidlndikcgkaa.Sim
set_option linter.unusedSimpArgs false
set_option linter.unusedVariables false

theorem mk_u64 {n : Nat} (h : n ≤ 1000000) (t : Store) {α : Type} (f : AV → Store → Option α) : aMakeSlice [AV.int .u64 0] 1 8 (.int .i64 (n : Int)) (.int .i64 (n : Int)) t f = f (.sl t.next 0 n 1 n) (t.push (.cells ((List.replicate n (0 : Int)).map (.int .u64)) false)) := by
  simp only [aMakeSlice]
  rw [if_pos ⟨by omega, by omega, by omega, by omega⟩, Int.toNat_natCast, Nat.mul_one]
  congr 3
  simp [List.map_replicate]

end Go.Proofs.Ytmaidlndikcgkaa.Sim
namespace Go.Proofs.Ytmaidlndikcgkaa.Sim
set_option linter.unusedSimpArgs false
set_option linter.unusedVariables false

section
variable {s s' : Store} {τ : Nat → Nat} {id n d f : Nat} {L : List (List Rn)} {R : ORows}
end
end Go.Proofs.Ytmaidlndikcgkaa.Sim
namespace Go.Proofs.Ytmaidlndikcgkaa.Sim
set_option linter.unusedSimpArgs false
set_option linter.unusedVariables false

/-- append([]T{}, x..), a thing's copy. -/
theorem copyL {β : Type} {c : β → List AV} {es bytes : Nat} (hc : ∀ x, (c x).length = es) (he : 0 < es) (hby : 0 < bytes) {s : Store} {v : AV} {l : List β} (h : IsL c es s v l) (hb : l.length * bytes ≤ 140737488355328) :
    ∃ s', (∀ {α : Type} (f : AV → Store → Option α), aAppend es bytes (.sl s.next 0 0 es 0) v (s.push (.cells [] false)) f = f (.sl s.next 0 l.length es (l.length * es)) s') ∧ s'.get s.next = .cells (l.map c).flatten false ∧ s.next < s'.next ∧ Ext s s' := by
  have e1 := Ext.push s (.cells [] false)
  have hcells : ∀ {α : Type} (f : Nat → List AV → Option α), aCellsOf es v (s.push (.cells [] false)) f = f l.length (l.map c).flatten := fun f => by
    rcases h.ext e1 with ⟨rfl, rfl⟩ | ⟨id, ro, rfl, _, h3⟩
    · rfl
    · have hl := flatL_len hc l
      simp [aCellsOf, aRow, h3, hl, List.take_of_length_le]
  have g : (s.push (.cells [] false)).get s.next = .cells [] false := by rw [get_push, if_pos rfl]
  by_cases h0 : l = []
  · subst h0
    exact ⟨s.push (.cells [] false), fun f => by simp [aAppend, hcells, aOwn, g], by rw [g]; rfl, Nat.lt_succ_self _, e1⟩
  · have hl : l.length ≠ 0 := fun q => h0 (List.length_eq_zero_iff.1 q)
    refine ⟨(s.push (.cells [] false)).set s.next (.cells (l.map c).flatten false), fun f => ?_, by rw [get_set, if_pos rfl], Nat.lt_succ_self _, ⟨Nat.le_succ _, fun q hq => by rw [get_set, if_neg (by omega)]; exact e1.get q hq⟩⟩
    simp only [aAppend, hcells, aOwn, g, if_true, List.length_nil]
    rw [if_neg hl, if_pos ⟨by simp, by simpa using hb, he, hby⟩]
    simp
theorem clone_runs {s : Store} {v : AV} {l : List Rn} (h : IsRuns s v l) (hb : l.length ≤ 1000000) (k : Nat) : ∃ v' s', rn (k + 1) 32 [v] s = some (v', s') ∧ OwnL rcells 3 s' v' l s.next ∧ Ext s s' := by
  rw [F32.eq]
  unfold F32.f F32.p0
  rcases h with ⟨rfl, rfl⟩ | ⟨id, ro, rfl, h2, h3⟩
  · exact ⟨.nilsl, s, rfl, .inl ⟨rfl, rfl⟩, Ext.refl _⟩
  · have hL : IsL rcells 3 s (.sl id 0 l.length 3 (l.length * 3)) l := .inr ⟨id, ro, rfl, h2, h3⟩
    obtain ⟨s', k1, k2, k3, k4⟩ := copyL (bytes := 24) r_len (by decide) (by decide) hL (by omega)
    have e : ∀ {α : Type} (g : Bool → Option α), aEq .sl (.sl id 0 l.length 3 (l.length * 3)) .nilsl g = g false := fun g => rfl
    simp only [e, bnd, guard_tt, guard_ff, guard_tf, guard_ft, pick_t, pick_f, if_t, if_f, add_i, sub_i, lss_i, leq_i, gtr_i, geq_i, eql_i, neq_i, min_i, max_i, conv_i, len_sl, len_nil, not_b, cells_agg, new_s, fld_p, nil_p, build_0, k1]
    exact ⟨_, s', rfl, .inr ⟨s.next, rfl, Nat.le_refl _, k3, k2⟩, k4⟩

section
variable {s s' : Store} {τ : Nat → Nat} {id n d f : Nat} {L : List (List Rn)} {R : ORows}
end
end Go.Proofs.Ytmaidlndikcgkaa.Sim
namespace Go.Proofs.Ytmaidlndikcgkaa.Sim
set_option linter.unusedSimpArgs false
set_option linter.unusedVariables false

theorem IsSl.fr1 {id : Nat} {s s' : Store} {v : AV} {k : IntKind} {xs : List Int} (h : IsSl s v k xs) (e : Fr1 id s s') (hx : ∀ i b c d f, v = .sl i b c d f → i ≠ id) : IsSl s' v k xs := by
  rcases h with h | ⟨l, ro, rfl, h2, h3⟩
  · exact .inl h
  · exact .inr ⟨l, ro, rfl, Nat.lt_of_lt_of_le h2 e.next, by rw [e.get l h2 (hx _ _ _ _ _ rfl)]; exact h3⟩
theorem IsRuns.fr1 {id : Nat} {s s' : Store} {v : AV} {l : List Rn} (h : IsRuns s v l) (e : Fr1 id s s') (hx : ∀ i b c d f, v = .sl i b c d f → i ≠ id) : IsRuns s' v l := by
  rcases h with h | ⟨q, ro, rfl, h2, h3⟩
  · exact .inl h
  · exact .inr ⟨q, ro, rfl, Nat.lt_of_lt_of_le h2 e.next, by rw [e.get q h2 (hx _ _ _ _ _ rfl)]; exact h3⟩

/-- May runs be a batch here? -/
theorem ibatch_run {s : Store} {x : Nat} {cs : List AV} {bv v : AV} {most : Int} {base : List Int} {l : List Rn} (hx : s.get x = .cells cs false) (hc : cs.length = 11) (h3 : cs[3]? = some bv) (h4 : cs[4]? = some (.int .i64 most))
    (hb : IsSl s bv .u64 base) (hl : IsRuns s v l) (hub : U base) (hw : ∀ r ∈ l, WfR r) (hm : most < 9223372036854775808) (k : Nat) (hk : l.length ≤ k) (hk2 : k ≤ 1000000000) :
    ∃ s', rn (k + 5) 52 [.ptr x 0 11, v] s = some (.bool (mayR base most l), s') ∧ Ext s s' := by
  rw [F52.eq]
  unfold F52.f F52.p2 F52.p1 F52.p0
  obtain ⟨s', k1, k2⟩ := bat_may hb hl hub hw hm k hk hk2
  simp only [bnd, guard_tt, guard_ff, guard_tf, guard_ft, pick_t, pick_f, if_t, if_f, add_i, sub_i, lss_i, leq_i, gtr_i, geq_i, eql_i, neq_i, min_i, max_i, conv_i, len_sl, len_nil, not_b, cells_agg, new_s, fld_p, nil_p, ld_fld hx hc h3, ld_fld hx hc h4, k1]
  exact ⟨s', rfl, k2⟩

theorem set_at {α : Type} {l : List α} {i : Nat} {v : α} (h : l[i]? = some v) : l.set i v = l := by
  apply List.ext_getElem?
  intro j
  rw [List.getElem?_set]
  by_cases e : i = j
  · subst e
    have := (List.getElem?_eq_some_iff.1 h).1
    rw [if_pos rfl, if_pos this, h]
  · rw [if_neg e]

/-- An instance as a round of it begins. -/
def begun (cs : List AV) (r : Int) (ev : AV) : List AV := (((cs.set 5 (.int .u64 r)).set 8 (.bool false)).set 7 .nilsl).set 6 ev
theorem begin_run {s : Store} {x : Nat} {cs : List AV} {bv hv mv ev : AV} {most r : Int} {base held : List Int} {e l : List Rn} (hx : s.get x = .cells cs false) (hc : cs.length = 11) (hxl : x < s.next) (h3 : cs[3]? = some bv) (h4 : cs[4]? = some (.int .i64 most)) (h6 : cs[6]? = some ev) (hev : IsRuns s ev e)
    (hb : IsSl s bv .u64 base) (hbx : ∀ i b c d f, bv = .sl i b c d f → i ≠ x) (hh : IsSl s hv .u64 held) (hhx : ∀ i b c d f, hv = .sl i b c d f → i ≠ x) (hl : IsRuns s mv l) (hlx : ∀ i b c d f, mv = .sl i b c d f → i ≠ x)
    (hub : U base) (hw : ∀ r ∈ l, WfR r) (hm : most < 9223372036854775808) (hhl : held.length ≤ 1000000) (k : Nat) (hk : l.length < k) (hk2 : k ≤ 1000000) :
    ∃ s' ev', rn (k + 7) 34 [.ptr x 0 11, .int .u64 r, hv, mv] s = some (.tuple [], s') ∧ s'.get x = .cells (begun cs r ev') false ∧ Fr1 x s s' ∧
      ((e = [] ∧ mayR base most l = true ∧ (!(l.any (badR held))) = true) → OwnL rcells 3 s' ev' l s.next) ∧ (¬ (e = [] ∧ mayR base most l = true ∧ (!(l.any (badR held))) = true) → ev' = ev) := by
  rw [show k + 7 = (k + 6) + 1 from rfl, F34.eq]
  unfold F34.f F34.p0
  have cel : ∀ (v : AV), v.one = true → ∀ {α : Type} (f : List AV → Option α), aCells v f = f [v] := fun v hv α f => by cases v <;> first | rfl | cases hv
  have f1 := fun {α : Type} (g : Store → Option α) => st_fld (ep := 11) (j := 5) (v := .int .u64 r) hx hc (by omega) (cel _ rfl) g
  have g1 : (s.set x (.cells (cs.set 5 (.int .u64 r)) false)).get x = .cells (cs.set 5 (.int .u64 r)) false := by rw [get_set, if_pos rfl]
  have e1 := Fr1.set x s (.cells (cs.set 5 (.int .u64 r)) false)
  generalize s.set x (.cells (cs.set 5 (.int .u64 r)) false) = s1 at f1 g1 e1
  have f2 := fun {α : Type} (g : Store → Option α) => st_fld (ep := 11) (j := 8) (v := .bool false) g1 (by rw [List.length_set]; exact hc) (by omega) (cel _ rfl) g
  have g2 : (s1.set x (.cells ((cs.set 5 (.int .u64 r)).set 8 (.bool false)) false)).get x = .cells ((cs.set 5 (.int .u64 r)).set 8 (.bool false)) false := by rw [get_set, if_pos rfl]
  have e2 := e1.trans (Fr1.set x s1 (.cells ((cs.set 5 (.int .u64 r)).set 8 (.bool false)) false))
  generalize s1.set x (.cells ((cs.set 5 (.int .u64 r)).set 8 (.bool false)) false) = s2 at f2 g2 e2
  have f3 := fun {α : Type} (g : Store → Option α) => st_fld (ep := 11) (j := 7) (v := .nilsl) g2 (by rw [List.length_set, List.length_set]; exact hc) (by omega) (cel _ rfl) g
  have g3 : (s2.set x (.cells (((cs.set 5 (.int .u64 r)).set 8 (.bool false)).set 7 .nilsl) false)).get x = .cells (((cs.set 5 (.int .u64 r)).set 8 (.bool false)).set 7 .nilsl) false := by rw [get_set, if_pos rfl]
  have e3 := e2.trans (Fr1.set x s2 (.cells (((cs.set 5 (.int .u64 r)).set 8 (.bool false)).set 7 .nilsl) false))
  generalize s2.set x (.cells (((cs.set 5 (.int .u64 r)).set 8 (.bool false)).set 7 .nilsl) false) = s3 at f3 g3 e3
  generalize hcs3 : ((cs.set 5 (.int .u64 r)).set 8 (.bool false)).set 7 .nilsl = cs3 at f3 g3
  have hc3 : cs3.length = 11 := by rw [← hcs3]; simp [hc]
  have h33 : cs3[3]? = some bv := by rw [← hcs3]; simpa [List.getElem?_set] using h3
  have h34 : cs3[4]? = some (.int .i64 most) := by rw [← hcs3]; simpa [List.getElem?_set] using h4
  have h36 : cs3[6]? = some ev := by rw [← hcs3]; simpa [List.getElem?_set] using h6
  have hbeg : ∀ v, begun cs r v = cs3.set 6 v := fun v => by rw [← hcs3]; rfl
  simp only [bnd, guard_tt, guard_ff, guard_tf, guard_ft, pick_t, pick_f, if_t, if_f, add_i, sub_i, lss_i, leq_i, gtr_i, geq_i, eql_i, neq_i, min_i, max_i, conv_i, len_sl, len_nil, not_b, cells_agg, new_s, fld_p, nil_p, f1, f2, f3, ld_fld g3 hc3 h36, len_runs hev]
  by_cases he : e = []
  · subst he
    have hz : (((([] : List Rn).length : Nat) : Int) == 0) = true := rfl
    obtain ⟨s4, k1, k2⟩ := ibatch_run g3 hc3 h33 h34 (hb.fr1 e3 hbx) (hl.fr1 e3 hlx) hub hw hm (k + 1) (by omega) (by omega)
    have k1' : rn (k + 6) 52 [.ptr x 0 11, mv] s3 = some (.bool (mayR base most l), s4) := k1
    simp only [hz, bnd, guard_tt, guard_ff, guard_tf, guard_ft, pick_t, pick_f, if_t, if_f, add_i, sub_i, lss_i, leq_i, gtr_i, geq_i, eql_i, neq_i, min_i, max_i, conv_i, len_sl, len_nil, not_b, cells_agg, new_s, fld_p, nil_p, k1']
    have g4 : s4.get x = .cells cs3 false := (k2.get x (Nat.lt_of_lt_of_le hxl e3.next)).trans g3
    have e4 := e3.trans (k2.fr1 x)
    cases hmay : mayR base most l
    · simp only [bnd, guard_tt, guard_ff, guard_tf, guard_ft, pick_t, pick_f, if_t, if_f, add_i, sub_i, lss_i, leq_i, gtr_i, geq_i, eql_i, neq_i, min_i, max_i, conv_i, len_sl, len_nil, not_b, cells_agg, new_s, fld_p, nil_p]
      refine ⟨s4, ev, rfl, by rw [hbeg, set_at h36]; exact g4, e4, fun q => by simp at q, fun _ => rfl⟩
    · obtain ⟨s5, k3, k4⟩ := bat_held (hh.fr1 e4 hhx) (hl.fr1 e4 hlx) hw hhl (k + 1) (by omega) (by omega)
      have k3' : rn (k + 6) 53 [hv, mv] s4 = some (.bool (!(l.any (badR held))), s5) := k3
      simp only [bnd, guard_tt, guard_ff, guard_tf, guard_ft, pick_t, pick_f, if_t, if_f, add_i, sub_i, lss_i, leq_i, gtr_i, geq_i, eql_i, neq_i, min_i, max_i, conv_i, len_sl, len_nil, not_b, cells_agg, new_s, fld_p, nil_p, k3']
      have g5 : s5.get x = .cells cs3 false := (k4.get x (Nat.lt_of_lt_of_le hxl e4.next)).trans g4
      have e5 := e4.trans (k4.fr1 x)
      cases hheld : !(l.any (badR held))
      · simp only [bnd, guard_tt, guard_ff, guard_tf, guard_ft, pick_t, pick_f, if_t, if_f, add_i, sub_i, lss_i, leq_i, gtr_i, geq_i, eql_i, neq_i, min_i, max_i, conv_i, len_sl, len_nil, not_b, cells_agg, new_s, fld_p, nil_p]
        refine ⟨s5, ev, rfl, by rw [hbeg, set_at h36]; exact g5, e5, fun q => by simp at q, fun _ => rfl⟩
      · obtain ⟨cv, s6, k5, k6, k7⟩ := clone_runs (hl.fr1 e5 hlx) (by omega) (k + 5)
        have k5' : rn (k + 6) 32 [mv] s5 = some (cv, s6) := k5
        have g6 : s6.get x = .cells cs3 false := (k7.get x (Nat.lt_of_lt_of_le hxl e5.next)).trans g5
        have e6 := e5.trans (k7.fr1 x)
        have hcv : cv.one = true := by rcases k6 with ⟨rfl, _⟩ | ⟨id, rfl, _⟩ <;> rfl
        simp only [bnd, guard_tt, guard_ff, guard_tf, guard_ft, pick_t, pick_f, if_t, if_f, add_i, sub_i, lss_i, leq_i, gtr_i, geq_i, eql_i, neq_i, min_i, max_i, conv_i, len_sl, len_nil, not_b, cells_agg, new_s, fld_p, nil_p, k5', st_fld (ep := 11) (j := 6) g6 hc3 (by omega) (cel cv hcv)]
        refine ⟨_, cv, rfl, by rw [get_set, if_pos rfl, hbeg], e6.trans (Fr1.set x s6 _), fun _ => ?_, fun q => by simp at q⟩
        rcases k6 with ⟨rfl, hl0⟩ | ⟨id, rfl, h7, h8, h9⟩
        · exact .inl ⟨rfl, hl0⟩
        · have hn5 : s.next ≤ s5.next := e5.next
          exact .inr ⟨id, rfl, by omega, h8, by rw [get_set, if_neg (by omega)]; exact h9⟩
  · have hz : (((e.length : Nat) : Int) == 0) = false := by
      have : e.length ≠ 0 := fun q => he (List.length_eq_zero_iff.1 q)
      simp; omega
    simp only [hz, bnd, guard_tt, guard_ff, guard_tf, guard_ft, pick_t, pick_f, if_t, if_f, add_i, sub_i, lss_i, leq_i, gtr_i, geq_i, eql_i, neq_i, min_i, max_i, conv_i, len_sl, len_nil, not_b, cells_agg, new_s, fld_p, nil_p]
    refine ⟨s3, ev, rfl, by rw [hbeg, set_at h36]; exact g3, e3, fun q => absurd q.1 he, fun _ => rfl⟩

theorem Ext.reserve (n : Nat) (s : Store) : Ext s (reserve n s) := ⟨by simp [Sim.reserve], fun l hl => by simp only [Sim.reserve, if_pos hl]⟩
theorem mk_kept {n : Nat} (h : n ≤ 1000) (t : Store) {α : Type} (f : AV → Store → Option α) : aMakeSlice [AV.nilptr, AV.nilptr] 2 16 (.int .i64 (n : Int)) (.int .i64 (n : Int)) t f = f (.sl t.next 0 n 2 (n * 2)) (t.push (.cells (List.replicate n [AV.nilptr, AV.nilptr]).flatten false)) := by
  simp only [aMakeSlice]
  rw [if_pos ⟨by omega, by omega, by omega, by omega⟩, Int.toNat_natCast]

/-- What a new instance has. -/
def inew (n : Nat) (me' : Int) (number : Int) (bv : AV) (most : Int) (fv : Nat) : List AV := [.int .i64 n, .int .i64 me', .int .u64 number, bv, .int .i64 most, .int .u64 0, .nilsl, .nilsl, .bool false, .nilsl, .sl fv 0 n 2 (n * 2)]
theorem inst_new {s : Store} {bv hv mv : AV} {nn me number most : Int} {base held : List Int} {l : List Rn} (hb : IsSl s bv .u64 base) (hh : IsSl s hv .u64 held) (hl : IsRuns s mv l)
    (hub : U base) (hw : ∀ r ∈ l, WfR r) (hm : most < 9223372036854775808) (hbl : base.length ≤ 1000000) (hhl : held.length ≤ 1000000) (k : Nat) (hk : l.length < k) (hk2 : k ≤ 1000000) :
    ∃ s' x ev bv', rn (k + 8) 18 [.int .i64 nn, .int .i64 me, .int .u64 number, bv, .int .i64 most, hv, mv] s = some (.ptr x 0 11, s') ∧ s.next ≤ x ∧ x < s'.next ∧ Ext s s' ∧
      s'.get x = .cells (begun (inew (max 1 (min nn 64)).toNat (max 0 (min me (IntKind.i64.wrap (max 1 (min nn 64) - 1)))) number bv' most (s.next + 11)) 0 ev) false ∧
      OwnL rcells 3 s' ev (if mayR base most l = true ∧ (!(l.any (badR held))) = true then l else []) s.next ∧ OwnN s' bv' base s.next ∧ s'.get (s.next + 11) = .cells (List.replicate (max 1 (min nn 64)).toNat [AV.nilptr, AV.nilptr]).flatten false ∧ s.next + 11 < x ∧ (∀ i b c d f, bv' = .sl i b c d f → i ≠ x ∧ i ≠ s.next + 11) := by
  rw [show k + 8 = (k + 7) + 1 from rfl, F18.eq]
  unfold F18.f F18.p3 F18.p2 F18.p1 F18.p0
  rw [min_i, max_i]
  obtain ⟨n, hn⟩ : ∃ n : Nat, max 1 (min nn 64) = n := ⟨(max 1 (min nn 64)).toNat, by omega⟩
  have hn1 : 1 ≤ n ∧ n ≤ 64 := by omega
  rw [hn]
  obtain ⟨cv, sA, k1, k2, k3⟩ := clone_u64 (hb.ext (Ext.reserve 15 s)) hbl (k + 6)
  have k1' : rn (k + 7) 33 [bv] (reserve 15 s) = some (cv, sA) := k1
  have hA : s.next + 15 ≤ sA.next := k3.next
  have hcv : cv.one = true := by rcases k2 with ⟨rfl, _⟩ | ⟨id, rfl, _⟩ <;> rfl
  have cel : ∀ (v : AV), v.one = true → ∀ {α : Type} (f : List AV → Option α), aCells v f = f [v] := fun v hv α f => by cases v <;> first | rfl | cases hv
  have hbd : ∀ (a b c d e f : AV), a.one = true → b.one = true → c.one = true → d.one = true → e.one = true → f.one = true → ∀ {α : Type} (g : List AV → Option α), aBuild [(0, 1, a), (1, 1, b), (2, 1, c), (3, 1, d), (4, 1, e), (10, 1, f)] [AV.int .i64 0, AV.int .i64 0, AV.int .u64 0, AV.nilsl, AV.int .i64 0, AV.int .u64 0, AV.nilsl, AV.nilsl, AV.bool false, AV.nilsl, AV.nilsl] g = g [a, b, c, d, e, .int .u64 0, .nilsl, .nilsl, .bool false, .nilsl, f] := fun a b c d e f ha hb hc hd he hf α g => by
    simp only [aBuild, cel a ha, cel b hb, cel c hc, cel d hd, cel e he, cel f hf]; rfl
  simp only [bnd, guard_tt, guard_ff, guard_tf, guard_ft, pick_t, pick_f, if_t, if_f, add_i, sub_i, lss_i, leq_i, gtr_i, geq_i, eql_i, neq_i, min_i, max_i, conv_i, len_sl, len_nil, not_b, cells_agg, new_s, fld_p, nil_p, atRow, k1', mk_kept (show n ≤ 1000 by omega), Option.map_some]
  rw [hbd _ _ _ _ _ _ rfl rfl rfl hcv rfl rfl]
  simp only [bnd, guard_tt, guard_ff, guard_tf, guard_ft, pick_t, pick_f, if_t, if_f, add_i, sub_i, lss_i, leq_i, gtr_i, geq_i, eql_i, neq_i, min_i, max_i, conv_i, len_sl, len_nil, not_b, cells_agg, new_s, fld_p, nil_p, Store.push]
  have hg : ∀ sC : Store, sC.next = sA.next + 1 → (∀ j, sC.get j = if j = sA.next then .cells (inew n (max 0 (min me (IntKind.i64.wrap ((n : Int) - 1)))) number cv most (s.next + 11)) false else if j = s.next + 11 then .cells (List.replicate n [AV.nilptr, AV.nilptr]).flatten false else sA.get j) →
      ∃ s' ev, rn (k + 7) 34 [.ptr sA.next 0 11, .int .u64 0, hv, mv] sC = some (.tuple [], s') ∧ sA.next < s'.next ∧ Ext s s' ∧ s'.get sA.next = .cells (begun (inew n (max 0 (min me (IntKind.i64.wrap ((n : Int) - 1)))) number cv most (s.next + 11)) 0 ev) false ∧
        OwnL rcells 3 s' ev (if mayR base most l = true ∧ (!(l.any (badR held))) = true then l else []) s.next ∧ OwnN s' cv base s.next ∧ s'.get (s.next + 11) = .cells (List.replicate n [AV.nilptr, AV.nilptr]).flatten false := fun sC hCn hC => by
    have hCA : ∀ j, j ≠ s.next + 11 → j < sA.next → sC.get j = sA.get j := fun j h1 h2 => by rw [hC, if_neg (by omega), if_neg h1]
    have hCs : Ext s sC := ⟨by omega, fun j hj => by rw [hCA j (by omega) (by omega)]; exact (k3.get j (by simp only [Sim.reserve]; omega)).trans ((Ext.reserve 15 s).get j hj)⟩
    have hcvC : OwnN sC cv base s.next := by
      rcases k2 with h | ⟨id, rfl, h2, h3, h4⟩
      · exact .inl h
      · have h2' : s.next + 15 ≤ id := h2
        exact .inr ⟨id, rfl, by omega, by omega, by rw [hCA id (by omega) h3]; exact h4⟩
    have hcx : ∀ i b c d f, cv = .sl i b c d f → i ≠ sA.next := fun i b c d f q => by
      rcases k2 with ⟨rfl, _⟩ | ⟨id, rfl, h2, h3, h4⟩
      · cases q
      · injection q with q1; omega
    obtain ⟨s', ev, j1, j2, j3, j4, j5⟩ := begin_run (ev := .nilsl) (e := []) (r := 0) (by rw [hC, if_pos rfl]) rfl (by omega) rfl rfl rfl (.inl ⟨rfl, rfl⟩) hcvC.is hcx (hh.ext hCs) (fun i b c d f q => by have := hh.lt i b c d f q; omega) (hl.ext hCs) (fun i b c d f q => by
      rcases hl with ⟨rfl, _⟩ | ⟨id, ro, rfl, h2, _⟩
      · cases q
      · injection q with q1; omega) hub hw hm hhl k hk hk2
    refine ⟨s', ev, j1, Nat.lt_of_lt_of_le (by omega) j3.next, ⟨Nat.le_trans (by omega) j3.next, fun j hj => (j3.get j (by omega) (by omega)).trans (hCs.get j hj)⟩, j2, ?_, ?_, (j3.get _ (by omega) (by omega)).trans (by rw [hC, if_neg (by omega), if_pos rfl])⟩
    · by_cases hq : mayR base most l = true ∧ (!(l.any (badR held))) = true
      · rw [if_pos hq]
        exact (j4 ⟨rfl, hq⟩).mono (by omega)
      · rw [if_neg hq, j5 (fun q => hq q.2)]
        exact .nil _ _ _ _
    · rcases hcvC with h | ⟨id, rfl, h2, h3, h4⟩
      · exact .inl h
      · exact .inr ⟨id, rfl, h2, Nat.lt_of_lt_of_le h3 j3.next, by rw [j3.get id h3 (hcx _ _ _ _ _ rfl)]; exact h4⟩
  obtain ⟨s', ev, j1, j2, j3, j4, j5, j6, j7⟩ := hg ⟨sA.next + 1, fun j => if j = sA.next then .cells (inew n (max 0 (min me (IntKind.i64.wrap ((n : Int) - 1)))) number cv most (s.next + 11)) false else if j = s.next + 11 then .cells (List.replicate n [AV.nilptr, AV.nilptr]).flatten false else sA.get j⟩ rfl (fun j => rfl)
  have j1' := j1
  unfold inew at j1'
  refine ⟨s', sA.next, ev, cv, ?_, by omega, j2, j3, by rw [Int.toNat_natCast]; exact j4, j5, j6, by rw [Int.toNat_natCast]; exact j7, by omega, ?_⟩
  · show (rn (k + 7) 34 [.ptr sA.next 0 11, .int .u64 0, hv, mv] _).bind _ = _
    rw [j1']
    rfl
  · intro i b c d f q
    rcases k2 with ⟨rfl, _⟩ | ⟨id, rfl, h2, h3, h4⟩
    · cases q
    · injection q with q1
      have h2' : s.next + 15 ≤ id := h2
      omega

theorem est_run {s : Store} {x : Nat} {cs : List AV} {ev : AV} {l : List Rn} (hx : s.get x = .cells cs false) (hc : cs.length = 11) (h6 : cs[6]? = some ev) (hev : IsRuns s ev l) (hb : l.length ≤ 1000000) (k : Nat) :
    ∃ v' s', rn (k + 2) 25 [.ptr x 0 11] s = some (v', s') ∧ OwnL rcells 3 s' v' l s.next ∧ Ext s s' := by
  rw [F25.eq]
  unfold F25.f F25.p0
  have hne : ∀ {α : Type} (f : Bool → Option α), aEq .ptr (.ptr x 0 11) .nilptr f = f false := fun f => rfl
  obtain ⟨v', s', k1, k2, k3⟩ := clone_runs hev hb k
  simp only [hne, bnd, guard_tt, guard_ff, guard_tf, guard_ft, pick_t, pick_f, if_t, if_f, add_i, sub_i, lss_i, leq_i, gtr_i, geq_i, eql_i, neq_i, min_i, max_i, conv_i, len_sl, len_nil, not_b, cells_agg, new_s, fld_p, nil_p, ld_fld hx hc h6, k1]
  exact ⟨v', s', rfl, k2, k3⟩
end Go.Proofs.Ytmaidlndikcgkaa.Sim
