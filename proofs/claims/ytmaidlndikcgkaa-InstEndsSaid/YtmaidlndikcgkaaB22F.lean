/- The texts B22B, B22C, B22D, B22E, B22F, one behind the other. No condition. -/
import Derived.Test.YtmaidlndikcgkaaB22A
namespace Go.Proofs.Ytmaidlndikcgkaa.Sim
set_option linter.unusedSimpArgs false
set_option linter.unusedVariables false
variable {s s' : Store} {M : List Nat}

/-- What is as it was, but for some rows. -/
structure FrS (S : List Nat) (s s' : Store) : Prop where
  next : s.next ≤ s'.next
  get : ∀ l, l < s.next → l ∉ S → s'.get l = s.get l
theorem FrS.refl (S : List Nat) (s : Store) : FrS S s s := ⟨Nat.le_refl _, fun _ _ _ => rfl⟩
theorem FrS.trans {S S' : List Nat} {s s' s'' : Store} (h : FrS S s s') (k : FrS S' s' s'') (hS : ∀ l ∈ S', l ∈ S ∨ s.next ≤ l) : FrS S s s'' :=
  ⟨Nat.le_trans h.next k.next, fun l hl hn => (k.get l (Nat.lt_of_lt_of_le hl h.next) fun e => by rcases hS l e with q | q; exact hn q; omega).trans (h.get l hl hn)⟩
theorem FrS.mono {S S' : List Nat} (h : FrS S s s') (hS : ∀ l ∈ S, l ∈ S') : FrS S' s s' := ⟨h.next, fun l hl hn => h.get l hl fun q => hn (hS l q)⟩
theorem Ext.frS (h : Ext s s') (S : List Nat) : FrS S s s' := ⟨h.next, fun l hl _ => h.get l hl⟩
theorem Fr1.frS {x : Nat} (h : Fr1 x s s') {S : List Nat} (hx : x ∈ S) : FrS S s s' := ⟨h.next, fun l hl hn => h.get l hl fun e => hn (e ▸ hx)⟩

/-- A frame that is kept: its round, its estimate, its vote. -/
structure SF where
  round : Int
  est : List Rn
  aux : List Rn
/-- An instance. -/
structure XI where
  n : Nat
  me : Nat
  number : Int
  base : List Int
  most : Int
  round : Int
  est : List Rn
  vote : List Rn
  cast : Bool
  decided : List Rn
  fr : List (Option SF)
/-- Runs in a row that nobody writes. -/
structure IsRM (s : Store) (M : List Nat) (v : AV) (l : List Rn) : Prop where
  is : IsRuns s v l
  off : ∀ i b c d e, v = .sl i b c d e → i ∉ M
  wf : ∀ r ∈ l, WfR r
  len : l.length ≤ 1000
theorem IsRuns.frS {S : List Nat} {v : AV} {l : List Rn} (h : IsRuns s v l) (e : FrS S s s') (hx : ∀ i b c d f, v = .sl i b c d f → i ∉ S) : IsRuns s' v l := by
  rcases h with h | ⟨q, ro, rfl, h2, h3⟩
  · exact .inl h
  · exact .inr ⟨q, ro, rfl, Nat.lt_of_lt_of_le h2 e.next, by rw [e.get q h2 (hx _ _ _ _ _ rfl)]; exact h3⟩
theorem IsSl.frS {S : List Nat} {v : AV} {k : IntKind} {xs : List Int} (h : IsSl s v k xs) (e : FrS S s s') (hx : ∀ i b c d f, v = .sl i b c d f → i ∉ S) : IsSl s' v k xs := by
  rcases h with h | ⟨l, ro, rfl, h2, h3⟩
  · exact .inl h
  · exact .inr ⟨l, ro, rfl, Nat.lt_of_lt_of_le h2 e.next, by rw [e.get l h2 (hx _ _ _ _ _ rfl)]; exact h3⟩
theorem IsRM.frS {S : List Nat} {v : AV} {l : List Rn} (h : IsRM s M v l) (e : FrS S s s') (hS : ∀ y ∈ S, y ∈ M) : IsRM s' M v l := ⟨h.is.frS e fun i b c d f q q2 => h.off i b c d f q (hS i q2), h.off, h.wf, h.len⟩
theorem IsRM.ext {v : AV} {l : List Rn} (h : IsRM s M v l) (e : Ext s s') : IsRM s' M v l := ⟨h.is.ext e, h.off, h.wf, h.len⟩
theorem IsRM.nil (s : Store) (M : List Nat) : IsRM s M .nilsl [] := ⟨.inl ⟨rfl, rfl⟩, (fun _ _ _ _ _ q => by cases q), fun _ q => (List.not_mem_nil q).elim, Nat.zero_le _⟩
theorem IsRM.one {v : AV} {l : List Rn} (h : IsRM s M v l) : v.one = true := by rcases h.is with ⟨rfl, _⟩ | ⟨id, ro, rfl, _⟩ <;> rfl
theorem own_rm {v : AV} {l : List Rn} {lo : Nat} (h : OwnL rcells 3 s v l lo) (hM : ∀ y ∈ M, y < lo) (hw : ∀ r ∈ l, WfR r) (hl : l.length ≤ 1000) : IsRM s M v l := by
  refine ⟨?_, fun i b c d e q q2 => ?_, hw, hl⟩
  · rcases h with h | ⟨id, h1, h2, h3, h4⟩
    · exact .inl h
    · exact .inr ⟨id, false, h1, h3, h4⟩
  · rcases h with ⟨q1, _⟩ | ⟨id, h1, h2, _⟩
    · rw [q1] at q; cases q
    · rw [h1] at q
      injection q with q
      have := hM i q2
      omega
structure IsSF (s : Store) (M : List Nat) (q : Nat) (f : SF) : Prop where
  off : q ∉ M
  lt : q < s.next
  row : ∃ cs ro ev av, s.get q = .cells cs ro ∧ cs.length = 16 ∧ cs[10]? = some (.int .u64 f.round) ∧ cs[11]? = some ev ∧ cs[12]? = some av ∧ IsRM s M ev f.est ∧ IsRM s M av f.aux
  rnd : 0 ≤ f.round ∧ f.round < 18446744073709551616
theorem IsSF.frS {S : List Nat} {q : Nat} {f : SF} (h : IsSF s M q f) (e : FrS S s s') (hS : ∀ y ∈ S, y ∈ M) : IsSF s' M q f := by
  obtain ⟨cs, ro, ev, av, h1, h2, h3, h4, h5, h6, h7⟩ := h.row
  exact ⟨h.off, Nat.lt_of_lt_of_le h.lt e.next, ⟨cs, ro, ev, av, (e.get q h.lt fun z => h.off (hS q z)).trans h1, h2, h3, h4, h5, h6.frS e hS, h7.frS e hS⟩, h.rnd⟩
def RelP (s : Store) (M : List Nat) (p : AV) (o : Option SF) : Prop := (p = .nilptr ∧ o = none) ∨ ∃ q f, p = .ptr q 0 16 ∧ o = some f ∧ IsSF s M q f
theorem RelP.frS {S : List Nat} {p : AV} {o : Option SF} (h : RelP s M p o) (e : FrS S s s') (hS : ∀ y ∈ S, y ∈ M) : RelP s' M p o := by
  rcases h with h | ⟨q, f, h1, h2, h3⟩
  · exact .inl h
  · exact .inr ⟨q, f, h1, h2, h3.frS e hS⟩
/-- Where an instance's things lie. -/
structure XV where
  x : Nat
  fr : Nat
  bv : AV
  ev : AV
  vv : AV
  dv : AV
  fs : List AV
def xcells (v : XV) (m : XI) : List AV := [.int .i64 (m.n : Int), .int .i64 (m.me : Int), .int .u64 m.number, v.bv, .int .i64 m.most, .int .u64 m.round, v.ev, v.vv, .bool m.cast, v.dv, .sl v.fr 0 m.n 2 (m.n * 2)]
structure IsX (s : Store) (M : List Nat) (v : XV) (m : XI) : Prop where
  st : s.get v.x = .cells (xcells v m) false
  frow : s.get v.fr = .cells v.fs false
  flen : v.fs.length = m.n * 2
  frl : m.fr.length = m.n * 2
  rel : ∀ i, i < m.n * 2 → ∃ p o, v.fs[i]? = some p ∧ m.fr[i]? = some o ∧ RelP s M p o
  base : IsSl s v.bv .u64 m.base
  baseM : ∀ i b c d e, v.bv = .sl i b c d e → i ∉ M
  baseU : U m.base
  baseL : m.base.length ≤ 1000000
  est : IsRM s M v.ev m.est
  vote : IsRM s M v.vv m.vote
  dec : IsRM s M v.dv m.decided
  decn : m.decided = [] → v.dv = .nilsl
  xM : v.x ∈ M
  fM : v.fr ∈ M
  ne : v.x ≠ v.fr
  xl : v.x < s.next
  fl : v.fr < s.next
  n1 : 1 ≤ m.n ∧ m.n ≤ 64
  me : m.me < m.n
  num : 0 ≤ m.number ∧ m.number < 18446744073709551616
  most : m.most < 9223372036854775808
  rnd : 0 ≤ m.round ∧ m.round < 18446744073709551616
theorem IsX.frS {S : List Nat} {v : XV} {m : XI} (h : IsX s M v m) (e : FrS S s s') (hS : ∀ y ∈ S, y ∈ M) (hx : v.x ∉ S) (hf : v.fr ∉ S) : IsX s' M v m :=
  ⟨(e.get _ h.xl hx).trans h.st, (e.get _ h.fl hf).trans h.frow, h.flen, h.frl, fun i hi => by
    obtain ⟨p, o, h1, h2, h3⟩ := h.rel i hi
    exact ⟨p, o, h1, h2, h3.frS e hS⟩, h.base.frS e fun i b c d f q q2 => h.baseM i b c d f q (hS i q2), h.baseM, h.baseU, h.baseL, h.est.frS e hS, h.vote.frS e hS, h.dec.frS e hS, h.decn, h.xM, h.fM, h.ne, Nat.lt_of_lt_of_le h.xl e.next, Nat.lt_of_lt_of_le h.fl e.next, h.n1, h.me, h.num, h.most, h.rnd⟩
theorem IsX.ext {v : XV} {m : XI} (h : IsX s M v m) (e : Ext s s') : IsX s' M v m := h.frS (e.frS []) (fun y hy => (List.not_mem_nil hy).elim) (List.not_mem_nil) (List.not_mem_nil)
/-- The instance's own row is written. -/
theorem IsX.own {v v' : XV} {m m' : XI} (h : IsX s M v m) (hx : v'.x = v.x) (hfr : v'.fr = v.fr) (hb : v'.bv = v.bv) (hfs : v'.fs = v.fs) (hn : m'.n = m.n) (hme : m'.me = m.me) (hnum : m'.number = m.number) (hba : m'.base = m.base) (hmo : m'.most = m.most) (hfr2 : m'.fr = m.fr)
    (he : IsRM s M v'.ev m'.est) (hv : IsRM s M v'.vv m'.vote) (hd : IsRM s M v'.dv m'.decided) (hdn : m'.decided = [] → v'.dv = .nilsl) (hr : 0 ≤ m'.round ∧ m'.round < 18446744073709551616) : IsX (s.set v.x (.cells (xcells v' m') false)) M v' m' := by
  have e : FrS [v.x] s (s.set v.x (.cells (xcells v' m') false)) := (Fr1.set _ _ _).frS (by simp)
  have hS : ∀ y ∈ [v.x], y ∈ M := fun y hy => by rw [List.mem_singleton.1 hy]; exact h.xM
  refine ⟨by rw [hx, get_set, if_pos rfl], by rw [hfr, get_set, if_neg (Ne.symm h.ne), hfs]; exact h.frow, by rw [hfs, hn]; exact h.flen, by rw [hfr2, hn]; exact h.frl, fun i hi => ?_, ?_, by rw [hb]; exact h.baseM, by rw [hba]; exact h.baseU, by rw [hba]; exact h.baseL, he.frS e hS, hv.frS e hS, hd.frS e hS, hdn, by rw [hx]; exact h.xM, by rw [hfr]; exact h.fM, by rw [hx, hfr]; exact h.ne, by rw [hx]; exact h.xl, by rw [hfr]; exact h.fl, by rw [hn]; exact h.n1, by rw [hme, hn]; exact h.me, by rw [hnum]; exact h.num, by rw [hmo]; exact h.most, hr⟩
  · rw [hn] at hi
    obtain ⟨p, o, h1, h2, h3⟩ := h.rel i hi
    exact ⟨p, o, by rw [hfs]; exact h1, by rw [hfr2]; exact h2, h3.frS e hS⟩
  · rw [hb, hba]
    exact h.base.frS e fun i b c d f q q2 => h.baseM i b c d f q (hS i q2)
theorem xc_len (v : XV) (m : XI) : (xcells v m).length = 11 := rfl
theorem x_fld {v : XV} {m : XI} (h : IsX s M v m) {j : Nat} {w : AV} (hw : (xcells v m)[j]? = some w) {α : Type} (f : AV → Option α) : aLoad1 (.ptr v.x (0 + j) 11) s f = f w := ld_fld h.st (xc_len v m) hw f
theorem c_one {w : AV} (hw : w.one = true) {α : Type} (f : List AV → Option α) : aCells w f = f [w] := by cases w <;> first | rfl | cases hw
theorem x_st {v : XV} {m : XI} (h : IsX s M v m) {j : Nat} (hj : j < 11) {w : AV} (hw : w.one = true) {α : Type} (f : Store → Option α) : aStore 1 (.ptr v.x (0 + j) 11) w s f = f (s.set v.x (.cells ((xcells v m).set j w) false)) := st_fld h.st (xc_len v m) hj (fun f => c_one hw f) f
theorem nilp_p (l o ep : Nat) {α : Type} (f : Bool → Option α) : aEq .ptr (.ptr l o ep) .nilptr f = f false := rfl
theorem nilp_n {α : Type} (f : Bool → Option α) : aEq .ptr .nilptr .nilptr f = f true := rfl

/-! ### a frame that comes -/
structure IFm where
  kind : Int
  src : Int
  inst : Int
  round : Int
  est : List Rn
  aux : List Rn
structure IsIF (s : Store) (cs : List AV) (ev av : AV) (f : IFm) : Prop where
  len : cs.length = 16
  c0 : cs[0]? = some (.int .u8 f.kind)
  c1 : cs[1]? = some (.int .u8 f.src)
  c9 : cs[9]? = some (.int .u64 f.inst)
  c10 : cs[10]? = some (.int .u64 f.round)
  c11 : cs[11]? = some ev
  c12 : cs[12]? = some av
  est : IsRuns s ev f.est
  aux : IsRuns s av f.aux
  wfe : ∀ r ∈ f.est, WfR r
  wfa : ∀ r ∈ f.aux, WfR r
  le : f.est.length ≤ 1000
  la : f.aux.length ≤ 1000
  src : 0 ≤ f.src ∧ f.src < 256
  kind : 0 ≤ f.kind ∧ f.kind < 256
  rnd : 0 ≤ f.round ∧ f.round < 18446744073709551616
theorem IsIF.ext {cs : List AV} {ev av : AV} {f : IFm} (h : IsIF s cs ev av f) (e : Ext s s') : IsIF s' cs ev av f := ⟨h.len, h.c0, h.c1, h.c9, h.c10, h.c11, h.c12, h.est.ext e, h.aux.ext e, h.wfe, h.wfa, h.le, h.la, h.src, h.kind, h.rnd⟩
def okX (m : XI) (l : List Rn) : Bool := decide (l = []) || mayR m.base m.most l
def fitsX (m : XI) (f : IFm) : Bool := (!(decide (f.src ≥ m.n) || decide (f.src = m.me))) && (decide (f.inst = m.number) && (decide (6 ≤ f.kind) && (decide (f.kind ≤ 8) && (okX m f.est && (okX m f.aux && (decide (f.kind ≠ 8) || !decide (f.est = [])))))))
theorem none_run {v : AV} {l : List Rn} (h : IsRuns s v l) (k : Nat) : rn (k + 1) 51 [v] s = some (.bool (decide (l = [])), s) := by
  rw [F51.eq]
  unfold F51.f F51.p0
  rw [len_runs h]
  have : (((l.length : Nat) : Int) == 0) = decide (l = []) := by
    cases l with
    | nil => rfl
    | cons a l => simp; omega
  simp only [bnd, guard_tt, guard_ff, guard_tf, guard_ft, pick_t, pick_f, if_t, if_f, add_i, sub_i, lss_i, leq_i, gtr_i, geq_i, eql_i, neq_i, min_i, max_i, conv_i, len_sl, len_nil, not_b, cells_agg, new_s, fld_p, nil_p, this]
theorem none_call {v : AV} {l : List Rn} (h : IsRuns s v l) (k : Nat) {α : Type} (f : AV → Store → Option α) : aCall (rn (k + 1)) (.func 51 [] []) [v] s f = f (.bool (decide (l = []))) s := by
  simp only [aCall, List.nil_append, List.append_nil, none_run h k, Option.bind_some]
theorem xbatch_run {v : XV} {m : XI} (h : IsX s M v m) {w : AV} {l : List Rn} (hl : IsRuns s w l) (hw : ∀ r ∈ l, WfR r) (hll : l.length ≤ 1000) (k : Nat) (hk : 1000 ≤ k) (hk2 : k ≤ 1000000000) : ∃ s', rn (k + 5) 52 [.ptr v.x 0 11, w] s = some (.bool (mayR m.base m.most l), s') ∧ Ext s s' :=
  ibatch_run h.st (xc_len v m) rfl rfl h.base hl h.baseU hw h.most k (by omega) hk2
theorem fits_run {v : XV} {m : XI} {cs : List AV} {ev av : AV} {f : IFm} (h : IsX s M v m) (hf : IsIF s cs ev av f) (k : Nat) (hk : 1000 ≤ k) (hk2 : k ≤ 100000000) : ∃ s', rn (k + 6) 31 [.ptr v.x 0 11, .agg cs] s = some (.bool (fitsX m f), s') ∧ Ext s s' := by
  rw [show k + 6 = (k + 5) + 1 from rfl, F31.eq]
  unfold F31.f F31.p11 F31.p10
  have e1 := Ext.push s (.cells cs false)
  have hx1 : (s.push (.cells cs false)).get s.next = .cells cs false := by rw [get_push, if_pos rfl]
  have hn1 : s.next < (s.push (.cells cs false)).next := Nat.lt_succ_self _
  simp only [cells_agg, new_s, hf.len]
  have h1 := h.ext e1
  have hf1 := hf.ext e1
  generalize s.push (.cells cs false) = s1 at e1 hx1 hn1 h1 hf1 ⊢
  have lf : ∀ {t : Store}, Ext s1 t → ∀ {j : Nat} {w : AV}, cs[j]? = some w → ∀ {α : Type} (c : AV → Option α), aLoad1 (.ptr s.next (0 + j) 16) t c = c w := fun {t} e {j w} hw {α} c => ld_fld ((e.get _ hn1).trans hx1) hf.len hw c
  have lf0 : ∀ {t : Store}, Ext s1 t → ∀ {α : Type} (c : AV → Option α), aLoad1 (.ptr s.next (0 + 0 + 0) 16) t c = c (.int .u8 f.kind) := fun {t} e {α} c => lf e hf.c0 c
  have lf1 : ∀ {t : Store}, Ext s1 t → ∀ {α : Type} (c : AV → Option α), aLoad1 (.ptr s.next (0 + 0 + 1) 16) t c = c (.int .u8 f.src) := fun {t} e {α} c => lf e hf.c1 c
  have E0 := Ext.refl s1
  unfold F31.p9
  have wsrc : IntKind.i64.wrap f.src = f.src := w_i64 (by have := hf.src; omega) (by have := hf.src; omega)
  have l0 : ∀ {t : Store}, Ext s1 t → ∀ {α : Type} (c : AV → Option α), aLoad1 (.ptr v.x (0 + 0) 11) t c = c (.int .i64 (m.n : Int)) := fun {t} e {α} c => x_fld (h1.ext e) rfl c
  have l1 : ∀ {t : Store}, Ext s1 t → ∀ {α : Type} (c : AV → Option α), aLoad1 (.ptr v.x (0 + 1) 11) t c = c (.int .i64 (m.me : Int)) := fun {t} e {α} c => x_fld (h1.ext e) rfl c
  have l2 : ∀ {t : Store}, Ext s1 t → ∀ {α : Type} (c : AV → Option α), aLoad1 (.ptr v.x (0 + 2) 11) t c = c (.int .u64 m.number) := fun {t} e {α} c => x_fld (h1.ext e) rfl c
  have bad : fitsX m f = false → ∃ s', (some (AV.bool false, s1) : Option (AV × Store)) = some (.bool (fitsX m f), s') ∧ Ext s s' := fun q => ⟨s1, by rw [q], e1⟩
  simp only [bnd, guard_tt, guard_ff, guard_tf, guard_ft, pick_t, pick_f, if_t, if_f, add_i, sub_i, lss_i, leq_i, gtr_i, geq_i, eql_i, neq_i, min_i, max_i, conv_i, len_sl, len_nil, not_b, cells_agg, new_s, fld_p, nil_p, lf1 E0, wsrc, l0 E0, l1 E0]
  unfold F31.p8 F31.p5 F31.p4 F31.p1
  by_cases q1 : f.src ≥ (m.n : Int)
  · simp only [decide_eq_true q1, bnd, guard_tt, guard_ff, guard_tf, guard_ft, pick_t, pick_f, if_t, if_f, add_i, sub_i, lss_i, leq_i, gtr_i, geq_i, eql_i, neq_i, min_i, max_i, conv_i, len_sl, len_nil, not_b, cells_agg, new_s, fld_p, nil_p, guard_skip]
    exact bad (by unfold fitsX; rw [decide_eq_true q1]; rfl)
  have q1' : decide (f.src ≥ (m.n : Int)) = false := decide_eq_false q1
  have hme : (f.src == (m.me : Int)) = decide (f.src = (m.me : Int)) := by by_cases z : f.src = (m.me : Int) <;> simp [z]
  simp only [q1', bnd, guard_tt, guard_ff, guard_tf, guard_ft, pick_t, pick_f, if_t, if_f, add_i, sub_i, lss_i, leq_i, gtr_i, geq_i, eql_i, neq_i, min_i, max_i, conv_i, len_sl, len_nil, not_b, cells_agg, new_s, fld_p, nil_p, lf1 E0, wsrc, l1 E0, hme]
  by_cases q2 : f.src = (m.me : Int)
  · simp only [decide_eq_true q2, bnd, guard_tt, guard_ff, guard_tf, guard_ft, pick_t, pick_f, if_t, if_f, add_i, sub_i, lss_i, leq_i, gtr_i, geq_i, eql_i, neq_i, min_i, max_i, conv_i, len_sl, len_nil, not_b, cells_agg, new_s, fld_p, nil_p]
    exact bad (by unfold fitsX; rw [q1', decide_eq_true q2]; rfl)
  have q2' : decide (f.src = (m.me : Int)) = false := decide_eq_false q2
  simp only [q2', bnd, guard_tt, guard_ff, guard_tf, guard_ft, pick_t, pick_f, if_t, if_f, add_i, sub_i, lss_i, leq_i, gtr_i, geq_i, eql_i, neq_i, min_i, max_i, conv_i, len_sl, len_nil, not_b, cells_agg, new_s, fld_p, nil_p]
  unfold F31.p7 F31.p6 F31.p4 F31.p1
  have hin : (f.inst != m.number) = !decide (f.inst = m.number) := by by_cases z : f.inst = m.number <;> simp [z]
  simp only [bnd, guard_tt, guard_ff, guard_tf, guard_ft, pick_t, pick_f, if_t, if_f, add_i, sub_i, lss_i, leq_i, gtr_i, geq_i, eql_i, neq_i, min_i, max_i, conv_i, len_sl, len_nil, not_b, cells_agg, new_s, fld_p, nil_p, lf E0 hf.c9, l2 E0, hin]
  by_cases q3 : f.inst = m.number
  rotate_left
  · have q3' : decide (f.inst = m.number) = false := decide_eq_false q3
    simp only [q3', Bool.not_false, bnd, guard_tt, guard_ff, guard_tf, guard_ft, pick_t, pick_f, if_t, if_f, add_i, sub_i, lss_i, leq_i, gtr_i, geq_i, eql_i, neq_i, min_i, max_i, conv_i, len_sl, len_nil, not_b, cells_agg, new_s, fld_p, nil_p]
    exact bad (by unfold fitsX; rw [q3', Bool.false_and, Bool.and_false])
  have q3' : decide (f.inst = m.number) = true := decide_eq_true q3
  simp only [q3', Bool.not_true, bnd, guard_tt, guard_ff, guard_tf, guard_ft, pick_t, pick_f, if_t, if_f, add_i, sub_i, lss_i, leq_i, gtr_i, geq_i, eql_i, neq_i, min_i, max_i, conv_i, len_sl, len_nil, not_b, cells_agg, new_s, fld_p, nil_p, lf0 E0]
  by_cases q4 : f.kind < 6
  · simp only [decide_eq_true q4, bnd, guard_tt, guard_ff, guard_tf, guard_ft, pick_t, pick_f, if_t, if_f, add_i, sub_i, lss_i, leq_i, gtr_i, geq_i, eql_i, neq_i, min_i, max_i, conv_i, len_sl, len_nil, not_b, cells_agg, new_s, fld_p, nil_p, guard_skip]
    exact bad (by unfold fitsX; rw [decide_eq_false (show ¬ (6 : Int) ≤ f.kind by omega)]; simp)
  have q4' : decide ((6 : Int) ≤ f.kind) = true := decide_eq_true (by omega)
  simp only [decide_eq_false q4, bnd, guard_tt, guard_ff, guard_tf, guard_ft, pick_t, pick_f, if_t, if_f, add_i, sub_i, lss_i, leq_i, gtr_i, geq_i, eql_i, neq_i, min_i, max_i, conv_i, len_sl, len_nil, not_b, cells_agg, new_s, fld_p, nil_p, lf0 E0]
  by_cases q5 : f.kind > 8
  · simp only [decide_eq_true q5, bnd, guard_tt, guard_ff, guard_tf, guard_ft, pick_t, pick_f, if_t, if_f, add_i, sub_i, lss_i, leq_i, gtr_i, geq_i, eql_i, neq_i, min_i, max_i, conv_i, len_sl, len_nil, not_b, cells_agg, new_s, fld_p, nil_p]
    exact bad (by unfold fitsX; rw [decide_eq_false (show ¬ f.kind ≤ 8 by omega)]; simp)
  have q5' : decide (f.kind ≤ 8) = true := decide_eq_true (by omega)
  simp only [decide_eq_false q5, bnd, guard_tt, guard_ff, guard_tf, guard_ft, pick_t, pick_f, if_t, if_f, add_i, sub_i, lss_i, leq_i, gtr_i, geq_i, eql_i, neq_i, min_i, max_i, conv_i, len_sl, len_nil, not_b, cells_agg, new_s, fld_p, nil_p]
  have hpre : fitsX m f = (okX m f.est && (okX m f.aux && (decide (f.kind ≠ 8) || !decide (f.est = [])))) := by
    unfold fitsX
    rw [q1', q2', q3', q4', q5']
    simp
  rw [hpre]
  have nc := fun {t : Store} {w : AV} {l : List Rn} (hh : IsRuns t w l) {α : Type} (c : AV → Store → Option α) => none_call hh (k + 4) c
  have fin : ∀ (t : Store), Ext s1 t → ∃ s', F31.p0 (k + 5) (AV.ptr s.next 0 16) (AV.func 51 [] []) t = some (.bool (decide (f.kind ≠ 8) || !decide (f.est = [])), s') ∧ Ext s s' := by
    intro t e
    unfold F31.p0
    have hk8 : (f.kind != 8) = decide (f.kind ≠ 8) := by by_cases z : f.kind = 8 <;> simp [z]
    simp only [bnd, guard_tt, guard_ff, guard_tf, guard_ft, pick_t, pick_f, if_t, if_f, add_i, sub_i, lss_i, leq_i, gtr_i, geq_i, eql_i, neq_i, min_i, max_i, conv_i, len_sl, len_nil, not_b, cells_agg, new_s, fld_p, nil_p, lf0 e, hk8]
    by_cases z : f.kind ≠ 8
    · simp only [decide_eq_true z, bnd, guard_tt, guard_ff, guard_tf, guard_ft, pick_t, pick_f, if_t, if_f, add_i, sub_i, lss_i, leq_i, gtr_i, geq_i, eql_i, neq_i, min_i, max_i, conv_i, len_sl, len_nil, not_b, cells_agg, new_s, fld_p, nil_p, guard_skip, Bool.true_or]
      exact ⟨t, rfl, e1.trans e⟩
    · simp only [decide_eq_false z, bnd, guard_tt, guard_ff, guard_tf, guard_ft, pick_t, pick_f, if_t, if_f, add_i, sub_i, lss_i, leq_i, gtr_i, geq_i, eql_i, neq_i, min_i, max_i, conv_i, len_sl, len_nil, not_b, cells_agg, new_s, fld_p, nil_p, lf e hf.c11, nc (hf1.est.ext e), Bool.false_or]
      exact ⟨t, rfl, e1.trans e⟩
  have rest : ∀ (t : Store), Ext s1 t → ∃ s', (aFieldAddr 12 (AV.ptr s.next 0 16) fun v16 => aLoad1 v16 t fun v17 => aCall (rn (k + 5)) (AV.func 51 [] []) [v17] t fun v18 s19 => aUn .not v18 fun v20 => (aGuard v20 true (some (AV.ptr v.x 0 11, s19)) (some (AV.tuple [], s19))).bind fun g21 => (aGuard v20 true (aFieldAddr 12 (AV.ptr s.next 0 16) fun v23 => some (v23, g21.2)) (some (AV.tuple [], g21.2))).bind fun g22 => (aGuard v20 true (aLoad1 g22.1 g22.2 fun v25 => some (v25, g22.2)) (some (AV.tuple [], g22.2))).bind fun g24 => (aGuard v20 true ((rn (k + 5) 52 [g21.1, g24.1] g24.2).bind fun q27 => some (q27.1, q27.2)) (some (AV.tuple [], g24.2))).bind fun g26 => (aGuard v20 true (aUn .not g26.1 fun v29 => some (v29, g26.2)) (some (AV.tuple [], g26.2))).bind fun g28 => aPick v20 g28.1 (AV.bool false) fun v30 => F31.p2 (k + 5) (AV.ptr s.next 0 16) (AV.func 51 [] []) v30 g28.2) = some (.bool (okX m f.aux && (decide (f.kind ≠ 8) || !decide (f.est = []))), s') ∧ Ext s s' := by
    intro t e
    unfold F31.p2 okX
    simp only [bnd, guard_tt, guard_ff, guard_tf, guard_ft, pick_t, pick_f, if_t, if_f, add_i, sub_i, lss_i, leq_i, gtr_i, geq_i, eql_i, neq_i, min_i, max_i, conv_i, len_sl, len_nil, not_b, cells_agg, new_s, fld_p, nil_p, lf e hf.c12, nc (hf1.aux.ext e)]
    by_cases z : f.aux = []
    · simp only [decide_eq_true z, Bool.not_true, bnd, guard_tt, guard_ff, guard_tf, guard_ft, pick_t, pick_f, if_t, if_f, add_i, sub_i, lss_i, leq_i, gtr_i, geq_i, eql_i, neq_i, min_i, max_i, conv_i, len_sl, len_nil, not_b, cells_agg, new_s, fld_p, nil_p, guard_skip, Bool.true_or, Bool.true_and]
      exact fin t e
    · obtain ⟨t2, b1, b2⟩ := xbatch_run (h1.ext e) (hf1.aux.ext e) hf.wfa hf.la k hk (by omega)
      simp only [decide_eq_false z, Bool.not_false, bnd, guard_tt, guard_ff, guard_tf, guard_ft, pick_t, pick_f, if_t, if_f, add_i, sub_i, lss_i, leq_i, gtr_i, geq_i, eql_i, neq_i, min_i, max_i, conv_i, len_sl, len_nil, not_b, cells_agg, new_s, fld_p, nil_p, lf e hf.c12, b1, Bool.false_or]
      cases mayR m.base m.most f.aux
      · simp only [bnd, guard_tt, guard_ff, guard_tf, guard_ft, pick_t, pick_f, if_t, if_f, add_i, sub_i, lss_i, leq_i, gtr_i, geq_i, eql_i, neq_i, min_i, max_i, conv_i, len_sl, len_nil, not_b, cells_agg, new_s, fld_p, nil_p, Bool.not_false, Bool.false_and]
        exact ⟨t2, rfl, e1.trans (e.trans b2)⟩
      · simp only [bnd, guard_tt, guard_ff, guard_tf, guard_ft, pick_t, pick_f, if_t, if_f, add_i, sub_i, lss_i, leq_i, gtr_i, geq_i, eql_i, neq_i, min_i, max_i, conv_i, len_sl, len_nil, not_b, cells_agg, new_s, fld_p, nil_p, Bool.not_true, Bool.true_and]
        exact fin t2 (e.trans b2)
  have rest' := rest
  simp only [bnd, guard_tt, guard_ff, guard_tf, guard_ft, pick_t, pick_f, if_t, if_f, add_i, sub_i, lss_i, leq_i, gtr_i, geq_i, eql_i, neq_i, min_i, max_i, conv_i, len_sl, len_nil, not_b, cells_agg, new_s, fld_p, nil_p] at rest'
  unfold F31.p3
  simp only [bnd, guard_tt, guard_ff, guard_tf, guard_ft, pick_t, pick_f, if_t, if_f, add_i, sub_i, lss_i, leq_i, gtr_i, geq_i, eql_i, neq_i, min_i, max_i, conv_i, len_sl, len_nil, not_b, cells_agg, new_s, fld_p, nil_p, lf E0 hf.c11, nc hf1.est]
  unfold okX
  by_cases z : f.est = []
  · simp only [decide_eq_true z, Bool.not_true, bnd, guard_tt, guard_ff, guard_tf, guard_ft, pick_t, pick_f, if_t, if_f, add_i, sub_i, lss_i, leq_i, gtr_i, geq_i, eql_i, neq_i, min_i, max_i, conv_i, len_sl, len_nil, not_b, cells_agg, new_s, fld_p, nil_p, guard_skip, Bool.true_or, Bool.true_and]
    have := rest' s1 E0
    rw [decide_eq_true z] at this
    exact this
  · obtain ⟨s2, b1, b2⟩ := xbatch_run h1 hf1.est hf.wfe hf.le k hk (by omega)
    simp only [decide_eq_false z, Bool.not_false, bnd, guard_tt, guard_ff, guard_tf, guard_ft, pick_t, pick_f, if_t, if_f, add_i, sub_i, lss_i, leq_i, gtr_i, geq_i, eql_i, neq_i, min_i, max_i, conv_i, len_sl, len_nil, not_b, cells_agg, new_s, fld_p, nil_p, lf E0 hf.c11, b1, Bool.false_or]
    cases mayR m.base m.most f.est
    · unfold F31.p2
      simp only [bnd, guard_tt, guard_ff, guard_tf, guard_ft, pick_t, pick_f, if_t, if_f, add_i, sub_i, lss_i, leq_i, gtr_i, geq_i, eql_i, neq_i, min_i, max_i, conv_i, len_sl, len_nil, not_b, cells_agg, new_s, fld_p, nil_p, Bool.not_false, Bool.false_and]
      exact ⟨s2, rfl, e1.trans b2⟩
    · simp only [bnd, guard_tt, guard_ff, guard_tf, guard_ft, pick_t, pick_f, if_t, if_f, add_i, sub_i, lss_i, leq_i, gtr_i, geq_i, eql_i, neq_i, min_i, max_i, conv_i, len_sl, len_nil, not_b, cells_agg, new_s, fld_p, nil_p, Bool.not_true, Bool.true_and]
      have := rest' s2 b2
      rw [decide_eq_false z] at this
      exact this
end Go.Proofs.Ytmaidlndikcgkaa.Sim
namespace Go.Proofs.Ytmaidlndikcgkaa.Sim
set_option linter.unusedSimpArgs false
set_option linter.unusedVariables false
variable {s s' : Store} {M : List Nat}

def frAt (m : XI) (p ph : Nat) : Option SF := (m.fr[p * 2 + ph]?).getD none
/-- A frame comes. -/
def comeX (m : XI) (f : IFm) : XI × Bool :=
  if fitsX m f = false then (m, false)
  else if f.kind = 8 then (if m.decided = [] then { m with decided := f.est } else m, true)
  else match frAt m f.src.toNat (f.kind - 6).toNat with
    | none => ({ m with fr := m.fr.set (f.src.toNat * 2 + (f.kind - 6).toNat) (some ⟨f.round, f.est, f.aux⟩) }, true)
    | some o => (if f.round > o.round then { m with fr := m.fr.set (f.src.toNat * 2 + (f.kind - 6).toNat) (some ⟨f.round, f.est, f.aux⟩) } else m, true)
theorem fitsX_of {m : XI} {f : IFm} (h : fitsX m f = true) : f.src < m.n ∧ f.src ≠ m.me ∧ f.inst = m.number ∧ 6 ≤ f.kind ∧ f.kind ≤ 8 ∧ okX m f.est = true ∧ okX m f.aux = true ∧ (f.kind = 8 → f.est ≠ []) := by
  unfold fitsX at h
  simp only [Bool.and_eq_true, Bool.not_eq_true', Bool.or_eq_false_iff, decide_eq_false_iff_not, decide_eq_true_eq, Bool.or_eq_true] at h
  obtain ⟨⟨h1, h2⟩, h3, h4, h5, h6, h7, h8⟩ := h
  refine ⟨by omega, h2, h3, h4, h5, h6, h7, fun q => ?_⟩
  rcases h8 with q2 | q2
  · exact absurd q q2
  · exact q2
theorem idx_arr {l off len es ep : Nat} {k : IntKind} {j : Int} {α : Type} {κ : AV → Option α} (h0 : 0 ≤ j) (h1 : j < len) : aIndexArr len es (.ptr l off ep) (.int k j) κ = κ (.ptr l (off + j.toNat * es) ep) := by simp [aIndexArr, h0, h1]
theorem fr_ld {v : XV} {m : XI} (h : IsX s M v m) {j : Nat} {w : AV} (hw : v.fs[j]? = some w) {α : Type} (c : AV → Option α) : aLoad1 (.ptr v.fr j (m.n * 2)) s c = c w := load_1 h.frow h.flen hw
theorem IsX.setF {v : XV} {m : XI} (h : IsX s M v m) {j : Nat} (hj : j < m.n * 2) {p : AV} {o : Option SF} (hp : RelP s M p o) : IsX (s.set v.fr (.cells (v.fs.set j p) false)) M { v with fs := v.fs.set j p } { m with fr := m.fr.set j o } := by
  have e : FrS [v.fr] s (s.set v.fr (.cells (v.fs.set j p) false)) := (Fr1.set _ _ _).frS (by simp)
  have hS : ∀ y ∈ [v.fr], y ∈ M := fun y hy => by rw [List.mem_singleton.1 hy]; exact h.fM
  refine ⟨by show (s.set v.fr _).get v.x = _; rw [get_set, if_neg h.ne]; exact h.st, by show (s.set v.fr _).get v.fr = _; rw [get_set, if_pos rfl], by show (v.fs.set j p).length = _; rw [List.length_set]; exact h.flen, by show (m.fr.set j o).length = _; rw [List.length_set]; exact h.frl, fun i hi => ?_, h.base.frS e fun i b c d f q q2 => h.baseM i b c d f q (hS i q2), h.baseM, h.baseU, h.baseL, h.est.frS e hS, h.vote.frS e hS, h.dec.frS e hS, h.decn, h.xM, h.fM, h.ne, h.xl, h.fl, h.n1, h.me, h.num, h.most, h.rnd⟩
  obtain ⟨p0, o0, h1, h2, h3⟩ := h.rel i hi
  by_cases q : j = i
  · subst q
    refine ⟨p, o, ?_, ?_, hp.frS e hS⟩
    · show (v.fs.set j p)[j]? = _
      rw [List.getElem?_set, if_pos rfl, if_pos (by rw [h.flen]; exact hj)]
    · show (m.fr.set j o)[j]? = _
      rw [List.getElem?_set, if_pos rfl, if_pos (by rw [h.frl]; exact hj)]
  · refine ⟨p0, o0, ?_, ?_, h3.frS e hS⟩
    · show (v.fs.set j p)[i]? = _
      rw [List.getElem?_set, if_neg q]; exact h1
    · show (m.fr.set j o)[i]? = _
      rw [List.getElem?_set, if_neg q]; exact h2
/-- What an act on an instance leaves. -/
structure ActQ (s : Store) (M : List Nat) (v : XV) (m' : XI) (s' : Store) : Prop where
  ex : ∃ v', IsX s' M v' m' ∧ v'.x = v.x ∧ v'.fr = v.fr
  fr : FrS [v.x, v.fr] s s'
theorem come_run {v : XV} {m : XI} {cs : List AV} {ev av : AV} {f : IFm} (h : IsX s M v m) (hM : ∀ y ∈ M, y < s.next) (hf : IsIF s cs ev av f) (k : Nat) (hk : 1000 ≤ k) (hk2 : k ≤ 100000000) : ∃ s', rn (k + 7) 16 [.ptr v.x 0 11, .agg cs] s = some (.bool (comeX m f).2, s') ∧ ActQ s M v (comeX m f).1 s' := by
  rw [show k + 7 = (k + 6) + 1 from rfl, F16.eq]
  unfold F16.f F16.p11 F16.p10
  have e1 := Ext.push s (.cells cs false)
  have hx1 : (s.push (.cells cs false)).get s.next = .cells cs false := by rw [get_push, if_pos rfl]
  have hn1 : (s.push (.cells cs false)).next = s.next + 1 := rfl
  simp only [cells_agg, new_s, hf.len]
  have h1 := h.ext e1
  have hf1 := hf.ext e1
  generalize s.push (.cells cs false) = s1 at e1 hx1 hn1 h1 hf1 ⊢
  have ldf : ∀ {α : Type} (c : AV → Option α), aLoadN 16 (.ptr s.next 0 16) s1 c = c (.agg cs) := fun c => by
    rw [load_n hx1 hf.len (by omega), List.drop_zero, List.take_of_length_le (by rw [hf.len]; exact Nat.le_refl _)]
  obtain ⟨s2, f1, f2⟩ := fits_run h1 hf1 k hk hk2
  simp only [nilp_p, bnd, guard_tt, guard_ff, guard_tf, guard_ft, pick_t, pick_f, if_t, if_f, add_i, sub_i, lss_i, leq_i, gtr_i, geq_i, eql_i, neq_i, min_i, max_i, conv_i, len_sl, len_nil, not_b, cells_agg, new_s, fld_p, nil_p, ldf, f1]
  have e2 := e1.trans f2
  have h2 := h1.ext f2
  have hx2 := (f2.get s.next (by omega)).trans hx1
  cases hfit : fitsX m f
  · simp only [bnd, guard_tt, guard_ff, guard_tf, guard_ft, pick_t, pick_f, if_t, if_f, add_i, sub_i, lss_i, leq_i, gtr_i, geq_i, eql_i, neq_i, min_i, max_i, conv_i, len_sl, len_nil, not_b, cells_agg, new_s, fld_p, nil_p, Bool.not_false]
    have hc : comeX m f = (m, false) := by unfold comeX; rw [if_pos hfit]
    rw [hc]
    exact ⟨s2, rfl, ⟨v, h2, rfl, rfl⟩, e2.frS _⟩
  simp only [bnd, guard_tt, guard_ff, guard_tf, guard_ft, pick_t, pick_f, if_t, if_f, add_i, sub_i, lss_i, leq_i, gtr_i, geq_i, eql_i, neq_i, min_i, max_i, conv_i, len_sl, len_nil, not_b, cells_agg, new_s, fld_p, nil_p, Bool.not_true]
  obtain ⟨t1, t2, t3, t4, t5, t6, t7, t8⟩ := fitsX_of hfit
  unfold F16.p9
  have lf11 : ∀ {α : Type} (c : AV → Option α), aLoad1 (.ptr s.next (0 + 11) 16) s2 c = c ev := fun c => ld_fld hx2 hf.len hf.c11 c
  obtain ⟨ev', s3, a1, a2, a3⟩ := clone_runs (hf1.est.ext f2) (by have := hf.le; omega) (k + 5)
  have a1' : rn (k + 6) 32 [ev] s2 = some (ev', s3) := a1
  have hx3 := (a3.get s.next (by have := f2.next; omega)).trans hx2
  have lf12 : ∀ {t : Store}, t.get s.next = .cells cs false → ∀ {α : Type} (c : AV → Option α), aLoad1 (.ptr s.next (0 + 12) 16) t c = c av := fun {t} ht {α} c => ld_fld ht hf.len hf.c12 c
  obtain ⟨av', s4, b1, b2, b3⟩ := clone_runs ((hf1.aux.ext f2).ext a3) (by have := hf.la; omega) (k + 5)
  have b1' : rn (k + 6) 32 [av] s3 = some (av', s4) := b1
  have hx4 := (b3.get s.next (by have := f2.next; have := a3.next; omega)).trans hx3
  have hs2n : s.next + 1 ≤ s2.next := by have := f2.next; omega
  have hM2 : ∀ y ∈ M, y < s2.next := fun y hy => by have := hM y hy; omega
  have re := own_rm (a2.ext b3) hM2 hf.wfe hf.le
  have ra := own_rm b2 (fun y hy => Nat.lt_of_lt_of_le (hM2 y hy) a3.next) hf.wfa hf.la
  have o1 : ev'.one = true := re.one
  have o2 : av'.one = true := ra.one
  have st1 := fun {α : Type} (c : Store → Option α) => st_fld (ep := 16) (j := 11) hx4 hf.len (by decide) (fun f => c_one o1 f) c
  have hx5 : (s4.set s.next (.cells (cs.set 11 ev') false)).get s.next = .cells (cs.set 11 ev') false := by rw [get_set, if_pos rfl]
  have st2 := fun {α : Type} (c : Store → Option α) => st_fld (ep := 16) (j := 12) (v := av') hx5 ((List.length_set ..).trans hf.len) (by decide) (fun f => c_one o2 f) c
  simp only [bnd, guard_tt, guard_ff, guard_tf, guard_ft, pick_t, pick_f, if_t, if_f, add_i, sub_i, lss_i, leq_i, gtr_i, geq_i, eql_i, neq_i, min_i, max_i, conv_i, len_sl, len_nil, not_b, cells_agg, new_s, fld_p, nil_p, lf11, a1', lf12 hx3, lf12 hx2, aSame_self, b1', st1, st2]
  obtain ⟨s6, hs6⟩ : ∃ t : Store, t = (s4.set s.next (.cells (cs.set 11 ev') false)).set s.next (.cells ((cs.set 11 ev').set 12 av') false) := ⟨_, rfl⟩
  have hx6 : s6.get s.next = .cells ((cs.set 11 ev').set 12 av') false := by rw [hs6, get_set, if_pos rfl]
  have n6 : s6.next = s4.next := by rw [hs6]; rfl
  have k6 : ∀ l, l ≠ s.next → s6.get l = s4.get l := fun l hl => by rw [hs6, get_set, if_neg hl, get_set, if_neg hl]
  rw [← hs6]
  clear hs6 st1 st2 hx5
  have E6 : Ext s s6 := ⟨by have := a3.next; have := b3.next; omega, fun l hl => by rw [k6 l (by omega)]; exact ((e2.trans a3).trans b3).get l hl⟩
  have F46 : FrS [s.next] s4 s6 := ⟨by omega, fun l hl hn => k6 l (by simpa using hn)⟩
  have hnM : s.next ∉ M := fun q => by have := hM _ q; omega
  have h6 := h.ext E6
  have re6 : IsRM s6 M ev' f.est := ⟨re.is.frS F46 fun i b c d e q => by
    rcases a2 with ⟨q1, _⟩ | ⟨id, q1, q2, _⟩
    · rw [q1] at q; cases q
    · rw [q1] at q
      injection q with q
      simp; omega, re.off, re.wf, re.len⟩
  have ra6 : IsRM s6 M av' f.aux := ⟨ra.is.frS F46 fun i b c d e q => by
    rcases b2 with ⟨q1, _⟩ | ⟨id, q1, q2, _⟩
    · rw [q1] at q; cases q
    · rw [q1] at q
      injection q with q
      have := a3.next
      simp; omega, ra.off, ra.wf, ra.len⟩
  have hlen6 : ((cs.set 11 ev').set 12 av').length = 16 := by rw [List.length_set, List.length_set]; exact hf.len
  have g0 : ((cs.set 11 ev').set 12 av')[0]? = some (.int .u8 f.kind) := by rw [List.getElem?_set, if_neg (by decide), List.getElem?_set, if_neg (by decide)]; exact hf.c0
  have g1 : ((cs.set 11 ev').set 12 av')[1]? = some (.int .u8 f.src) := by rw [List.getElem?_set, if_neg (by decide), List.getElem?_set, if_neg (by decide)]; exact hf.c1
  have g10 : ((cs.set 11 ev').set 12 av')[10]? = some (.int .u64 f.round) := by rw [List.getElem?_set, if_neg (by decide), List.getElem?_set, if_neg (by decide)]; exact hf.c10
  have g11 : ((cs.set 11 ev').set 12 av')[11]? = some ev' := by rw [List.getElem?_set, if_neg (by decide), List.getElem?_set, if_pos rfl, if_pos (by rw [hf.len]; decide)]
  have g12 : ((cs.set 11 ev').set 12 av')[12]? = some av' := by rw [List.getElem?_set, if_pos rfl, if_pos (by rw [List.length_set, hf.len]; decide)]
  generalize ((cs.set 11 ev').set 12 av') = cs6 at hx6 hlen6 g0 g1 g10 g11 g12
  have lf : ∀ {j : Nat} {w : AV}, cs6[j]? = some w → ∀ {α : Type} (c : AV → Option α), aLoad1 (.ptr s.next (0 + j) 16) s6 c = c w := fun {j w} hw {α} c => ld_fld hx6 hlen6 hw c
  have lf0 : ∀ {α : Type} (c : AV → Option α), aLoad1 (.ptr s.next (0 + 0 + 0) 16) s6 c = c (.int .u8 f.kind) := fun c => lf g0 c
  have lf1 : ∀ {α : Type} (c : AV → Option α), aLoad1 (.ptr s.next (0 + 0 + 1) 16) s6 c = c (.int .u8 f.src) := fun c => lf g1 c
  have hcome : comeX m f = (if f.kind = 8 then (if m.decided = [] then { m with decided := f.est } else m, true)
      else match frAt m f.src.toNat (f.kind - 6).toNat with
        | none => ({ m with fr := m.fr.set (f.src.toNat * 2 + (f.kind - 6).toNat) (some ⟨f.round, f.est, f.aux⟩) }, true)
        | some o => (if f.round > o.round then { m with fr := m.fr.set (f.src.toNat * 2 + (f.kind - 6).toNat) (some ⟨f.round, f.est, f.aux⟩) } else m, true)) := by
    unfold comeX
    rw [if_neg (by rw [hfit]; decide)]
  unfold F16.p8 F16.p7
  have hk8 : (f.kind == 8) = decide (f.kind = 8) := by by_cases z : f.kind = 8 <;> simp [z]
  simp only [bnd, guard_tt, guard_ff, guard_tf, guard_ft, pick_t, pick_f, if_t, if_f, add_i, sub_i, lss_i, leq_i, gtr_i, geq_i, eql_i, neq_i, min_i, max_i, conv_i, len_sl, len_nil, not_b, cells_agg, new_s, fld_p, nil_p, lf0, hk8]
  rw [hcome]
  by_cases z : f.kind = 8
  · rw [if_pos z]
    simp only [decide_eq_true z, bnd, guard_tt, guard_ff, guard_tf, guard_ft, pick_t, pick_f, if_t, if_f, add_i, sub_i, lss_i, leq_i, gtr_i, geq_i, eql_i, neq_i, min_i, max_i, conv_i, len_sl, len_nil, not_b, cells_agg, new_s, fld_p, nil_p]
    unfold F16.p5 F16.p4
    have ld9 := fun {α : Type} (c : AV → Option α) => x_fld h6 (j := 9) (w := v.dv) rfl c
    by_cases hd : m.decided = []
    · rw [if_pos hd]
      have hdv := h.decn hd
      have hst := fun {α : Type} (c : Store → Option α) => x_st h6 (j := 9) (w := ev') (by decide) o1 c
      have hq : ∀ {α : Type} (c : Bool → Option α), aEq .sl v.dv .nilsl c = c true := fun c => by rw [hdv]; rfl
      simp only [bnd, guard_tt, guard_ff, guard_tf, guard_ft, pick_t, pick_f, if_t, if_f, add_i, sub_i, lss_i, leq_i, gtr_i, geq_i, eql_i, neq_i, min_i, max_i, conv_i, len_sl, len_nil, not_b, cells_agg, new_s, fld_p, nil_p, ld9, hq, lf g11, hst]
      have hown := IsX.own (v' := { v with dv := ev' }) (m' := { m with decided := f.est }) h6 rfl rfl rfl rfl rfl rfl rfl rfl rfl rfl h6.est h6.vote re6 (fun q => absurd q (t8 z)) h.rnd
      exact ⟨_, rfl, ⟨_, hown, rfl, rfl⟩, (E6.frS _).trans ((Fr1.set _ _ _).frS (S := [v.x, v.fr]) (by simp)) fun l hl => .inl hl⟩
    · rw [if_neg hd]
      have hq : ∀ {α : Type} (c : Bool → Option α), aEq .sl v.dv .nilsl c = c false := fun c => by
        rcases h.dec.is with ⟨_, q⟩ | ⟨id, ro, q, _⟩
        · exact absurd q hd
        · rw [q]; rfl
      simp only [bnd, guard_tt, guard_ff, guard_tf, guard_ft, pick_t, pick_f, if_t, if_f, add_i, sub_i, lss_i, leq_i, gtr_i, geq_i, eql_i, neq_i, min_i, max_i, conv_i, len_sl, len_nil, not_b, cells_agg, new_s, fld_p, nil_p, ld9, hq]
      exact ⟨_, rfl, ⟨v, h6, rfl, rfl⟩, E6.frS _⟩
  · rw [if_neg z]
    simp only [decide_eq_false z, bnd, guard_tt, guard_ff, guard_tf, guard_ft, pick_t, pick_f, if_t, if_f, add_i, sub_i, lss_i, leq_i, gtr_i, geq_i, eql_i, neq_i, min_i, max_i, conv_i, len_sl, len_nil, not_b, cells_agg, new_s, fld_p, nil_p]
    unfold F16.p6 F16.p3
    obtain ⟨p, hp⟩ : ∃ p : Nat, f.src = (p : Int) := ⟨f.src.toNat, by have := hf.src; omega⟩
    obtain ⟨ph, hph⟩ : ∃ ph : Nat, f.kind - 6 = (ph : Int) := ⟨(f.kind - 6).toNat, by omega⟩
    have hp1 : p < m.n := by omega
    have hph1 : ph < 2 := by omega
    have hj : p * 2 + ph < m.n * 2 := by omega
    have ld10 := fun {α : Type} (c : AV → Option α) => x_fld h6 (j := 10) (w := .sl v.fr 0 m.n 2 (m.n * 2)) rfl c
    have hsub : IntKind.u8.wrap (f.kind - 6) = (ph : Int) := by rw [hph, w_u8 (by omega) (by omega)]
    have hix1 : ∀ {α : Type} (c : AV → Option α), aIndexSl 2 (.sl v.fr 0 m.n 2 (m.n * 2)) (.int .u8 (p : Int)) c = c (.ptr v.fr (0 + p * 2) (m.n * 2)) := fun c => by
      rw [index_sl (by omega) (by omega), Int.toNat_natCast]
    have hix2 : ∀ {α : Type} (c : AV → Option α), aIndexArr 2 1 (.ptr v.fr (0 + p * 2) (m.n * 2)) (.int .u8 (ph : Int)) c = c (.ptr v.fr (p * 2 + ph) (m.n * 2)) := fun c => by
      rw [idx_arr (by omega) (by omega), Int.toNat_natCast, Nat.mul_one, Nat.zero_add]
    obtain ⟨pp, oo, r1, r2, r3⟩ := h6.rel _ hj
    have ldp := fun {α : Type} (c : AV → Option α) => fr_ld h6 r1 c
    have hat : frAt m f.src.toNat (f.kind - 6).toNat = oo := by
      unfold frAt
      rw [hp, hph, Int.toNat_natCast, Int.toNat_natCast, r2]
      rfl
    have hjn : f.src.toNat * 2 + (f.kind - 6).toNat = p * 2 + ph := by rw [hp, hph]; rfl
    rw [hat, hjn]
    have hnew : RelP s6 M (.ptr s.next 0 16) (some ⟨f.round, f.est, f.aux⟩) := .inr ⟨s.next, _, rfl, rfl, ⟨hnM, by have := E6.next; have := a3.next; have := b3.next; omega, ⟨cs6, false, ev', av', hx6, hlen6, g10, g11, g12, re6, ra6⟩, hf.rnd⟩⟩
    have hst := fun {α : Type} (c : Store → Option α) => show aStore 1 (.ptr v.fr (p * 2 + ph) (m.n * 2)) (.ptr s.next 0 16) s6 c = c (s6.set v.fr (.cells (v.fs.set (p * 2 + ph) (.ptr s.next 0 16)) false)) from by
      have := st_fld (ep := m.n * 2) (j := p * 2 + ph) (v := .ptr s.next 0 16) h6.frow h6.flen (by omega) (fun f => rfl) c
      rw [Nat.zero_add] at this
      exact this
    have put : ∃ s', (some (AV.bool true, s6.set v.fr (.cells (v.fs.set (p * 2 + ph) (.ptr s.next 0 16)) false)) : Option (AV × Store)) = some (.bool true, s') ∧ ActQ s M v { m with fr := m.fr.set (p * 2 + ph) (some ⟨f.round, f.est, f.aux⟩) } s' :=
      ⟨_, rfl, ⟨_, h6.setF hj hnew, rfl, rfl⟩, (E6.frS _).trans ((Fr1.set _ _ _).frS (S := [v.x, v.fr]) (by simp)) fun l hl => .inl hl⟩
    simp only [bnd, guard_tt, guard_ff, guard_tf, guard_ft, pick_t, pick_f, if_t, if_f, add_i, sub_i, lss_i, leq_i, gtr_i, geq_i, eql_i, neq_i, min_i, max_i, conv_i, len_sl, len_nil, not_b, cells_agg, new_s, fld_p, nil_p, ld10, lf1, lf0, hp, hsub, hix1, hix2]
    unfold F16.p2 F16.p1 F16.p0
    rcases r3 with ⟨rfl, rfl⟩ | ⟨q, o, rfl, rfl, r4⟩
    · simp only [bnd, guard_tt, guard_ff, guard_tf, guard_ft, pick_t, pick_f, if_t, if_f, add_i, sub_i, lss_i, leq_i, gtr_i, geq_i, eql_i, neq_i, min_i, max_i, conv_i, len_sl, len_nil, not_b, cells_agg, new_s, fld_p, nil_p, ldp, nilp_n, guard_skip, hst]
      exact put
    · obtain ⟨cs7, ro7, ev7, av7, w1, w2, w3, w4, w5, w6, w7⟩ := r4.row
      have ldr : ∀ {α : Type} (c : AV → Option α), aLoad1 (.ptr q (0 + 10) 16) s6 c = c (.int .u64 o.round) := fun c => ld_fld w1 w2 w3 c
      simp only [bnd, guard_tt, guard_ff, guard_tf, guard_ft, pick_t, pick_f, if_t, if_f, add_i, sub_i, lss_i, leq_i, gtr_i, geq_i, eql_i, neq_i, min_i, max_i, conv_i, len_sl, len_nil, not_b, cells_agg, new_s, fld_p, nil_p, ldp, nilp_p, lf g10, ldr]
      by_cases hr : f.round > o.round
      · simp only [decide_eq_true hr, bnd, guard_tt, guard_ff, guard_tf, guard_ft, pick_t, pick_f, if_t, if_f, add_i, sub_i, lss_i, leq_i, gtr_i, geq_i, eql_i, neq_i, min_i, max_i, conv_i, len_sl, len_nil, not_b, cells_agg, new_s, fld_p, nil_p, hst, if_pos hr]
        exact put
      · simp only [decide_eq_false hr, bnd, guard_tt, guard_ff, guard_tf, guard_ft, pick_t, pick_f, if_t, if_f, add_i, sub_i, lss_i, leq_i, gtr_i, geq_i, eql_i, neq_i, min_i, max_i, conv_i, len_sl, len_nil, not_b, cells_agg, new_s, fld_p, nil_p, if_neg hr]
        exact ⟨_, rfl, ⟨v, h6, rfl, rfl⟩, E6.frS _⟩
end Go.Proofs.Ytmaidlndikcgkaa.Sim
namespace Go.Proofs.Ytmaidlndikcgkaa.Sim
set_option linter.unusedSimpArgs false
set_option linter.unusedVariables false
variable {s s' : Store} {M : List Nat}

theorem rof_run {n : Nat} (hn : 1 ≤ n ∧ n ≤ 64) (k : Nat) (s : Store) : rn (k + 1) 70 [.int .i64 (n : Int)] s = some (.bool true, s) := by
  rw [F70.eq]
  unfold F70.f F70.p0
  simp only [bnd, guard_tt, guard_ff, guard_tf, guard_ft, pick_t, pick_f, if_t, if_f, add_i, sub_i, lss_i, leq_i, gtr_i, geq_i, eql_i, neq_i, min_i, max_i, conv_i, len_sl, len_nil, not_b, cells_agg, new_s, fld_p, nil_p, decide_eq_true (show (n : Int) ≥ 1 by omega), decide_eq_true (show (n : Int) ≤ 64 by omega)]
def coordN (n : Nat) (number round : Int) : Nat := ((min number 4611686018427387904 + min round 4611686018427387904) % (n : Int)).toNat
theorem coordN_lt {n : Nat} (hn : 1 ≤ n) (number round : Int) : coordN n number round < n := by
  unfold coordN
  have h1 := Int.emod_nonneg (min number 4611686018427387904 + min round 4611686018427387904) (b := (n : Int)) (by omega)
  have h2 := Int.emod_lt_of_pos (min number 4611686018427387904 + min round 4611686018427387904) (b := (n : Int)) (by omega)
  omega
theorem coord_run {n : Nat} (hn : 1 ≤ n ∧ n ≤ 64) {number round : Int} (h1 : 0 ≤ number) (h2 : 0 ≤ round) (k : Nat) (s : Store) : rn (k + 2) 58 [.int .i64 (n : Int), .int .u64 number, .int .u64 round] s = some (.int .i64 (coordN n number round : Nat), s) := by
  rw [show k + 2 = (k + 1) + 1 from rfl, F58.eq]
  unfold F58.f F58.p0
  have hw : IntKind.u64.wrap (min number 4611686018427387904 + min round 4611686018427387904) = min number 4611686018427387904 + min round 4611686018427387904 := w_u64 (by omega) (by omega)
  have hwn : IntKind.u64.wrap (n : Int) = (n : Int) := w_u64 (by omega) (by omega)
  have hr : ∀ {α : Type} (f : AV → Option α), aBin .rem (.int .u64 (min number 4611686018427387904 + min round 4611686018427387904)) (.int .u64 (n : Int)) f = f (.int .u64 ((coordN n number round : Nat) : Int)) := fun f => by
    have hne : ¬ (n : Int) = 0 := by omega
    simp only [aBin, intBin, if_true, if_neg hne, Int.tmod_eq_emod_of_nonneg (show 0 ≤ min number 4611686018427387904 + min round 4611686018427387904 by omega)]
    have h3 := Int.emod_nonneg (min number 4611686018427387904 + min round 4611686018427387904) (b := (n : Int)) (by omega)
    rw [show ((coordN n number round : Nat) : Int) = (min number 4611686018427387904 + min round 4611686018427387904) % (n : Int) by unfold coordN; omega]
  have hlt := coordN_lt (n := n) hn.1 number round
  have hwc : IntKind.i64.wrap ((coordN n number round : Nat) : Int) = ((coordN n number round : Nat) : Int) := w_i64 (by omega) (by omega)
  simp only [rof_run hn k s, bnd, guard_tt, guard_ff, guard_tf, guard_ft, pick_t, pick_f, if_t, if_f, add_i, sub_i, lss_i, leq_i, gtr_i, geq_i, eql_i, neq_i, min_i, max_i, conv_i, len_sl, len_nil, not_b, cells_agg, new_s, fld_p, nil_p, Bool.not_true, hw, hwn, hr, hwc]
theorem maj_run {n : Nat} (hn : 1 ≤ n ∧ n ≤ 64) (k : Nat) (s : Store) : rn (k + 2) 72 [.int .i64 (n : Int)] s = some (.int .i64 ((n / 2 + 1 : Nat) : Int), s) := by
  rw [show k + 2 = (k + 1) + 1 from rfl, F72.eq]
  unfold F72.f F72.p0
  have hq : ∀ {α : Type} (f : AV → Option α), aBin .quo (.int .i64 (n : Int)) (.int .i64 2) f = f (.int .i64 ((n / 2 : Nat) : Int)) := fun f => by
    simp only [aBin, intBin, if_true]
    rw [if_neg (by decide), Int.tdiv_eq_ediv_of_nonneg (by omega), w_i64 (by omega) (by omega)]
    congr 2
  have hw : IntKind.i64.wrap (((n / 2 : Nat) : Int) + 1) = ((n / 2 + 1 : Nat) : Int) := by rw [w_i64 (by omega) (by omega)]; omega
  simp only [rof_run hn k s, bnd, guard_tt, guard_ff, guard_tf, guard_ft, pick_t, pick_f, if_t, if_f, add_i, sub_i, lss_i, leq_i, gtr_i, geq_i, eql_i, neq_i, min_i, max_i, conv_i, len_sl, len_nil, not_b, cells_agg, new_s, fld_p, nil_p, Bool.not_true, hq, hw]
/-- What comes of votes. -/
def judgeN (n a b : Nat) (held : Bool) : Nat :=
  if a > n ∨ b > n - a then 1
  else if a ≥ n / 2 + 1 then 4
  else if a + b < n / 2 + 1 then 1
  else if a = 0 then 2
  else if held = true then 3
  else if n - b < n / 2 + 1 then 2 else 1
theorem judgeR_run {n a b : Nat} (hn : 1 ≤ n ∧ n ≤ 64) (ha : a ≤ 100000) (hb : b ≤ 100000) (held : Bool) (k : Nat) (s : Store) : rn (k + 3) 62 [.int .i64 (n : Int), .int .i64 (a : Int), .int .i64 (b : Int), .bool held] s = some (.int .u8 ((judgeN n a b held : Nat) : Int), s) := by
  rw [show k + 3 = (k + 2) + 1 from rfl, F62.eq]
  unfold F62.f F62.p5 F62.p4 F62.p3 F62.p2 F62.p1 F62.p0
  have hmr := maj_run hn k s
  have hof := rof_run hn (k + 1) s
  have hma : max (a : Int) 0 = (a : Int) := by omega
  have hmb : max (b : Int) 0 = (b : Int) := by omega
  have hws : IntKind.i64.wrap ((n : Int) - (a : Int)) = (n : Int) - (a : Int) := w_i64 (by omega) (by omega)
  have hws2 : IntKind.i64.wrap ((n : Int) - (b : Int)) = (n : Int) - (b : Int) := w_i64 (by omega) (by omega)
  have hwa : IntKind.i64.wrap ((a : Int) + (b : Int)) = (a : Int) + (b : Int) := w_i64 (by omega) (by omega)
  simp only [bnd, guard_tt, guard_ff, guard_tf, guard_ft, pick_t, pick_f, if_t, if_f, add_i, sub_i, lss_i, leq_i, gtr_i, geq_i, eql_i, neq_i, min_i, max_i, conv_i, len_sl, len_nil, not_b, cells_agg, new_s, fld_p, nil_p, hma, hmb, hmr, hof, Bool.not_true]
  unfold judgeN
  by_cases h1 : a > n
  · rw [if_pos (.inl h1)]
    simp only [decide_eq_true (show (a : Int) > (n : Int) by omega), bnd, guard_tt, guard_ff, guard_tf, guard_ft, pick_t, pick_f, if_t, if_f, add_i, sub_i, lss_i, leq_i, gtr_i, geq_i, eql_i, neq_i, min_i, max_i, conv_i, len_sl, len_nil, not_b, cells_agg, new_s, fld_p, nil_p, guard_skip]
    rfl
  simp only [decide_eq_false (show ¬ (a : Int) > (n : Int) by omega), bnd, guard_tt, guard_ff, guard_tf, guard_ft, pick_t, pick_f, if_t, if_f, add_i, sub_i, lss_i, leq_i, gtr_i, geq_i, eql_i, neq_i, min_i, max_i, conv_i, len_sl, len_nil, not_b, cells_agg, new_s, fld_p, nil_p, hws]
  by_cases h2 : b > n - a
  · rw [if_pos (.inr h2)]
    simp only [decide_eq_true (show (b : Int) > (n : Int) - (a : Int) by omega), bnd, guard_tt, guard_ff, guard_tf, guard_ft, pick_t, pick_f, if_t, if_f, add_i, sub_i, lss_i, leq_i, gtr_i, geq_i, eql_i, neq_i, min_i, max_i, conv_i, len_sl, len_nil, not_b, cells_agg, new_s, fld_p, nil_p]
    rfl
  rw [if_neg (by omega)]
  simp only [decide_eq_false (show ¬ (b : Int) > (n : Int) - (a : Int) by omega), bnd, guard_tt, guard_ff, guard_tf, guard_ft, pick_t, pick_f, if_t, if_f, add_i, sub_i, lss_i, leq_i, gtr_i, geq_i, eql_i, neq_i, min_i, max_i, conv_i, len_sl, len_nil, not_b, cells_agg, new_s, fld_p, nil_p]
  by_cases h3 : a ≥ n / 2 + 1
  · rw [if_pos h3]
    simp only [decide_eq_true (show (a : Int) ≥ ((n / 2 + 1 : Nat) : Int) by omega), bnd, guard_tt, guard_ff, guard_tf, guard_ft, pick_t, pick_f, if_t, if_f, add_i, sub_i, lss_i, leq_i, gtr_i, geq_i, eql_i, neq_i, min_i, max_i, conv_i, len_sl, len_nil, not_b, cells_agg, new_s, fld_p, nil_p]
    rfl
  rw [if_neg h3]
  simp only [decide_eq_false (show ¬ (a : Int) ≥ ((n / 2 + 1 : Nat) : Int) by omega), bnd, guard_tt, guard_ff, guard_tf, guard_ft, pick_t, pick_f, if_t, if_f, add_i, sub_i, lss_i, leq_i, gtr_i, geq_i, eql_i, neq_i, min_i, max_i, conv_i, len_sl, len_nil, not_b, cells_agg, new_s, fld_p, nil_p, hwa]
  by_cases h4 : a + b < n / 2 + 1
  · rw [if_pos h4]
    simp only [decide_eq_true (show (a : Int) + (b : Int) < ((n / 2 + 1 : Nat) : Int) by omega), bnd, guard_tt, guard_ff, guard_tf, guard_ft, pick_t, pick_f, if_t, if_f, add_i, sub_i, lss_i, leq_i, gtr_i, geq_i, eql_i, neq_i, min_i, max_i, conv_i, len_sl, len_nil, not_b, cells_agg, new_s, fld_p, nil_p]
    rfl
  rw [if_neg h4]
  simp only [decide_eq_false (show ¬ (a : Int) + (b : Int) < ((n / 2 + 1 : Nat) : Int) by omega), bnd, guard_tt, guard_ff, guard_tf, guard_ft, pick_t, pick_f, if_t, if_f, add_i, sub_i, lss_i, leq_i, gtr_i, geq_i, eql_i, neq_i, min_i, max_i, conv_i, len_sl, len_nil, not_b, cells_agg, new_s, fld_p, nil_p]
  by_cases h5 : a = 0
  · rw [if_pos h5]
    have : ((a : Int) == 0) = true := by simpa using h5
    simp only [this, bnd, guard_tt, guard_ff, guard_tf, guard_ft, pick_t, pick_f, if_t, if_f, add_i, sub_i, lss_i, leq_i, gtr_i, geq_i, eql_i, neq_i, min_i, max_i, conv_i, len_sl, len_nil, not_b, cells_agg, new_s, fld_p, nil_p]
    rfl
  rw [if_neg h5]
  have : ((a : Int) == 0) = false := by simpa using h5
  simp only [this, bnd, guard_tt, guard_ff, guard_tf, guard_ft, pick_t, pick_f, if_t, if_f, add_i, sub_i, lss_i, leq_i, gtr_i, geq_i, eql_i, neq_i, min_i, max_i, conv_i, len_sl, len_nil, not_b, cells_agg, new_s, fld_p, nil_p, hws2]
  cases held
  · simp only [bnd, guard_tt, guard_ff, guard_tf, guard_ft, pick_t, pick_f, if_t, if_f, add_i, sub_i, lss_i, leq_i, gtr_i, geq_i, eql_i, neq_i, min_i, max_i, conv_i, len_sl, len_nil, not_b, cells_agg, new_s, fld_p, nil_p, Bool.false_eq_true, if_false]
    by_cases h6 : n - b < n / 2 + 1
    · rw [if_pos h6]
      simp only [decide_eq_true (show (n : Int) - (b : Int) < ((n / 2 + 1 : Nat) : Int) by omega), bnd, guard_tt, guard_ff, guard_tf, guard_ft, pick_t, pick_f, if_t, if_f, add_i, sub_i, lss_i, leq_i, gtr_i, geq_i, eql_i, neq_i, min_i, max_i, conv_i, len_sl, len_nil, not_b, cells_agg, new_s, fld_p, nil_p]
      rfl
    · rw [if_neg h6]
      simp only [decide_eq_false (show ¬ (n : Int) - (b : Int) < ((n / 2 + 1 : Nat) : Int) by omega), bnd, guard_tt, guard_ff, guard_tf, guard_ft, pick_t, pick_f, if_t, if_f, add_i, sub_i, lss_i, leq_i, gtr_i, geq_i, eql_i, neq_i, min_i, max_i, conv_i, len_sl, len_nil, not_b, cells_agg, new_s, fld_p, nil_p]
      rfl
  · simp only [bnd, guard_tt, guard_ff, guard_tf, guard_ft, pick_t, pick_f, if_t, if_f, add_i, sub_i, lss_i, leq_i, gtr_i, geq_i, eql_i, neq_i, min_i, max_i, conv_i, len_sl, len_nil, not_b, cells_agg, new_s, fld_p, nil_p, if_true]
    rfl

def ofX (m : XI) (p ph : Nat) : Option SF := match frAt m p ph with
  | some f => if f.round = m.round then some f else none
  | none => none
theorem of_run {v : XV} {m : XI} (h : IsX s M v m) {p ph : Nat} (hp : p < m.n) (hph : ph < 2) (k : Nat) : ∃ pp, rn (k + 1) 59 [.ptr v.x 0 11, .int .i64 (p : Int), .int .u8 ((6 + ph : Nat) : Int)] s = some (pp, s) ∧ RelP s M pp (ofX m p ph) := by
  rw [F59.eq]
  unfold F59.f F59.p4 F59.p3 F59.p2 F59.p1 F59.p0
  have ld10 := fun {α : Type} (c : AV → Option α) => x_fld h (j := 10) (w := .sl v.fr 0 m.n 2 (m.n * 2)) rfl c
  have ld5 := fun {α : Type} (c : AV → Option α) => x_fld h (j := 5) (w := .int .u64 m.round) rfl c
  have hsub : IntKind.u8.wrap (((6 + ph : Nat) : Int) - 6) = (ph : Int) := by rw [w_u8 (by omega) (by omega)]; omega
  have hix1 : ∀ {α : Type} (c : AV → Option α), aIndexSl 2 (.sl v.fr 0 m.n 2 (m.n * 2)) (.int .i64 (p : Int)) c = c (.ptr v.fr (0 + p * 2) (m.n * 2)) := fun c => by
    rw [index_sl (by omega) (by omega), Int.toNat_natCast]
  have hix2 : ∀ {α : Type} (c : AV → Option α), aIndexArr 2 1 (.ptr v.fr (0 + p * 2) (m.n * 2)) (.int .u8 (ph : Int)) c = c (.ptr v.fr (p * 2 + ph) (m.n * 2)) := fun c => by
    rw [idx_arr (by omega) (by omega), Int.toNat_natCast, Nat.mul_one, Nat.zero_add]
  obtain ⟨pp, oo, r1, r2, r3⟩ := h.rel (p * 2 + ph) (by omega)
  have ldp := fun {α : Type} (c : AV → Option α) => fr_ld h r1 c
  have hat : frAt m p ph = oo := by unfold frAt; rw [r2]; rfl
  simp only [bnd, guard_tt, guard_ff, guard_tf, guard_ft, pick_t, pick_f, if_t, if_f, add_i, sub_i, lss_i, leq_i, gtr_i, geq_i, eql_i, neq_i, min_i, max_i, conv_i, len_sl, len_nil, not_b, cells_agg, new_s, fld_p, nil_p, ld10, hsub, hix1, hix2, ldp]
  unfold ofX
  rw [hat]
  rcases r3 with ⟨rfl, rfl⟩ | ⟨q, o, rfl, rfl, r4⟩
  · simp only [nilp_n, Bool.not_true, bnd, guard_tt, guard_ff, guard_tf, guard_ft, pick_t, pick_f, if_t, if_f, add_i, sub_i, lss_i, leq_i, gtr_i, geq_i, eql_i, neq_i, min_i, max_i, conv_i, len_sl, len_nil, not_b, cells_agg, new_s, fld_p, nil_p, guard_skip]
    exact ⟨_, rfl, .inl ⟨rfl, rfl⟩⟩
  · obtain ⟨cs7, ro7, ev7, av7, w1, w2, w3, _⟩ := r4.row
    have ldr : ∀ {α : Type} (c : AV → Option α), aLoad1 (.ptr q (0 + 10) 16) s c = c (.int .u64 o.round) := fun c => ld_fld w1 w2 w3 c
    simp only [nilp_p, Bool.not_false, bnd, guard_tt, guard_ff, guard_tf, guard_ft, pick_t, pick_f, if_t, if_f, add_i, sub_i, lss_i, leq_i, gtr_i, geq_i, eql_i, neq_i, min_i, max_i, conv_i, len_sl, len_nil, not_b, cells_agg, new_s, fld_p, nil_p, ldr, ld5]
    by_cases hr : o.round = m.round
    · have : (o.round == m.round) = true := by simpa using hr
      simp only [this, bnd, guard_tt, guard_ff, guard_tf, guard_ft, pick_t, pick_f, if_t, if_f, add_i, sub_i, lss_i, leq_i, gtr_i, geq_i, eql_i, neq_i, min_i, max_i, conv_i, len_sl, len_nil, not_b, cells_agg, new_s, fld_p, nil_p, if_pos hr]
      exact ⟨_, rfl, .inr ⟨q, o, rfl, rfl, r4⟩⟩
    · have : (o.round == m.round) = false := by simpa using hr
      simp only [this, bnd, guard_tt, guard_ff, guard_tf, guard_ft, pick_t, pick_f, if_t, if_f, add_i, sub_i, lss_i, leq_i, gtr_i, geq_i, eql_i, neq_i, min_i, max_i, conv_i, len_sl, len_nil, not_b, cells_agg, new_s, fld_p, nil_p, if_neg hr]
      exact ⟨_, rfl, .inl ⟨rfl, rfl⟩⟩

/-! ### a round begins -/
def heldB (held : List Int) (l : List Rn) : Bool := !(l.any (badR held))
def beginX (m : XI) (r : Int) (held : List Int) (mine : List Rn) : XI := { m with round := r, cast := false, vote := [], est := if m.est = [] ∧ mayR m.base m.most mine = true ∧ heldB held mine = true then mine else m.est }
/-- What is held, and one's own batch: not in the instance's rows. -/
structure HM (s : Store) (v : XV) (hv mv : AV) (held : List Int) (mine : List Rn) : Prop where
  h : IsSl s hv .u64 held
  hx : ∀ i b c d e, hv = .sl i b c d e → i ∉ [v.x, v.fr]
  m : IsRuns s mv mine
  mx : ∀ i b c d e, mv = .sl i b c d e → i ∉ [v.x, v.fr]
  wf : ∀ r ∈ mine, WfR r
  hl : held.length ≤ 1000000
  ml : mine.length ≤ 1000
theorem HM.act {v : XV} {hv mv : AV} {held : List Int} {mine : List Rn} (h : HM s v hv mv held mine) (e : FrS [v.x, v.fr] s s') : HM s' v hv mv held mine := ⟨h.h.frS e h.hx, h.hx, h.m.frS e h.mx, h.mx, h.wf, h.hl, h.ml⟩
theorem HM.at {v v' : XV} {hv mv : AV} {held : List Int} {mine : List Rn} (h : HM s v hv mv held mine) (h1 : v'.x = v.x) (h2 : v'.fr = v.fr) : HM s v' hv mv held mine := ⟨h.h, by rw [h1, h2]; exact h.hx, h.m, by rw [h1, h2]; exact h.mx, h.wf, h.hl, h.ml⟩
theorem beginX_run {v : XV} {m : XI} {hv mv : AV} {held : List Int} {mine : List Rn} {r : Int} (h : IsX s M v m) (hM : ∀ y ∈ M, y < s.next) (hm : HM s v hv mv held mine) (hr : 0 ≤ r ∧ r < 18446744073709551616) (k : Nat) (hk : 1001 ≤ k) (hk2 : k ≤ 1000000) :
    ∃ s', rn (k + 7) 34 [.ptr v.x 0 11, .int .u64 r, hv, mv] s = some (.tuple [], s') ∧ ActQ s M v (beginX m r held mine) s' := by
  have offx : ∀ {w : AV}, (∀ i b c d e, w = .sl i b c d e → i ∉ M) → ∀ i b c d e, w = .sl i b c d e → i ≠ v.x := fun {w} hw i b c d e q q2 => hw i b c d e q (q2 ▸ h.xM)
  obtain ⟨s', ev', b1, b2, b3, b4, b5⟩ := begin_run (r := r) h.st (xc_len v m) h.xl rfl rfl rfl h.est.is h.base (offx h.baseM) hm.h (fun i b c d e q q2 => hm.hx i b c d e q (by rw [q2]; simp)) hm.m (fun i b c d e q q2 => hm.mx i b c d e q (by rw [q2]; simp)) h.baseU hm.wf h.most hm.hl k (by have := hm.ml; omega) hk2
  refine ⟨s', b1, ?_, b3.frS (by simp)⟩
  have hS : ∀ y ∈ [v.x], y ∈ M := fun y hy => by rw [List.mem_singleton.1 hy]; exact h.xM
  have e : FrS [v.x] s s' := b3.frS (by simp)
  have hev : IsRM s' M ev' (beginX m r held mine).est := by
    show IsRM s' M ev' (if m.est = [] ∧ mayR m.base m.most mine = true ∧ heldB held mine = true then mine else m.est)
    by_cases hc : m.est = [] ∧ mayR m.base m.most mine = true ∧ heldB held mine = true
    · rw [if_pos hc]
      exact own_rm (b4 hc) hM hm.wf hm.ml
    · rw [if_neg hc, b5 hc]
      exact h.est.frS e hS
  refine ⟨{ v with ev := ev', vv := .nilsl }, ⟨b2, ?_, h.flen, h.frl, fun i hi => ?_, h.base.frS e fun i b c d f q q2 => h.baseM i b c d f q (hS i q2), h.baseM, h.baseU, h.baseL, hev, IsRM.nil _ _, h.dec.frS e hS, h.decn, h.xM, h.fM, h.ne, Nat.lt_of_lt_of_le h.xl e.next, Nat.lt_of_lt_of_le h.fl e.next, h.n1, h.me, h.num, h.most, hr⟩, rfl, rfl⟩
  · exact (e.get _ h.fl (by simp; exact Ne.symm h.ne)).trans h.frow
  · obtain ⟨p, o, h1, h2, h3⟩ := h.rel i hi
    exact ⟨p, o, h1, h2, h3.frS e hS⟩
end Go.Proofs.Ytmaidlndikcgkaa.Sim
namespace Go.Proofs.Ytmaidlndikcgkaa.Sim
set_option linter.unusedSimpArgs false
set_option linter.unusedVariables false
variable {s s' : Store} {M : List Nat}

def stepB (held : List Int) (r : Int) (best o : Option SF) : Option SF := match o with
  | none => best
  | some f => if f.round ≤ r ∨ heldB held f.est = false then best else match best with
    | none => some f
    | some b => if f.round > b.round then some f else best
def bestX (m : XI) (held : List Int) : Option SF := m.fr.foldl (stepB held m.round) none
def jumpX (m : XI) (held : List Int) (mine : List Rn) : XI × Bool := match bestX m held with
  | none => (m, false)
  | some b => (beginX { m with est := if b.est = [] then m.est else b.est } b.round held mine, true)
theorem RelP.ext {p : AV} {o : Option SF} (h : RelP s M p o) (e : Ext s s') : RelP s' M p o := h.frS (e.frS []) (fun y hy => (List.not_mem_nil hy).elim)
theorem IsSF.ld {q : Nat} {f : SF} (h : IsSF s M q f) : ∃ ev av, (∀ {α : Type} (c : AV → Option α), aLoad1 (.ptr q (0 + 10) 16) s c = c (.int .u64 f.round)) ∧ (∀ {α : Type} (c : AV → Option α), aLoad1 (.ptr q (0 + 11) 16) s c = c ev) ∧ (∀ {α : Type} (c : AV → Option α), aLoad1 (.ptr q (0 + 12) 16) s c = c av) ∧ IsRM s M ev f.est ∧ IsRM s M av f.aux := by
  obtain ⟨cs, ro, ev, av, w1, w2, w3, w4, w5, w6, w7⟩ := h.row
  exact ⟨ev, av, fun c => ld_fld w1 w2 w3 c, fun c => ld_fld w1 w2 w4 c, fun c => ld_fld w1 w2 w5 c, w6, w7⟩
theorem held_run {hv w : AV} {held : List Int} {l : List Rn} (hh : IsSl s hv .u64 held) (hl : IsRM s M w l) (hhl : held.length ≤ 1000000) (k : Nat) (hk : 1001 ≤ k) (hk2 : k ≤ 100000000) : ∃ s', rn (k + 5) 53 [hv, w] s = some (.bool (heldB held l), s') ∧ Ext s s' :=
  bat_held hh hl.is hl.wf hhl k (by have := hl.len; omega) (by omega)
/-- One frame is looked at. -/
theorem jump_one {v : XV} {m : XI} {hv mv : AV} {held : List Int} {mine : List Rn} (h : IsX s M v m) (hm : HM s v hv mv held mine) {x7 x11 : AV} {best o : Option SF} (h7 : RelP s M x7 best) (h11 : RelP s M x11 o) (k : Nat) (hk : 1001 ≤ k) (hk2 : k ≤ 100000000) (R0 : AV → AV → AV → AV → AV → AV → AV → Store → Option (AV × Store)) (R1 : AV → AV → AV → AV → AV → AV → AV → AV → AV → Store → Option (AV × Store)) (x15 x16 x17 x21 x22 : AV) :
    ∃ s' x7', F42.p8 (k + 5) R0 R1 (.ptr v.x 0 11) hv mv x7 x11 x15 x16 x17 x21 x22 s = F42.p4 (k + 5) R0 R1 (.ptr v.x 0 11) hv mv x7' x15 x16 x17 x21 x22 s' ∧ Ext s s' ∧ RelP s' M x7' (stepB held m.round best o) := by
  unfold F42.p8 F42.p7
  have ld5 := fun {α : Type} (c : AV → Option α) => x_fld h (j := 5) (w := .int .u64 m.round) rfl c
  rcases h11 with ⟨rfl, rfl⟩ | ⟨q, f, rfl, rfl, hf⟩
  · simp only [nilp_n, bnd, guard_tt, guard_ff, guard_tf, guard_ft, pick_t, pick_f, if_t, if_f, add_i, sub_i, lss_i, leq_i, gtr_i, geq_i, eql_i, neq_i, min_i, max_i, conv_i, len_sl, len_nil, not_b, cells_agg, new_s, fld_p, nil_p, guard_skip]
    exact ⟨s, x7, rfl, Ext.refl s, h7⟩
  obtain ⟨ev, av, l10, l11, l12, re, ra⟩ := hf.ld
  simp only [nilp_p, bnd, guard_tt, guard_ff, guard_tf, guard_ft, pick_t, pick_f, if_t, if_f, add_i, sub_i, lss_i, leq_i, gtr_i, geq_i, eql_i, neq_i, min_i, max_i, conv_i, len_sl, len_nil, not_b, cells_agg, new_s, fld_p, nil_p, l10, ld5]
  by_cases q1 : f.round ≤ m.round
  · simp only [decide_eq_true q1, bnd, guard_tt, guard_ff, guard_tf, guard_ft, pick_t, pick_f, if_t, if_f, add_i, sub_i, lss_i, leq_i, gtr_i, geq_i, eql_i, neq_i, min_i, max_i, conv_i, len_sl, len_nil, not_b, cells_agg, new_s, fld_p, nil_p, guard_skip]
    refine ⟨s, x7, rfl, Ext.refl s, ?_⟩
    unfold stepB
    simp only [if_pos (show f.round ≤ m.round ∨ heldB held f.est = false from .inl q1)]
    exact h7
  obtain ⟨s1, b1, b2⟩ := held_run hm.h re hm.hl k hk hk2
  simp only [decide_eq_false q1, bnd, guard_tt, guard_ff, guard_tf, guard_ft, pick_t, pick_f, if_t, if_f, add_i, sub_i, lss_i, leq_i, gtr_i, geq_i, eql_i, neq_i, min_i, max_i, conv_i, len_sl, len_nil, not_b, cells_agg, new_s, fld_p, nil_p, l11, b1]
  cases q2 : heldB held f.est
  · simp only [Bool.not_false, bnd, guard_tt, guard_ff, guard_tf, guard_ft, pick_t, pick_f, if_t, if_f, add_i, sub_i, lss_i, leq_i, gtr_i, geq_i, eql_i, neq_i, min_i, max_i, conv_i, len_sl, len_nil, not_b, cells_agg, new_s, fld_p, nil_p]
    refine ⟨s1, x7, rfl, b2, ?_⟩
    unfold stepB
    simp only [if_pos (show f.round ≤ m.round ∨ heldB held f.est = false from .inr q2)]
    exact h7.ext b2
  simp only [Bool.not_true, bnd, guard_tt, guard_ff, guard_tf, guard_ft, pick_t, pick_f, if_t, if_f, add_i, sub_i, lss_i, leq_i, gtr_i, geq_i, eql_i, neq_i, min_i, max_i, conv_i, len_sl, len_nil, not_b, cells_agg, new_s, fld_p, nil_p]
  have hno : ¬ (f.round ≤ m.round ∨ heldB held f.est = false) := by rw [q2]; simp; omega
  have hf1 : IsSF s1 M q f := hf.frS (b2.frS []) (fun y hy => (List.not_mem_nil hy).elim)
  obtain ⟨ev1, av1, l10', _⟩ := hf1.ld
  unfold F42.p6 F42.p5
  rcases h7 with ⟨rfl, rfl⟩ | ⟨q7, b, rfl, rfl, hb⟩
  · simp only [nilp_n, bnd, guard_tt, guard_ff, guard_tf, guard_ft, pick_t, pick_f, if_t, if_f, add_i, sub_i, lss_i, leq_i, gtr_i, geq_i, eql_i, neq_i, min_i, max_i, conv_i, len_sl, len_nil, not_b, cells_agg, new_s, fld_p, nil_p, guard_skip]
    refine ⟨s1, _, rfl, b2, .inr ⟨q, f, rfl, ?_, hf1⟩⟩
    unfold stepB
    simp only [if_neg hno]
  · have hb1 : IsSF s1 M q7 b := hb.frS (b2.frS []) (fun y hy => (List.not_mem_nil hy).elim)
    obtain ⟨ev2, av2, l10b, _⟩ := hb1.ld
    simp only [nilp_p, bnd, guard_tt, guard_ff, guard_tf, guard_ft, pick_t, pick_f, if_t, if_f, add_i, sub_i, lss_i, leq_i, gtr_i, geq_i, eql_i, neq_i, min_i, max_i, conv_i, len_sl, len_nil, not_b, cells_agg, new_s, fld_p, nil_p, l10', l10b]
    by_cases q3 : f.round > b.round
    · simp only [decide_eq_true q3, bnd, guard_tt, guard_ff, guard_tf, guard_ft, pick_t, pick_f, if_t, if_f, add_i, sub_i, lss_i, leq_i, gtr_i, geq_i, eql_i, neq_i, min_i, max_i, conv_i, len_sl, len_nil, not_b, cells_agg, new_s, fld_p, nil_p]
      refine ⟨s1, _, rfl, b2, .inr ⟨q, f, rfl, ?_, hf1⟩⟩
      unfold stepB
      simp only [if_neg hno, if_pos q3]
    · simp only [decide_eq_false q3, bnd, guard_tt, guard_ff, guard_tf, guard_ft, pick_t, pick_f, if_t, if_f, add_i, sub_i, lss_i, leq_i, gtr_i, geq_i, eql_i, neq_i, min_i, max_i, conv_i, len_sl, len_nil, not_b, cells_agg, new_s, fld_p, nil_p]
      refine ⟨s1, _, rfl, b2, .inr ⟨q7, b, rfl, ?_, hb1⟩⟩
      unfold stepB
      simp only [if_neg hno, if_neg q3]
theorem jump_loop {v : XV} {m : XI} {hv mv : AV} {held : List Int} {mine : List Rn} (k : Nat) (hk : 1001 ≤ k) (hk2 : k ≤ 100000000) : ∀ (d p : Nat) (s : Store) (x7 : AV), p ≤ m.n → m.n - p < d → IsX s M v m → HM s v hv mv held mine → RelP s M x7 ((m.fr.take (p * 2)).foldl (stepB held m.round) none) →
    ∃ s' x7', F42.l1 (k + 5) d (.ptr v.x 0 11) hv mv x7 (.sl v.fr 0 m.n 2 (m.n * 2)) (.int .i64 (m.n : Int)) (.int .i64 (p : Int)) s = F42.p2 (k + 5) (.ptr v.x 0 11) hv mv x7' s' ∧ Ext s s' ∧ RelP s' M x7' (bestX m held)
  | 0, p, s, x7, _, hd, _, _, _ => by omega
  | d + 1, p, s, x7, hp, hd, h, hm, h7 => by
    have hs' : F42.l1 (k + 5) (d + 1) = fun x0 x1 x2 x7 x15 x16 x17 s => F42.p15 (k + 5) (F42.l1 (k + 5) d) x0 x1 x2 x7 x15 x16 x17 s := rfl
    rw [hs']
    clear hs'
    simp only
    unfold F42.p15 F42.p14
    by_cases hlt : p < m.n
    rotate_left
    · simp only [bnd, guard_tt, guard_ff, guard_tf, guard_ft, pick_t, pick_f, if_t, if_f, add_i, sub_i, lss_i, leq_i, gtr_i, geq_i, eql_i, neq_i, min_i, max_i, conv_i, len_sl, len_nil, not_b, cells_agg, new_s, fld_p, nil_p, decide_eq_false (show ¬ (p : Int) < (m.n : Int) by omega)]
      rw [List.take_of_length_le (by rw [h.frl]; omega)] at h7
      exact ⟨s, x7, rfl, Ext.refl s, h7⟩
    unfold F42.p13
    obtain ⟨pa, oa, ra1, ra2, ra3⟩ := h.rel (p * 2) (by omega)
    obtain ⟨pb, ob, rb1, rb2, rb3⟩ := h.rel (p * 2 + 1) (by omega)
    have hix : ∀ {α : Type} (c : AV → Option α), aIndexSl 2 (.sl v.fr 0 m.n 2 (m.n * 2)) (.int .i64 (p : Int)) c = c (.ptr v.fr (0 + p * 2) (m.n * 2)) := fun c => by
      rw [index_sl (by omega) (by omega), Int.toNat_natCast]
    have htk : (v.fs.drop (0 + p * 2)).take 2 = [pa, pb] := by
      apply List.ext_getElem?
      intro i
      rw [List.getElem?_take, Nat.zero_add]
      by_cases h0 : i = 0
      · subst h0
        rw [if_pos (by decide), List.getElem?_drop, Nat.add_zero, ra1]; rfl
      · by_cases h1 : i = 1
        · subst h1
          rw [if_pos (by decide), List.getElem?_drop, rb1]; rfl
        · rw [if_neg (by omega), List.getElem?_eq_none (by simp; omega)]
    have ldn : ∀ {α : Type} (c : AV → Option α), aLoadN 2 (.ptr v.fr (0 + p * 2) (m.n * 2)) s c = c (.agg [pa, pb]) := fun c => by
      rw [load_n h.frow h.flen (by omega), htk]
    have e1 := Ext.push s (.cells [.nilptr, .nilptr] false)
    have hl2 : [AV.nilptr, AV.nilptr].length = 2 := rfl
    have hst : ∀ {α : Type} (c : Store → Option α), aStore 2 (.ptr s.next 0 2) (.agg [pa, pb]) (s.push (.cells [.nilptr, .nilptr] false)) c = c ((s.push (.cells [.nilptr, .nilptr] false)).set s.next (.cells [pa, pb] false)) := fun c => by
      simp only [aStore, aCells, aOwn, get_push, if_true, List.length_cons, List.length_nil]
      rw [if_pos ⟨trivial, by omega⟩]
      rfl
    simp only [bnd, guard_tt, guard_ff, guard_tf, guard_ft, pick_t, pick_f, if_t, if_f, add_i, sub_i, lss_i, leq_i, gtr_i, geq_i, eql_i, neq_i, min_i, max_i, conv_i, len_sl, len_nil, not_b, cells_agg, new_s, fld_p, nil_p, decide_eq_true (show (p : Int) < (m.n : Int) by omega), hix, ldn, hl2, hst]
    obtain ⟨s1, hs1⟩ : ∃ t : Store, t = (s.push (.cells [.nilptr, .nilptr] false)).set s.next (.cells [pa, pb] false) := ⟨_, rfl⟩
    have E1 : Ext s s1 := ⟨by rw [hs1]; exact Nat.le_succ _, fun l hl => by rw [hs1, get_set, if_neg (by omega), get_push, if_neg (by omega)]⟩
    have g1 : s1.get s.next = .cells [pa, pb] false := by rw [hs1, get_set, if_pos rfl]
    rw [← hs1]
    clear hs1 hst
    unfold F42.p12
    have ldn1 : ∀ {α : Type} (c : AV → Option α), aLoadN 2 (.ptr s.next 0 2) s1 c = c (.agg [pa, pb]) := fun c => load_n g1 rfl (by decide)
    simp only [ldn1]
    have hL : ∀ j, F42.l0 (k + 5) (F42.l1 (k + 5) d) (j + 1) = fun x0 x1 x2 x7 x15 x16 x17 x21 x22 s => F42.p11 (k + 5) (F42.l1 (k + 5) d) (F42.l0 (k + 5) (F42.l1 (k + 5) d) j) x0 x1 x2 x7 x15 x16 x17 x21 x22 s := fun j => rfl
    have hag0 : ∀ {α : Type} (c : AV → Option α), aIndexAgg false 2 1 (.agg [pa, pb]) (.int .i64 0) c = c pa := fun c => by rfl
    have hag1 : ∀ {α : Type} (c : AV → Option α), aIndexAgg false 2 1 (.agg [pa, pb]) (.int .i64 1) c = c pb := fun c => by rfl
    rw [show k + 5 = (k + 4) + 1 from rfl]
    rw [hL (k + 4)]
    simp only
    unfold F42.p11 F42.p10 F42.p9
    have d02 : decide ((0 : Int) < 2) = true := rfl
    have d12 : decide ((1 : Int) < 2) = true := rfl
    have d22 : decide ((2 : Int) < 2) = false := rfl
    have w01 : IntKind.i64.wrap ((0 : Int) + 1) = 1 := rfl
    have w12 : IntKind.i64.wrap ((1 : Int) + 1) = 2 := rfl
    have hX1 := h.ext E1
    have hm1 := hm.act (E1.frS _)
    obtain ⟨s2, x7a, j1, j2, j3⟩ := jump_one hX1 hm1 (h7.ext E1) (ra3.ext E1) k hk hk2 (F42.l1 (k + 5) d) (F42.l0 (k + 5) (F42.l1 (k + 5) d) (k + 4)) (.sl v.fr 0 m.n 2 (m.n * 2)) (.int .i64 (m.n : Int)) (.int .i64 (p : Int)) (.agg [pa, pb]) (.int .i64 0)
    have j1' := j1
    rw [show k + 5 = (k + 4) + 1 from rfl] at j1'
    simp only [bnd, guard_tt, guard_ff, guard_tf, guard_ft, pick_t, pick_f, if_t, if_f, add_i, sub_i, lss_i, leq_i, gtr_i, geq_i, eql_i, neq_i, min_i, max_i, conv_i, len_sl, len_nil, not_b, cells_agg, new_s, fld_p, nil_p, d02, hag0, j1']
    unfold F42.p4
    have hL3 := hL (k + 3)
    rw [show k + 5 = (k + 4) + 1 from rfl] at hL3
    simp only [bnd, guard_tt, guard_ff, guard_tf, guard_ft, pick_t, pick_f, if_t, if_f, add_i, sub_i, lss_i, leq_i, gtr_i, geq_i, eql_i, neq_i, min_i, max_i, conv_i, len_sl, len_nil, not_b, cells_agg, new_s, fld_p, nil_p, w01]
    rw [show k + 4 = (k + 3) + 1 from rfl] at hL3 ⊢
    rw [hL3]
    simp only
    unfold F42.p11 F42.p10 F42.p9
    have hX2 := hX1.ext j2
    have hm2 := hm1.act (j2.frS _)
    obtain ⟨s3, x7b, i1, i2, i3⟩ := jump_one hX2 hm2 j3 (rb3.ext (E1.trans j2)) k hk hk2 (F42.l1 (k + 5) d) (F42.l0 (k + 5) (F42.l1 (k + 5) d) (k + 3)) (.sl v.fr 0 m.n 2 (m.n * 2)) (.int .i64 (m.n : Int)) (.int .i64 (p : Int)) (.agg [pa, pb]) (.int .i64 1)
    have i1' := i1
    rw [show k + 5 = (k + 3) + 1 + 1 from rfl] at i1'
    simp only [bnd, guard_tt, guard_ff, guard_tf, guard_ft, pick_t, pick_f, if_t, if_f, add_i, sub_i, lss_i, leq_i, gtr_i, geq_i, eql_i, neq_i, min_i, max_i, conv_i, len_sl, len_nil, not_b, cells_agg, new_s, fld_p, nil_p, d12, hag1, i1']
    unfold F42.p4
    have hL2 := hL (k + 2)
    rw [show k + 5 = (k + 3) + 1 + 1 from rfl] at hL2
    simp only [bnd, guard_tt, guard_ff, guard_tf, guard_ft, pick_t, pick_f, if_t, if_f, add_i, sub_i, lss_i, leq_i, gtr_i, geq_i, eql_i, neq_i, min_i, max_i, conv_i, len_sl, len_nil, not_b, cells_agg, new_s, fld_p, nil_p, w12]
    rw [show F42.l0 (k + 3 + 1 + 1) (F42.l1 (k + 3 + 1 + 1) d) (k + 3) = F42.l0 (k + 3 + 1 + 1) (F42.l1 (k + 3 + 1 + 1) d) (k + 2 + 1) from rfl, hL2]
    simp only
    unfold F42.p11 F42.p10 F42.p3
    have hwp : IntKind.i64.wrap ((p : Int) + 1) = ((p + 1 : Nat) : Int) := by rw [w_i64 (by omega) (by have := h.n1; omega)]; omega
    simp only [bnd, guard_tt, guard_ff, guard_tf, guard_ft, pick_t, pick_f, if_t, if_f, add_i, sub_i, lss_i, leq_i, gtr_i, geq_i, eql_i, neq_i, min_i, max_i, conv_i, len_sl, len_nil, not_b, cells_agg, new_s, fld_p, nil_p, d22, hwp]
    have hfold : (m.fr.take ((p + 1) * 2)).foldl (stepB held m.round) none = stepB held m.round (stepB held m.round ((m.fr.take (p * 2)).foldl (stepB held m.round) none) oa) ob := by
      have hl1 : p * 2 < m.fr.length := by rw [h.frl]; omega
      have hl2 : p * 2 + 1 < m.fr.length := by rw [h.frl]; omega
      rw [show (p + 1) * 2 = p * 2 + 1 + 1 by omega, List.take_succ_eq_append_getElem hl2, List.take_succ_eq_append_getElem hl1, List.foldl_append, List.foldl_append]
      rw [List.getElem?_eq_getElem hl1] at ra2
      rw [List.getElem?_eq_getElem hl2] at rb2
      rw [Option.some.inj ra2, Option.some.inj rb2]
      rfl
    obtain ⟨s4, x7c, n1, n2, n3⟩ := jump_loop k hk hk2 d (p + 1) s3 x7b (by omega) (by omega) (hX2.ext i2) (hm2.act (i2.frS _)) (by rw [hfold]; exact i3)
    exact ⟨s4, x7c, n1, ((E1.trans j2).trans i2).trans n2, n3⟩
theorem foldl_mem (held : List Int) (r : Int) (l : List (Option SF)) : ∀ b, l.foldl (stepB held r) none = some b → r < b.round := by
  have : ∀ (l : List (Option SF)) (a : Option SF), (∀ b, a = some b → r < b.round) → ∀ b, l.foldl (stepB held r) a = some b → r < b.round := by
    intro l
    induction l with
    | nil => intro a ha b hb; exact ha b hb
    | cons o l ih =>
      intro a ha b hb
      refine ih (stepB held r a o) (fun c hc => ?_) b hb
      unfold stepB at hc
      cases o with
      | none => exact ha c hc
      | some f =>
        simp only at hc
        split at hc
        · exact ha c hc
        · rename_i hno
          have hf : r < f.round := by omega
          cases a with
          | none => simp only [Option.some.injEq] at hc; rw [← hc]; exact hf
          | some a =>
            simp only at hc
            split at hc
            · simp only [Option.some.injEq] at hc; rw [← hc]; exact hf
            · exact ha c hc
  exact this l none (fun b hb => by cases hb)
theorem jump_run {v : XV} {m : XI} {hv mv : AV} {held : List Int} {mine : List Rn} (h : IsX s M v m) (hM : ∀ y ∈ M, y < s.next) (hm : HM s v hv mv held mine) (k : Nat) (hk : 1001 ≤ k) (hk2 : k ≤ 100000) :
    ∃ s', rn (k + 8) 42 [.ptr v.x 0 11, hv, mv] s = some (.bool (jumpX m held mine).2, s') ∧ ActQ s M v (jumpX m held mine).1 s' := by
  rw [show k + 8 = (k + 2 + 5) + 1 from rfl, F42.eq]
  unfold F42.f F42.p18 F42.p17 F42.p16
  have ld10 := fun {α : Type} (c : AV → Option α) => x_fld h (j := 10) (w := .sl v.fr 0 m.n 2 (m.n * 2)) rfl c
  obtain ⟨s1, x7, j1, j2, j3⟩ := jump_loop (k + 2) (by omega) (by omega) (k + 2 + 5) 0 s .nilptr (Nat.zero_le _) (by have := h.n1; omega) h hm (.inl ⟨rfl, rfl⟩)
  have j1' : F42.l1 (k + 2 + 5) (k + 2 + 5) (.ptr v.x 0 11) hv mv .nilptr (.sl v.fr 0 m.n 2 (m.n * 2)) (.int .i64 (m.n : Int)) (.int .i64 0) s = _ := j1
  simp only [bnd, guard_tt, guard_ff, guard_tf, guard_ft, pick_t, pick_f, if_t, if_f, add_i, sub_i, lss_i, leq_i, gtr_i, geq_i, eql_i, neq_i, min_i, max_i, conv_i, len_sl, len_nil, not_b, cells_agg, new_s, fld_p, nil_p, ld10, j1']
  unfold F42.p2
  have h1 := h.ext j2
  have hm1 := hm.act (j2.frS _)
  have hM1 : ∀ y ∈ M, y < s1.next := fun y hy => Nat.lt_of_lt_of_le (hM y hy) j2.next
  rcases j3 with ⟨rfl, hb⟩ | ⟨q, b, rfl, hb, hq⟩
  · have hj : jumpX m held mine = (m, false) := by unfold jumpX; rw [hb]
    simp only [nilp_n, bnd, guard_tt, guard_ff, guard_tf, guard_ft, pick_t, pick_f, if_t, if_f, add_i, sub_i, lss_i, leq_i, gtr_i, geq_i, eql_i, neq_i, min_i, max_i, conv_i, len_sl, len_nil, not_b, cells_agg, new_s, fld_p, nil_p]
    rw [hj]
    exact ⟨s1, rfl, ⟨v, h1, rfl, rfl⟩, j2.frS _⟩
  · have hj : jumpX m held mine = (beginX { m with est := if b.est = [] then m.est else b.est } b.round held mine, true) := by unfold jumpX; rw [hb]
    rw [hj]
    unfold F42.p1
    obtain ⟨ev, av, l10, l11, l12, re, ra⟩ := hq.ld
    simp only [nilp_p, bnd, guard_tt, guard_ff, guard_tf, guard_ft, pick_t, pick_f, if_t, if_f, add_i, sub_i, lss_i, leq_i, gtr_i, geq_i, eql_i, neq_i, min_i, max_i, conv_i, len_sl, len_nil, not_b, cells_agg, new_s, fld_p, nil_p, l11, len_runs re.is]
    have fin : ∀ (t : Store) (v' : XV) (m' : XI), IsX t M v' m' → v'.x = v.x → v'.fr = v.fr → FrS [v.x, v.fr] s t → IsSF t M q b → ∃ s', F42.p0 (k + 2 + 5) (.ptr v.x 0 11) hv mv (.ptr q 0 16) t = some (.bool true, s') ∧ ActQ s M v (beginX m' b.round held mine) s' := by
      intro t v' m' ht hx hf e hqt
      unfold F42.p0
      obtain ⟨ev', av', l10', _⟩ := hqt.ld
      obtain ⟨t2, b1, b2⟩ := beginX_run (hv := hv) (mv := mv) (held := held) (mine := mine) ht (fun y hy => Nat.lt_of_lt_of_le (hM y hy) e.next) ((hm.act e).at hx hf) hqt.rnd k (by omega) (by omega)
      rw [hx] at b1
      have b1' : rn (k + 2 + 5) 34 [.ptr v.x 0 11, .int .u64 b.round, hv, mv] t = _ := b1
      simp only [bnd, guard_tt, guard_ff, guard_tf, guard_ft, pick_t, pick_f, if_t, if_f, add_i, sub_i, lss_i, leq_i, gtr_i, geq_i, eql_i, neq_i, min_i, max_i, conv_i, len_sl, len_nil, not_b, cells_agg, new_s, fld_p, nil_p, l10', b1']
      obtain ⟨v2, w1, w2, w3⟩ := b2.ex
      refine ⟨t2, rfl, ⟨v2, w1, w2.trans hx, w3.trans hf⟩, e.trans (by have := b2.fr; rw [hx, hf] at this; exact this) fun l hl => .inl hl⟩
    by_cases he : b.est = []
    · have hz : decide (((b.est.length : Nat) : Int) > 0) = false := by rw [he]; rfl
      simp only [hz, bnd, guard_tt, guard_ff, guard_tf, guard_ft, pick_t, pick_f, if_t, if_f, add_i, sub_i, lss_i, leq_i, gtr_i, geq_i, eql_i, neq_i, min_i, max_i, conv_i, len_sl, len_nil, not_b, cells_agg, new_s, fld_p, nil_p]
      rw [if_pos he]
      exact fin s1 v m h1 rfl rfl (j2.frS _) hq
    · have hz : decide (((b.est.length : Nat) : Int) > 0) = true := decide_eq_true (by have := List.length_pos_iff.2 he; omega)
      have hst := fun {α : Type} (c : Store → Option α) => x_st h1 (j := 6) (w := ev) (by decide) re.one c
      simp only [hz, bnd, guard_tt, guard_ff, guard_tf, guard_ft, pick_t, pick_f, if_t, if_f, add_i, sub_i, lss_i, leq_i, gtr_i, geq_i, eql_i, neq_i, min_i, max_i, conv_i, len_sl, len_nil, not_b, cells_agg, new_s, fld_p, nil_p, l11, hst]
      rw [if_neg he]
      have hown := IsX.own (v' := { v with ev := ev }) (m' := { m with est := b.est }) h1 rfl rfl rfl rfl rfl rfl rfl rfl rfl rfl re h1.vote h1.dec h.decn h.rnd
      have hF : FrS [v.x] s1 (s1.set v.x (.cells (xcells { v with ev := ev } { m with est := b.est }) false)) := (Fr1.set _ _ _).frS (by simp)
      exact fin _ _ _ hown rfl rfl ((j2.frS _).trans hF fun l hl => .inl (by rw [List.mem_singleton.1 hl]; simp)) (hq.frS hF fun y hy => by rw [List.mem_singleton.1 hy]; exact h.xM)
end Go.Proofs.Ytmaidlndikcgkaa.Sim
namespace Go.Proofs.Ytmaidlndikcgkaa.Sim
set_option linter.unusedSimpArgs false
set_option linter.unusedVariables false
variable {s s' : Store} {M : List Nat}

theorem index_ints {w : AV} {xs : List Int} (h : IsSl s w .i64 xs) (hl : xs.length ≤ 1000000) (c : Int) (k : Nat) : ∀ (d i : Nat), i ≤ xs.length → xs.length - i < d →
    ∃ r : Int, F71.l0 k d w (.int .i64 c) (.int .i64 (xs.length : Nat)) (.int .i64 (i : Int)) s = some (.int .i64 r, s) ∧ (decide (r ≥ 0)) = decide (c ∈ xs.drop i)
  | 0, i, hi, hd => by omega
  | d + 1, i, hi, hd => by
    have hs : F71.l0 k (d + 1) = fun x0 x1 x7 x8 s => F71.p4 k (F71.l0 k d) x0 x1 x7 x8 s := rfl
    rw [hs]
    clear hs
    simp only
    unfold F71.p4 F71.p3 F71.p2 F71.p1 F71.p0
    by_cases hlt : i < xs.length
    · have hv : IsV s w .i64 xs := by
        rcases h with h | ⟨l, ro, h1, h2, h3⟩
        · exact .inl h
        · exact .inr ⟨l, 0, xs, ro, h1, h2, h3, by simp, by simp⟩
      obtain ⟨p, p1, p2⟩ := atV hv (i := (i : Int)) (by omega) (by omega)
      rw [Int.toNat_natCast] at p2
      have hg : xs.getD i 0 = xs[i] := by rw [List.getD_eq_getElem?_getD, List.getElem?_eq_getElem hlt]; rfl
      rw [hg] at p2
      have hw : IntKind.i64.wrap ((i : Int) + 1) = ((i + 1 : Nat) : Int) := by rw [w_i64 (by omega) (by omega)]; omega
      have hd' : xs.drop i = xs[i] :: xs.drop (i + 1) := List.drop_eq_getElem_cons hlt
      simp only [bnd, guard_tt, guard_ff, guard_tf, guard_ft, pick_t, pick_f, if_t, if_f, add_i, sub_i, lss_i, leq_i, gtr_i, geq_i, eql_i, neq_i, min_i, max_i, conv_i, len_sl, len_nil, not_b, cells_agg, new_s, fld_p, nil_p, decide_eq_true (show (i : Int) < ((xs.length : Nat) : Int) by omega), p1, p2]
      by_cases he : c = xs[i]
      · have : (c == xs[i]) = true := by simpa using he
        simp only [this, bnd, guard_tt, guard_ff, guard_tf, guard_ft, pick_t, pick_f, if_t, if_f, add_i, sub_i, lss_i, leq_i, gtr_i, geq_i, eql_i, neq_i, min_i, max_i, conv_i, len_sl, len_nil, not_b, cells_agg, new_s, fld_p, nil_p]
        refine ⟨(i : Int), rfl, ?_⟩
        rw [decide_eq_true (show (i : Int) ≥ 0 by omega), decide_eq_true (show c ∈ xs.drop i by rw [hd', he]; exact List.mem_cons_self)]
      · have : (c == xs[i]) = false := by simpa using he
        simp only [this, bnd, guard_tt, guard_ff, guard_tf, guard_ft, pick_t, pick_f, if_t, if_f, add_i, sub_i, lss_i, leq_i, gtr_i, geq_i, eql_i, neq_i, min_i, max_i, conv_i, len_sl, len_nil, not_b, cells_agg, new_s, fld_p, nil_p, hw]
        obtain ⟨r, r1, r2⟩ := index_ints h hl c k d (i + 1) (by omega) (by omega)
        refine ⟨r, r1, ?_⟩
        rw [r2]
        by_cases hmm : c ∈ xs.drop (i + 1)
        · rw [decide_eq_true hmm, decide_eq_true (show c ∈ xs.drop i by rw [hd']; exact List.mem_cons_of_mem _ hmm)]
        · rw [decide_eq_false hmm, decide_eq_false (show ¬ c ∈ xs.drop i by
            rw [hd']
            intro q
            rcases List.mem_cons.1 q with q2 | q2
            · exact he q2
            · exact hmm q2)]
    · simp only [bnd, guard_tt, guard_ff, guard_tf, guard_ft, pick_t, pick_f, if_t, if_f, add_i, sub_i, lss_i, leq_i, gtr_i, geq_i, eql_i, neq_i, min_i, max_i, conv_i, len_sl, len_nil, not_b, cells_agg, new_s, fld_p, nil_p, decide_eq_false (show ¬ (i : Int) < ((xs.length : Nat) : Int) by omega)]
      refine ⟨-1, rfl, ?_⟩
      rw [List.drop_eq_nil_of_le (by omega)]
      rfl
theorem contains_ints {w : AV} {xs : List Int} (h : IsSl s w .i64 xs) (hl : xs.length ≤ 1000000) (c : Int) (k : Nat) (hk : xs.length < k) : rn (k + 2) 60 [w, .int .i64 c] s = some (.bool (decide (c ∈ xs)), s) := by
  rw [show k + 2 = (k + 1) + 1 from rfl, F60.eq]
  unfold F60.f F60.p0
  have hr : ∃ r : Int, rn (k + 1) 71 [w, .int .i64 c] s = some (.int .i64 r, s) ∧ decide (r ≥ 0) = decide (c ∈ xs) := by
    rw [F71.eq]
    unfold F71.f F71.p6 F71.p5
    rw [len_is h]
    have := index_ints h hl c k k 0 (Nat.zero_le _) (by omega)
    rw [List.drop_zero] at this
    exact this
  obtain ⟨r, r1, r2⟩ := hr
  simp only [r1, bnd, guard_tt, guard_ff, guard_tf, guard_ft, pick_t, pick_f, if_t, if_f, add_i, sub_i, lss_i, leq_i, gtr_i, geq_i, eql_i, neq_i, min_i, max_i, conv_i, len_sl, len_nil, not_b, cells_agg, new_s, fld_p, nil_p, r2]

def votesX (m : XI) (held : List Int) (sus : List Int) : XI × Bool :=
  if m.cast = true then (m, false)
  else if coordN m.n m.number m.round = m.me then ({ m with vote := m.est, cast := true }, true)
  else match ofX m (coordN m.n m.number m.round) 0 with
    | some f => ({ m with vote := if heldB held f.est = true then f.est else m.vote, cast := true }, true)
    | none => if ((coordN m.n m.number m.round : Nat) : Int) ∈ sus then ({ m with cast := true }, true) else (m, false)
theorem votes_run {v : XV} {m : XI} {hv mv sv : AV} {held sus : List Int} {mine : List Rn} (h : IsX s M v m) (hm : HM s v hv mv held mine) (hsu : IsSl s sv .i64 sus) (hsl : sus.length ≤ 1000) (k : Nat) (hk : 1001 ≤ k) (hk2 : k ≤ 100000) :
    ∃ s', rn (k + 8) 43 [.ptr v.x 0 11, hv, sv] s = some (.bool (votesX m held sus).2, s') ∧ ActQ s M v (votesX m held sus).1 s' := by
  rw [show k + 8 = (k + 7) + 1 from rfl, F43.eq]
  unfold F43.f F43.p4 F43.p3 F43.p2
  have ld0 := fun {α : Type} (c : AV → Option α) => x_fld h (j := 0) (w := .int .i64 (m.n : Int)) rfl c
  have ld1 := fun {α : Type} (c : AV → Option α) => x_fld h (j := 1) (w := .int .i64 (m.me : Int)) rfl c
  have ld2 := fun {α : Type} (c : AV → Option α) => x_fld h (j := 2) (w := .int .u64 m.number) rfl c
  have ld5 := fun {α : Type} (c : AV → Option α) => x_fld h (j := 5) (w := .int .u64 m.round) rfl c
  have ld6 := fun {α : Type} (c : AV → Option α) => x_fld h (j := 6) (w := v.ev) rfl c
  have ld8 := fun {α : Type} (c : AV → Option α) => x_fld h (j := 8) (w := .bool m.cast) rfl c
  have hcr := coord_run h.n1 (number := m.number) (round := m.round) h.num.1 h.rnd.1 (k + 5) s
  have hcl := coordN_lt h.n1.1 m.number m.round
  obtain ⟨pp, o1, o2⟩ := of_run h hcl (ph := 0) (by decide) (k + 6)
  have hcr' : rn (k + 7) 58 [.int .i64 (m.n : Int), .int .u64 m.number, .int .u64 m.round] s = _ := hcr
  have o1' : rn (k + 7) 59 [.ptr v.x 0 11, .int .i64 ((coordN m.n m.number m.round : Nat) : Int), .int .u8 6] s = some (pp, s) := o1
  simp only [bnd, guard_tt, guard_ff, guard_tf, guard_ft, pick_t, pick_f, if_t, if_f, add_i, sub_i, lss_i, leq_i, gtr_i, geq_i, eql_i, neq_i, min_i, max_i, conv_i, len_sl, len_nil, not_b, cells_agg, new_s, fld_p, nil_p, ld0, ld2, ld5, hcr', o1']
  unfold F43.p1
  simp only [bnd, guard_tt, guard_ff, guard_tf, guard_ft, pick_t, pick_f, if_t, if_f, add_i, sub_i, lss_i, leq_i, gtr_i, geq_i, eql_i, neq_i, min_i, max_i, conv_i, len_sl, len_nil, not_b, cells_agg, new_s, fld_p, nil_p, ld8]
  unfold votesX
  cases hcast : m.cast
  rotate_left
  · simp only [bnd, guard_tt, guard_ff, guard_tf, guard_ft, pick_t, pick_f, if_t, if_f, add_i, sub_i, lss_i, leq_i, gtr_i, geq_i, eql_i, neq_i, min_i, max_i, conv_i, len_sl, len_nil, not_b, cells_agg, new_s, fld_p, nil_p, if_true]
    exact ⟨s, rfl, ⟨v, h, rfl, rfl⟩, FrS.refl _ _⟩
  simp only [bnd, guard_tt, guard_ff, guard_tf, guard_ft, pick_t, pick_f, if_t, if_f, add_i, sub_i, lss_i, leq_i, gtr_i, geq_i, eql_i, neq_i, min_i, max_i, conv_i, len_sl, len_nil, not_b, cells_agg, new_s, fld_p, nil_p, Bool.false_eq_true, if_false, ld1]
  have hS : ∀ y ∈ [v.x], y ∈ M := fun y hy => by rw [List.mem_singleton.1 hy]; exact h.xM
  -- the vote is cast
  have fin : ∀ (t : Store) (v' : XV) (m' : XI), IsX t M v' m' → v'.x = v.x → v'.fr = v.fr → FrS [v.x, v.fr] s t → ∃ s', F43.p0 (k + 7) (.ptr v.x 0 11) t = some (.bool true, s') ∧ ActQ s M v { m' with cast := true } s' := by
    intro t v' m' ht hx hf e
    unfold F43.p0
    have hst := fun {α : Type} (c : Store → Option α) => x_st ht (j := 8) (w := .bool true) (by decide) rfl c
    rw [hx] at hst
    simp only [bnd, guard_tt, guard_ff, guard_tf, guard_ft, pick_t, pick_f, if_t, if_f, add_i, sub_i, lss_i, leq_i, gtr_i, geq_i, eql_i, neq_i, min_i, max_i, conv_i, len_sl, len_nil, not_b, cells_agg, new_s, fld_p, nil_p, hst]
    have hown := IsX.own (v' := v') (m' := { m' with cast := true }) ht rfl rfl rfl rfl rfl rfl rfl rfl rfl rfl ht.est ht.vote ht.dec ht.decn ht.rnd
    rw [hx] at hown
    have hcs : (xcells v' m').set 8 (.bool true) = xcells v' { m' with cast := true } := rfl
    rw [hcs]
    exact ⟨_, rfl, ⟨v', hown, hx, hf⟩, e.trans ((Fr1.set _ _ _).frS (S := [v.x, v.fr]) (by simp)) fun l hl => .inl hl⟩
  have setv : ∀ (t : Store) (w : AV) (l : List Rn), IsX t M v m → IsRM t M w l → FrS [v.x, v.fr] s t → ∃ s', (aStore 1 (.ptr v.x (0 + 7) 11) w t fun s31 => F43.p0 (k + 7) (.ptr v.x 0 11) s31) = some (.bool true, s') ∧ ActQ s M v { m with vote := l, cast := true } s' := by
    intro t w l ht hw e
    have hst := fun {α : Type} (c : Store → Option α) => x_st ht (j := 7) (w := w) (by decide) hw.one c
    rw [hst]
    have hown := IsX.own (v' := { v with vv := w }) (m' := { m with vote := l }) ht rfl rfl rfl rfl rfl rfl rfl rfl rfl rfl ht.est hw ht.dec ht.decn ht.rnd
    have hcs : (xcells v m).set 7 w = xcells { v with vv := w } { m with vote := l } := rfl
    rw [hcs]
    exact fin _ _ _ hown rfl rfl (e.trans ((Fr1.set _ _ _).frS (S := [v.x, v.fr]) (by simp)) fun l hl => .inl hl)
  by_cases hme : coordN m.n m.number m.round = m.me
  · have hz : (((coordN m.n m.number m.round : Nat) : Int) == (m.me : Int)) = true := by rw [hme]; simp
    simp only [hz, bnd, guard_tt, guard_ff, guard_tf, guard_ft, pick_t, pick_f, if_t, if_f, add_i, sub_i, lss_i, leq_i, gtr_i, geq_i, eql_i, neq_i, min_i, max_i, conv_i, len_sl, len_nil, not_b, cells_agg, new_s, fld_p, nil_p, ld6]
    rw [if_pos hme]
    exact setv s v.ev m.est h h.est (FrS.refl _ _)
  have hz : (((coordN m.n m.number m.round : Nat) : Int) == (m.me : Int)) = false := by simp; omega
  simp only [hz, bnd, guard_tt, guard_ff, guard_tf, guard_ft, pick_t, pick_f, if_t, if_f, add_i, sub_i, lss_i, leq_i, gtr_i, geq_i, eql_i, neq_i, min_i, max_i, conv_i, len_sl, len_nil, not_b, cells_agg, new_s, fld_p, nil_p]
  rw [if_neg hme]
  rcases o2 with ⟨rfl, ho⟩ | ⟨q, f, rfl, ho, hq⟩
  · rw [ho]
    simp only [nilp_n, Bool.not_true, bnd, guard_tt, guard_ff, guard_tf, guard_ft, pick_t, pick_f, if_t, if_f, add_i, sub_i, lss_i, leq_i, gtr_i, geq_i, eql_i, neq_i, min_i, max_i, conv_i, len_sl, len_nil, not_b, cells_agg, new_s, fld_p, nil_p, guard_skip]
    have hct := contains_ints hsu (by omega) ((coordN m.n m.number m.round : Nat) : Int) (k + 5) (by omega)
    have hct' : rn (k + 7) 60 [sv, .int .i64 ((coordN m.n m.number m.round : Nat) : Int)] s = _ := hct
    simp only [hct', bnd, guard_tt, guard_ff, guard_tf, guard_ft, pick_t, pick_f, if_t, if_f, add_i, sub_i, lss_i, leq_i, gtr_i, geq_i, eql_i, neq_i, min_i, max_i, conv_i, len_sl, len_nil, not_b, cells_agg, new_s, fld_p, nil_p]
    by_cases hc : ((coordN m.n m.number m.round : Nat) : Int) ∈ sus
    · simp only [decide_eq_true hc, Bool.not_true, bnd, guard_tt, guard_ff, guard_tf, guard_ft, pick_t, pick_f, if_t, if_f, add_i, sub_i, lss_i, leq_i, gtr_i, geq_i, eql_i, neq_i, min_i, max_i, conv_i, len_sl, len_nil, not_b, cells_agg, new_s, fld_p, nil_p, if_pos hc]
      exact fin s v m h rfl rfl (FrS.refl _ _)
    · simp only [decide_eq_false hc, Bool.not_false, bnd, guard_tt, guard_ff, guard_tf, guard_ft, pick_t, pick_f, if_t, if_f, add_i, sub_i, lss_i, leq_i, gtr_i, geq_i, eql_i, neq_i, min_i, max_i, conv_i, len_sl, len_nil, not_b, cells_agg, new_s, fld_p, nil_p, if_neg hc]
      exact ⟨s, rfl, ⟨v, h, rfl, rfl⟩, FrS.refl _ _⟩
  · rw [ho]
    obtain ⟨ev, av, l10, l11, l12, re, ra⟩ := hq.ld
    obtain ⟨s1, b1, b2⟩ := held_run hm.h re hm.hl (k + 2) (by omega) (by omega)
    have b1' : rn (k + 7) 53 [hv, ev] s = _ := b1
    simp only [nilp_p, Bool.not_false, bnd, guard_tt, guard_ff, guard_tf, guard_ft, pick_t, pick_f, if_t, if_f, add_i, sub_i, lss_i, leq_i, gtr_i, geq_i, eql_i, neq_i, min_i, max_i, conv_i, len_sl, len_nil, not_b, cells_agg, new_s, fld_p, nil_p, l11, b1']
    have hX1 := h.ext b2
    have hq1 := hq.frS (b2.frS []) (fun y hy => (List.not_mem_nil hy).elim)
    cases hh : heldB held f.est
    · simp only [bnd, guard_tt, guard_ff, guard_tf, guard_ft, pick_t, pick_f, if_t, if_f, add_i, sub_i, lss_i, leq_i, gtr_i, geq_i, eql_i, neq_i, min_i, max_i, conv_i, len_sl, len_nil, not_b, cells_agg, new_s, fld_p, nil_p, nilp_p, guard_skip, Bool.false_eq_true, if_false]
      exact fin s1 v m hX1 rfl rfl (b2.frS _)
    · have l11' : ∀ {α : Type} (c : AV → Option α), aLoad1 (.ptr q (0 + 11) 16) s1 c = c ev := fun c => by
        obtain ⟨cs, ro, ev0, av0, w1, w2, w3, w4, w5, _⟩ := hq.row
        have hev : ev0 = ev := by
          have h1 := l11 (α := AV) some
          have h2 := ld_fld (j := 11) w1 w2 w4 (α := AV) some
          rw [h1] at h2
          exact (Option.some.inj h2).symm
        rw [ld_fld ((b2.get q hq.lt).trans w1) w2 w4, hev]
      simp only [bnd, guard_tt, guard_ff, guard_tf, guard_ft, pick_t, pick_f, if_t, if_f, add_i, sub_i, lss_i, leq_i, gtr_i, geq_i, eql_i, neq_i, min_i, max_i, conv_i, len_sl, len_nil, not_b, cells_agg, new_s, fld_p, nil_p, l11', if_true]
      exact setv s1 ev f.est hX1 (re.ext b2) (b2.frS _)
end Go.Proofs.Ytmaidlndikcgkaa.Sim
