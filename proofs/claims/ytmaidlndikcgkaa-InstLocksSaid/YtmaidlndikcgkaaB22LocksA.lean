/- Layer 22: who voted; a majority. No condition. -/
import Derived.Test.YtmaidlndikcgkaaB22Pick
namespace Go.Proofs.Ytmaidlndikcgkaa.Sim
set_option linter.unusedSimpArgs false
set_option linter.unusedVariables false
variable {s s' : Store} {M M' : List Nat} {w : WV} {ps : List PP} {sent : List OFV}

theorem mul_2 {m : Nat} (h : m ≤ 1000) {α : Type} (f : AV → Option α) : aBin .mul (.int .i64 2) (.int .i64 (m : Int)) f = f (.int .i64 ((2 * m : Nat) : Int)) := by
  simp only [aBin, intBin, if_true]
  rw [w_i64 (by omega) (by omega)]
  congr 2
theorem maj_loop (k : Nat) {n : Nat} (hn : n ≤ 64) (s : Store) : ∀ (f m : Nat), m ≤ n / 2 + 1 → n / 2 + 1 - m < f → unisonref21_Majority.l0 k f (.int .i64 (n : Int)) (.int .i64 (m : Int)) s = some (.int .i64 ((n / 2 + 1 : Nat) : Int), s) := by
  intro f
  induction f with
  | zero => intro m _ h; omega
  | succ f ih =>
    intro m hm hf
    have hs : unisonref21_Majority.l0 k (f + 1) (.int .i64 (n : Int)) (.int .i64 (m : Int)) s = unisonref21_Majority.p2 k (unisonref21_Majority.l0 k f) (.int .i64 (n : Int)) (.int .i64 (m : Int)) s := rfl
    rw [hs]
    unfold unisonref21_Majority.p2
    rw [mul_2 (by omega)]
    simp only [leq_i]
    have hw1 : IntKind.i64.wrap ((m : Int) + 1) = ((m + 1 : Nat) : Int) := by rw [w_i64 (by omega) (by omega)]; omega
    by_cases hc : ((2 * m : Nat) : Int) ≤ (n : Int)
    · simp only [decide_eq_true hc, if_t]
      unfold unisonref21_Majority.p1
      simp only [add_i, hw1]
      exact ih (m + 1) (by omega) (by omega)
    · simp only [decide_eq_false hc, if_f]
      unfold unisonref21_Majority.p0
      rw [show m = n / 2 + 1 by omega]
theorem rmaj_run {n : Nat} (hn : 1 ≤ n ∧ n ≤ 64) (k : Nat) (hk : 100 ≤ k) (s : Store) : rn (k + 1) 13 [.int .i64 (n : Int)] s = some (.int .i64 ((n / 2 + 1 : Nat) : Int), s) := by
  rw [unisonref21_Majority.eq]
  unfold unisonref21_Majority.f unisonref21_Majority.p5 unisonref21_Majority.p4
  simp only [bnd, guard_tt, guard_ff, guard_tf, guard_ft, pick_t, pick_f, if_t, if_f, add_i, sub_i, lss_i, leq_i, gtr_i, geq_i, eql_i, neq_i, min_i, max_i, conv_i, len_sl, len_nil, not_b, cells_agg, new_s, fld_p, nil_p, decide_eq_false (show ¬ (n : Int) < 1 by omega), decide_eq_false (show ¬ (n : Int) > 64 by omega)]
  unfold unisonref21_Majority.p3
  exact maj_loop k hn.2 s k 1 (by omega) (by omega)
/-- Who is marked. -/
structure Met (n : Nat) (sent : List OFV) (r : Int) (v : List Rn) (m : List Bool) : Prop where
  len : m.length = n
  ok : ∀ p, m[p]? = some true → ∃ f ∈ sent, f.1.kind = 7 ∧ f.1.round = r ∧ f.1.aux = v ∧ f.1.src = p
theorem mk_bool {n : Nat} (h : n ≤ 1000) (t : Store) {α : Type} (f : AV → Store → Option α) : aMakeSlice [AV.bool false] 1 1 (.int .i64 (n : Int)) (.int .i64 (n : Int)) t f = f (.sl t.next 0 n 1 n) (t.push (.cells ((List.replicate n false).map .bool) false)) := by
  simp only [aMakeSlice]
  rw [if_pos ⟨by omega, by omega, by omega, by omega⟩, Int.toNat_natCast]
  simp
theorem IsW.sentIs (h : IsW s M w ps sent) : IsL (oc 1) 16 s w.sv sent := by
  rcases h.snt with ⟨_, q1, q2⟩ | ⟨id, q1, q2, q3⟩
  · exact .inl ⟨q2, q1⟩
  · exact .inr ⟨id, false, q2, h.lt id (h.sub id (List.mem_append.2 (.inl (by rw [q1]; simp)))), q3⟩
theorem cp16 (f : OFV) {α : Type} (g : AV → Store → Option α) : (aNew [AV.int .u8 0, AV.int .u8 0, AV.int .u8 0, AV.int .u8 0, AV.int .u64 0, AV.int .u64 0, AV.int .u32 0, AV.int .u32 0, AV.int .u32 0, AV.int .u64 0, AV.int .u64 0, AV.nilsl, AV.nilsl, AV.nilsl, AV.nilsl, AV.nilsl] s fun v5 s6 => aStore 16 v5 (.agg (oc 1 f)) s6 fun s7 => g v5 s7) = g (.ptr s.next 0 16) ((s.push (.cells zero16 false)).set s.next (.cells (oc 1 f) false)) := by
  simp only [new_s]
  exact st_all (s := s.push (.cells zero16 false)) (id := s.next) (n := 16) (cs := zero16) (vs := oc 1 f) (by rw [get_push, if_pos rfl]) rfl rfl (fun s7 => g (.ptr s.next 0 16) s7)
theorem cp_ext (s : Store) (f : OFV) : Ext s ((s.push (.cells zero16 false)).set s.next (.cells (oc 1 f) false)) := ⟨(Ext.push s (.cells zero16 false)).next, fun l hl => by rw [get_set, if_neg (by omega)]; exact (Ext.push s (.cells zero16 false)).get l hl⟩
theorem cp_get (s : Store) (f : OFV) : ((s.push (.cells zero16 false)).set s.next (.cells (oc 1 f) false)).get s.next = .cells (oc 1 f) false := by rw [get_set, if_pos rfl]
theorem voted_loop (k : Nat) (hk : 1001 ≤ k) (hk2 : k ≤ 1000000000) {n wr mr : Nat} {r : Int} {x2 : AV} {v : List Rn} (hv : v.length ≤ 1000) (hn : n ≤ 64) (hsrc : ∀ f ∈ sent, f.1.src < n) (hsl : sent.length ≤ 1000000) : ∀ (f i : Nat) (s : Store) (m : List Bool), IsW s M w ps sent → ps.length = n → s.get wr = .cells (wvals n w) false → wr < s.next → IsRuns s x2 v → Met n sent r v m → s.get mr = .cells (m.map .bool) false → mr ∈ M → mr ∉ rowsW w ps → wr ≠ mr → (∀ a b c d e, x2 = .sl a b c d e → a ≠ mr) → i ≤ sent.length → sent.length - i < f →
    ∃ s' m', unisonlaw22_World_voted.l0 (k + 2) f (.int .u64 r) x2 (.ptr wr 0 4) (.sl mr 0 n 1 n) (.int .i64 ((m.countP (· = true) : Nat) : Int)) (.int .i64 (i : Int)) s = some (.int .i64 ((m'.countP (· = true) : Nat) : Int), s') ∧ Met n sent r v m' ∧ FrS [mr] s s' := by
  intro f
  induction f with
  | zero => intro i s m _ _ _ _ _ _ _ _ _ _ _ _ hf; omega
  | succ f ih =>
    intro i s m h hl g hwr hx2 hm gm hmM hmR hne hxm hi hf
    have hs : unisonlaw22_World_voted.l0 (k + 2) (f + 1) (.int .u64 r) x2 (.ptr wr 0 4) (.sl mr 0 n 1 n) (.int .i64 ((m.countP (· = true) : Nat) : Int)) (.int .i64 (i : Int)) s = unisonlaw22_World_voted.p3 (k + 2) (unisonlaw22_World_voted.l0 (k + 2) f) (.int .u64 r) x2 (.ptr wr 0 4) (.sl mr 0 n 1 n) (.int .i64 ((m.countP (· = true) : Nat) : Int)) (.int .i64 (i : Int)) s := rfl
    rw [hs]
    unfold unisonlaw22_World_voted.p3
    have ld : ∀ {α : Type} (c : AV → Option α), aLoad1 (.ptr wr (0 + 3) 4) s c = c w.sv := fun {α} c => ld_fld g rfl rfl c
    have hsl2 := fun {α : Type} (c : AV → Option α) => lenL h.sentIs c
    simp only [fld_p, ld, hsl2, lss_i]
    have hcn : m.countP (· = true) ≤ 64 := Nat.le_trans List.countP_le_length (by rw [hm.len]; exact hn)
    by_cases hin : (i : Int) < (sent.length : Int)
    rotate_left
    · simp only [decide_eq_false hin, if_f]
      unfold unisonlaw22_World_voted.p0
      exact ⟨s, m, rfl, hm, FrS.refl _ _⟩
    have hi' : i < sent.length := by omega
    simp only [decide_eq_true hin, if_t]
    unfold unisonlaw22_World_voted.p2
    obtain ⟨p, q1, q2⟩ := elemL (oc_len 1) h.sentIs hi'
    have hw1 : IntKind.i64.wrap ((i : Int) + 1) = ((i + 1 : Nat) : Int) := by rw [w_i64 (by omega) (by omega)]; omega
    simp only [fld_p, ld, q1, q2]
    rw [cp16]
    have e1 := cp_ext s sent[i]
    have g1 := cp_get s sent[i]
    have n1 : s.next < ((s.push (.cells zero16 false)).set s.next (.cells (oc 1 sent[i]) false)).next := Nat.lt_succ_self _
    generalize (s.push (.cells zero16 false)).set s.next (.cells (oc 1 sent[i]) false) = s1 at e1 g1 n1 ⊢
    have lf : ∀ {j : Nat} {w : AV}, (oc 1 sent[i])[j]? = some w → ∀ {α : Type} (c : AV → Option α), aLoad1 (.ptr s.next (0 + j) 16) s1 c = c w := fun {j w} hw {α} c => ld_fld g1 rfl hw c
    have lf0 : ∀ {α : Type} (c : AV → Option α), aLoad1 (.ptr s.next (0 + 0 + 0) 16) s1 c = c (.int .u8 (sent[i].1.kind : Int)) := fun {α} c => lf (j := 0) rfl c
    have lf1 : ∀ {α : Type} (c : AV → Option α), aLoad1 (.ptr s.next (0 + 0 + 1) 16) s1 c = c (.int .u8 (sent[i].1.src : Int)) := fun {α} c => lf (j := 1) rfl c
    have h1 := h.ext e1
    have hfi := h1.of sent[i] (List.getElem_mem hi')
    have hsame := same_run hfi.1.aux.is (hx2.ext e1) (by have := hfi.1.aux.len; omega) (k + 1) (by have := hfi.1.aux.len; omega)
    have hmr := h.lt mr hmM
    have next : ∀ {t : Store} (m2 : List Bool), FrS [mr] s1 t → Met n sent r v m2 → t.get mr = .cells (m2.map .bool) false → ∃ s' m', unisonlaw22_World_voted.p1 (k + 2) (unisonlaw22_World_voted.l0 (k + 2) f) (.int .u64 r) x2 (.ptr wr 0 4) (.sl mr 0 n 1 n) (.int .i64 ((m2.countP (· = true) : Nat) : Int)) (.int .i64 (i : Int)) t = some (.int .i64 ((m'.countP (· = true) : Nat) : Int), s') ∧ Met n sent r v m' ∧ FrS [mr] s s' := by
      intro t m2 e hm2 gt
      unfold unisonlaw22_World_voted.p1
      simp only [add_i, hw1]
      have e2 := (e1.frS [mr]).trans e fun y hy => .inl hy
      obtain ⟨s', m', b1, b2, b3⟩ := ih (i + 1) t m2 (h.frS e2 (fun y hy => by rw [List.mem_singleton.1 hy]; exact hmM) fun y hy z => hmR (by rw [← List.mem_singleton.1 z]; exact hy)) hl ((e2.get _ hwr (by simp only [List.mem_singleton]; exact hne)).trans g) (Nat.lt_of_lt_of_le hwr e2.next) (hx2.frS e2 fun a b c d e q z => hxm a b c d e q (List.mem_singleton.1 z)) hm2 gt hmM hmR hne hxm (by omega) (by omega)
      exact ⟨s', m', b1, b2, e2.trans b3 fun y hy => .inl hy⟩
    have gm1 := (e1.get _ hmr).trans gm
    have skip := next m (FrS.refl _ _) hm gm1
    simp only [lf0, bnd, guard_tt, guard_ff, guard_tf, guard_ft, pick_t, pick_f, if_t, if_f, add_i, sub_i, lss_i, leq_i, gtr_i, geq_i, eql_i, neq_i, min_i, max_i, conv_i, len_sl, len_nil, not_b, cells_agg, new_s, fld_p, nil_p]
    by_cases k7 : sent[i].1.kind = 7
    rotate_left
    · have : ((sent[i].1.kind : Int) == 7) = false := by simp; omega
      simp only [this, bnd, guard_tt, guard_ff, guard_tf, guard_ft, pick_t, pick_f, if_t, if_f, add_i, sub_i, lss_i, leq_i, gtr_i, geq_i, eql_i, neq_i, min_i, max_i, conv_i, len_sl, len_nil, not_b, cells_agg, new_s, fld_p, nil_p, guard_skip]
      exact skip
    have : ((sent[i].1.kind : Int) == 7) = true := by simp [k7]
    simp only [this, bnd, guard_tt, guard_ff, guard_tf, guard_ft, pick_t, pick_f, if_t, if_f, add_i, sub_i, lss_i, leq_i, gtr_i, geq_i, eql_i, neq_i, min_i, max_i, conv_i, len_sl, len_nil, not_b, cells_agg, new_s, fld_p, nil_p, lf (j := 10) rfl]
    by_cases kr : sent[i].1.round = r
    rotate_left
    · have : (sent[i].1.round == r) = false := by simp [kr]
      simp only [this, bnd, guard_tt, guard_ff, guard_tf, guard_ft, pick_t, pick_f, if_t, if_f, add_i, sub_i, lss_i, leq_i, gtr_i, geq_i, eql_i, neq_i, min_i, max_i, conv_i, len_sl, len_nil, not_b, cells_agg, new_s, fld_p, nil_p, guard_skip]
      exact skip
    have : (sent[i].1.round == r) = true := by simp [kr]
    simp only [this, bnd, guard_tt, guard_ff, guard_tf, guard_ft, pick_t, pick_f, if_t, if_f, add_i, sub_i, lss_i, leq_i, gtr_i, geq_i, eql_i, neq_i, min_i, max_i, conv_i, len_sl, len_nil, not_b, cells_agg, new_s, fld_p, nil_p, lf (j := 12) rfl, hsame]
    by_cases kv : sent[i].1.aux = v
    rotate_left
    · simp only [decide_eq_false kv, bnd, guard_tt, guard_ff, guard_tf, guard_ft, pick_t, pick_f, if_t, if_f, add_i, sub_i, lss_i, leq_i, gtr_i, geq_i, eql_i, neq_i, min_i, max_i, conv_i, len_sl, len_nil, not_b, cells_agg, new_s, fld_p, nil_p, guard_skip]
      exact skip
    have hsr := hsrc sent[i] (List.getElem_mem hi')
    have ix : ∀ {α : Type} (c : AV → Option α), aIndexSl 1 (.sl mr 0 n 1 n) (.int .u8 (sent[i].1.src : Int)) c = c (.ptr mr sent[i].1.src n) := fun {α} c => idx1 hsr c
    have hsm : sent[i].1.src < m.length := by rw [hm.len]; exact hsr
    have lb : ∀ {α : Type} (c : AV → Option α), aLoad1 (.ptr mr sent[i].1.src n) s1 c = c (.bool m[sent[i].1.src]) := fun {α} c => load_1 gm1 (by rw [List.length_map, hm.len]) (by simp [hsm])
    simp only [decide_eq_true kv, bnd, guard_tt, guard_ff, guard_tf, guard_ft, pick_t, pick_f, if_t, if_f, add_i, sub_i, lss_i, leq_i, gtr_i, geq_i, eql_i, neq_i, min_i, max_i, conv_i, len_sl, len_nil, not_b, cells_agg, new_s, fld_p, nil_p, lf1, ix, lb]
    cases hb : m[sent[i].1.src]
    rotate_left
    · simp only [Bool.not_true, bnd, guard_tt, guard_ff, guard_tf, guard_ft, pick_t, pick_f, if_t, if_f, add_i, sub_i, lss_i, leq_i, gtr_i, geq_i, eql_i, neq_i, min_i, max_i, conv_i, len_sl, len_nil, not_b, cells_agg, new_s, fld_p, nil_p]
      exact skip
    simp only [Bool.not_false, bnd, guard_tt, guard_ff, guard_tf, guard_ft, pick_t, pick_f, if_t, if_f, add_i, sub_i, lss_i, leq_i, gtr_i, geq_i, eql_i, neq_i, min_i, max_i, conv_i, len_sl, len_nil, not_b, cells_agg, new_s, fld_p, nil_p, lf1, ix]
    have sb : ∀ {α : Type} (c : Store → Option α), aStore 1 (.ptr mr sent[i].1.src n) (.bool true) s1 c = c (s1.set mr (.cells ((m.set sent[i].1.src true).map .bool) false)) := fun {α} c => by
      have := st_fld (j := sent[i].1.src) (v := .bool true) gm1 (show (m.map AV.bool).length = n by rw [List.length_map, hm.len]) hsr (fun f => rfl) c
      rw [Nat.zero_add] at this
      rw [this, List.map_set]
    have hc : (m.set sent[i].1.src true).countP (· = true) = m.countP (· = true) + 1 := by
      rw [List.countP_set hsm, hb]
      simp
    have hw2 : IntKind.i64.wrap (((m.countP (· = true) : Nat) : Int) + 1) = (((m.set sent[i].1.src true).countP (· = true) : Nat) : Int) := by rw [hc, w_i64 (by omega) (by omega)]; omega
    simp only [sb, hw2]
    refine next (m.set sent[i].1.src true) ((Fr1.set mr s1 _).frS (by simp)) ⟨by rw [List.length_set]; exact hm.len, fun p hp => ?_⟩ (by rw [get_set, if_pos rfl])
    rw [List.getElem?_set] at hp
    split at hp
    · rename_i z
      exact ⟨sent[i], List.getElem_mem hi', k7, kr, kv, z⟩
    · exact hm.ok p hp
theorem voted_run (h : IsW s M w ps sent) {n : Nat} (hl : ps.length = n) {r : Int} {x2 : AV} {v : List Rn} (hx2 : IsRuns s x2 v) (hv : v.length ≤ 1000) (hn : n ≤ 64) (hsrc : ∀ f ∈ sent, f.1.src < n) (k : Nat) (hk : 1001 ≤ k) (hk2 : k ≤ 1000000) (hsl : sent.length ≤ k) :
    ∃ s' m', rn (k + 3) 12 [.agg (wvals n w), .int .u64 r, x2] s = some (.int .i64 ((m'.countP (· = true) : Nat) : Int), s') ∧ Met n sent r v m' ∧ Ext s s' := by
  rw [show k + 3 = (k + 2) + 1 from rfl, unisonlaw22_World_voted.eq]
  unfold unisonlaw22_World_voted.f unisonlaw22_World_voted.p7 unisonlaw22_World_voted.p6
  have ea := Ext.push s (.cells (wvals n w) false)
  have ga : (s.push (.cells (wvals n w) false)).get s.next = .cells (wvals n w) false := by rw [get_push, if_pos rfl]
  have na : (s.push (.cells (wvals n w) false)).next = s.next + 1 := rfl
  simp only [cells_agg, new_s, wv_len]
  generalize s.push (.cells (wvals n w) false) = sa at ea ga na ⊢
  have ld : ∀ {α : Type} (c : AV → Option α), aLoad1 (.ptr s.next (0 + 0) 4) sa c = c (.sl w.lr 0 n 1 n) := fun {α} c => ld_fld ga rfl rfl c
  simp only [fld_p, ld, len_sl]
  rw [mk_bool (by omega)]
  have eb := Ext.push sa (.cells ((List.replicate n false).map .bool) false)
  have gb : (sa.push (.cells ((List.replicate n false).map .bool) false)).get sa.next = .cells ((List.replicate n false).map .bool) false := by rw [get_push, if_pos rfl]
  have nb : (sa.push (.cells ((List.replicate n false).map .bool) false)).next = sa.next + 1 := rfl
  have hb := (h.ext ea).grow eb (Nat.le_refl _) (by omega)
  generalize sa.push (.cells ((List.replicate n false).map .bool) false) = sb at eb gb nb hb ⊢
  unfold unisonlaw22_World_voted.p5 unisonlaw22_World_voted.p4
  have hx2b := (hx2.ext ea).ext eb
  obtain ⟨s', m', b1, b2, b3⟩ := voted_loop (M := sa.next :: M) (w := w) (ps := ps) (sent := sent) k hk (by omega) (wr := s.next) (mr := sa.next) (r := r) hv hn hsrc (by omega) (k + 2) 0 sb (List.replicate n false) hb hl ((eb.get _ (by omega)).trans ga) (by omega) hx2b ⟨List.length_replicate, fun p hp => by
    rw [List.getElem?_replicate] at hp
    split at hp <;> simp at hp⟩ gb (by simp) (fun z => by have := h.lt _ (h.sub _ z); omega) (by omega) (fun a b c d e q => by have := hx2.lt a b c d e q; omega) (by omega) (by omega)
  have hc0 : (List.replicate n false).countP (· = true) = 0 := by simp [List.countP_replicate]
  rw [hc0] at b1
  rw [show ((0 : Nat) : Int) = 0 from rfl] at b1
  exact ⟨s', m', b1, b2, ⟨by have := b3.next; omega, fun l hl => (b3.get l (by omega) (by simp only [List.mem_singleton]; omega)).trans ((eb.get l (by omega)).trans (ea.get l hl))⟩⟩
/-! ### what the votes tell -/
theorem met_fors {n : Nat} {V E : Gh} {r : Int} {v : List Rn} {m : List Bool} (hm : Met n sent r v m) (hs : ∀ f ∈ sent.map (·.1), OOk n V E f) : m.countP (· = true) ≤ fors n V r v := by
  unfold fors
  have : m.countP (· = true) = (List.range n).countP fun a => decide (m[a]? = some true) := by
    have hl : m = (List.range n).map fun a => (m[a]?).getD false := List.ext_getElem (by simp [hm.len]) fun i h1 h2 => by simp [h1]
    have h2 : m.countP (· = true) = ((List.range n).map fun a => (m[a]?).getD false).countP (· = true) := by rw [← hl]
    rw [h2, List.countP_map]
    refine List.countP_congr fun a ha => ?_
    have ha := List.mem_range.1 ha
    have hb : a < m.length := by rw [hm.len]; exact ha
    simp [hb]
  rw [this]
  refine countP_mono2 fun a h => ?_
  obtain ⟨f, hf, h7, hr, ha, hp⟩ := hm.ok a (of_decide_eq_true h)
  have := (hs f.1 (List.mem_map.2 ⟨f, hf, rfl⟩)).k7 h7
  rw [hp, hr, ha] at this
  exact decide_eq_true this.2
theorem winv_lock {n : Nat} {mine : Nat → List Rn} {b : Int} {L : List XI} {r : Int} {v : List Rn} {m : List Bool} (h : WInv n mine b L (sent.map (·.1))) (hm : Met n sent r v m) (hv : v ≠ []) (hc : n / 2 + 1 ≤ m.countP (· = true)) : ∀ g ∈ sent, g.1.kind = 6 → r < g.1.round → g.1.est = v := by
  obtain ⟨V, E, k, hl, hloc, hs⟩ := h
  intro g hg h6 hr
  have hf := met_fors (E := E) hm hs
  have ho := Dec.open_ (n := n) (V := V) hv (show n / 2 + 1 ≤ fors n V r v by omega)
  have he := (hs g.1 (List.mem_map.2 ⟨g, hg, rfl⟩)).k6 h6
  obtain ⟨l1, l2⟩ := k.lock r g.1.round _ _ hr he ho
  obtain ⟨a, ha⟩ := fors_some (show 0 < fors n V r v by omega)
  rcases k.vot a r v ha with z | z
  · exact absurd z hv
  · rw [z] at l2
    injection l2 with l2
    exact l2.symm
end Go.Proofs.Ytmaidlndikcgkaa.Sim
