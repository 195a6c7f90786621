/- The texts B22Wa, B22Wb, B22Wc, B22Wd, B22We, one behind the other. No condition. -/
import Derived.Test.YtmaidlndikcgkaaB22K
import Derived.Test.YtmaidlndikcgkaaFunW
namespace Go.Proofs.Ytmaidlndikcgkaa.Sim
set_option linter.unusedSimpArgs false
set_option linter.unusedVariables false
variable {s s' : Store} {M M' : List Nat}

/-! ### which rows are written may change -/
theorem IsRM.re {v : AV} {l : List Rn} (h : IsRM s M v l) (hM : ∀ y ∈ M', y ∈ M ∨ s.next ≤ y) : IsRM s M' v l :=
  ⟨h.is, fun i b c d e q q2 => by rcases hM i q2 with z | z; exact h.off i b c d e q z; have := h.is.lt i b c d e q; omega, h.wf, h.len⟩
theorem IsSF.re {q : Nat} {f : SF} (h : IsSF s M q f) (hM : ∀ y ∈ M', y ∈ M ∨ s.next ≤ y) : IsSF s M' q f := by
  obtain ⟨cs, ro, ev, av, h1, h2, h3, h4, h5, h6, h7⟩ := h.row
  exact ⟨fun z => by rcases hM q z with y | y; exact h.off y; have := h.lt; omega, h.lt, ⟨cs, ro, ev, av, h1, h2, h3, h4, h5, h6.re hM, h7.re hM⟩, h.rnd⟩
theorem RelP.re {p : AV} {o : Option SF} (h : RelP s M p o) (hM : ∀ y ∈ M', y ∈ M ∨ s.next ≤ y) : RelP s M' p o := by
  rcases h with h | ⟨q, f, h1, h2, h3⟩
  · exact .inl h
  · exact .inr ⟨q, f, h1, h2, h3.re hM⟩
theorem IsX.re {v : XV} {m : XI} (h : IsX s M v m) (hM : ∀ y ∈ M', y ∈ M ∨ s.next ≤ y) (hx : v.x ∈ M') (hf : v.fr ∈ M') : IsX s M' v m :=
  ⟨h.st, h.frow, h.flen, h.frl, fun i hi => by
    obtain ⟨p, o, h1, h2, h3⟩ := h.rel i hi
    exact ⟨p, o, h1, h2, h3.re hM⟩, h.base, fun i b c d e q q2 => by rcases hM i q2 with z | z; exact h.baseM i b c d e q z; have := h.base.lt i b c d e q; omega, h.baseU, h.baseL, h.est.re hM, h.vote.re hM, h.dec.re hM, h.decn, hx, hf, h.ne, h.xl, h.fl, h.n1, h.me, h.num, h.most, h.rnd⟩
theorem OFs.re {x : OFV} (h : OFs s M x) (hM : ∀ y ∈ M', y ∈ M ∨ s.next ≤ y) : OFs s M' x := ⟨h.est.re hM, h.aux.re hM⟩
theorem OFs.frS {S : List Nat} {x : OFV} (h : OFs s M x) (e : FrS S s s') (hS : ∀ y ∈ S, y ∈ M) : OFs s' M x := ⟨h.est.frS e hS, h.aux.frS e hS⟩

/-! ### the world -/
structure PV where
  v : XV
  h : Nat
  mv : AV
structure PM where
  x : XI
  held : List Int
  mine : List Rn
abbrev PP := PV × PM
structure WV where
  lr : Nat
  hr : Nat
  mr : Nat
  sv : AV
  z : List Nat
def rowsOf (p : PP) : List Nat := [p.1.v.x, p.1.v.fr, p.1.h]
def rowsW (w : WV) (ps : List PP) : List Nat := w.z ++ (ps.map rowsOf).flatten
def wvals (n : Nat) (w : WV) : List AV := [.sl w.lr 0 n 1 n, .sl w.hr 0 n 1 n, .sl w.mr 0 n 1 n, w.sv]
structure IsP (s : Store) (M : List Nat) (n i : Nat) (p : PP) : Prop where
  x : IsX s M p.1.v p.2.x
  xn : p.2.x.n = n
  me : p.2.x.me = i
  num : p.2.x.number = 1
  h : s.get p.1.h = .cells (p.2.held.map (.int .u64)) false
  hlt : p.1.h < s.next
  hM : p.1.h ∈ M
  hl : p.2.held.length = n
  mi : IsRM s M p.1.mv p.2.mine
theorem IsP.frS {S : List Nat} {n i : Nat} {p : PP} (h : IsP s M n i p) (e : FrS S s s') (hS : ∀ y ∈ S, y ∈ M) (hd : ∀ y ∈ rowsOf p, y ∉ S) : IsP s' M n i p :=
  ⟨h.x.frS e hS (hd _ (by simp [rowsOf])) (hd _ (by simp [rowsOf])), h.xn, h.me, h.num, (e.get _ h.hlt (hd _ (by simp [rowsOf]))).trans h.h, Nat.lt_of_lt_of_le h.hlt e.next, h.hM, h.hl, h.mi.frS e hS⟩
theorem IsP.re {n i : Nat} {p : PP} (h : IsP s M n i p) (hM : ∀ y ∈ M', y ∈ M ∨ s.next ≤ y) (hd : ∀ y ∈ rowsOf p, y ∈ M') : IsP s M' n i p :=
  ⟨h.x.re hM (hd _ (by simp [rowsOf])) (hd _ (by simp [rowsOf])), h.xn, h.me, h.num, h.h, h.hlt, hd _ (by simp [rowsOf]), h.hl, h.mi.re hM⟩
def SentAt (s : Store) (w : WV) (l : List OFV) : Prop := (w.z = [] ∧ l = [] ∧ w.sv = .nilsl) ∨ ∃ id, w.z = [id] ∧ w.sv = .sl id 0 l.length 16 (l.length * 16) ∧ s.get id = .cells (l.map (oc 1)).flatten false
structure OFB (f : OF) : Prop where
  kind : f.kind < 256
  src : f.src < 64
  rnd : 0 ≤ f.round ∧ f.round < 18446744073709551616
structure IsW (s : Store) (M : List Nat) (w : WV) (ps : List PP) (sent : List OFV) : Prop where
  n1 : 1 ≤ ps.length ∧ ps.length ≤ 64
  lrow : s.get w.lr = .cells (ps.map fun p => .ptr p.1.v.x 0 11) false
  hrow : s.get w.hr = .cells (ps.map fun p => .sl p.1.h 0 ps.length 1 ps.length) false
  mrow : s.get w.mr = .cells (ps.map fun p => p.1.mv) false
  off : ∀ r ∈ [w.lr, w.hr, w.mr], r < s.next ∧ r ∉ M
  p : ∀ i (h : i < ps.length), IsP s M ps.length i ps[i]
  nd : (rowsW w ps).Nodup
  sub : ∀ y ∈ rowsW w ps, y ∈ M
  lt : ∀ y ∈ M, y < s.next
  snt : SentAt s w sent
  of : ∀ f ∈ sent, OFs s M f ∧ OFB f.1
theorem rows_mem {w : WV} {ps : List PP} {i : Nat} (h : i < ps.length) {y : Nat} (hy : y ∈ rowsOf ps[i]) : y ∈ rowsW w ps := by
  unfold rowsW
  refine List.mem_append.2 (.inr (List.mem_flatten.2 ⟨rowsOf ps[i], List.mem_map.2 ⟨ps[i], List.getElem_mem h, rfl⟩, hy⟩))
theorem rows_ne {w : WV} {ps : List PP} (hn : (rowsW w ps).Nodup) {i j : Nat} (hi : i < ps.length) (hj : j < ps.length) (hne : i ≠ j) {y : Nat} (h1 : y ∈ rowsOf ps[i]) : y ∉ rowsOf ps[j] := by
  intro h2
  have h := (List.pairwise_flatten.1 (List.pairwise_append.1 hn).2.1).2
  rw [List.pairwise_iff_getElem] at h
  rcases Nat.lt_or_gt_of_ne hne with q | q
  · exact h i j (by rw [List.length_map]; exact hi) (by rw [List.length_map]; exact hj) q y (by rw [List.getElem_map]; exact h1) y (by rw [List.getElem_map]; exact h2) rfl
  · exact h j i (by rw [List.length_map]; exact hj) (by rw [List.length_map]; exact hi) q y (by rw [List.getElem_map]; exact h2) y (by rw [List.getElem_map]; exact h1) rfl
theorem rows_one {w : WV} {ps : List PP} (hn : (rowsW w ps).Nodup) {i : Nat} (hi : i < ps.length) : (rowsOf ps[i]).Nodup := by
  have h := (List.pairwise_flatten.1 (List.pairwise_append.1 hn).2.1).1
  exact h _ (List.mem_map.2 ⟨_, List.getElem_mem hi, rfl⟩)
theorem rows_z {w : WV} {ps : List PP} (hn : (rowsW w ps).Nodup) {i : Nat} (hi : i < ps.length) {y : Nat} (hy : y ∈ rowsOf ps[i]) : y ∉ w.z := fun h =>
  (List.pairwise_append.1 hn).2.2 y h y (List.mem_flatten.2 ⟨_, List.mem_map.2 ⟨_, List.getElem_mem hi, rfl⟩, hy⟩) rfl
theorem rows_set {w : WV} {ps : List PP} {i : Nat} {q : PP} (h : i < ps.length) (hq : rowsOf q = rowsOf ps[i]) : rowsW w (ps.set i q) = rowsW w ps := by
  unfold rowsW
  rw [List.map_set, hq, set_at]
  rw [List.getElem?_map, List.getElem?_eq_getElem h]
  rfl
theorem map_same {β : Type} {ps : List PP} {i : Nat} {q : PP} (f : PP → β) (h : i < ps.length) (hq : f q = f ps[i]) : (ps.set i q).map f = ps.map f := by
  rw [List.map_set, hq, set_at]
  rw [List.getElem?_map, List.getElem?_eq_getElem h]
  rfl
theorem SentAt.frS {S : List Nat} {w : WV} {l : List OFV} (h : SentAt s w l) (e : FrS S s s') (hz : ∀ y ∈ w.z, y < s.next ∧ y ∉ S) : SentAt s' w l := by
  rcases h with h | ⟨id, h1, h2, h3⟩
  · exact .inl h
  · have := hz id (by rw [h1]; simp)
    exact .inr ⟨id, h1, h2, (e.get id this.1 this.2).trans h3⟩
variable {w : WV} {ps : List PP} {sent : List OFV}
theorem IsW.frS {S : List Nat} (h : IsW s M w ps sent) (e : FrS S s s') (hS : ∀ y ∈ S, y ∈ M) (hd : ∀ y ∈ rowsW w ps, y ∉ S) : IsW s' M w ps sent := by
  have hr : ∀ r ∈ [w.lr, w.hr, w.mr], s'.get r = s.get r := fun r hr => e.get r (h.off r hr).1 fun q => (h.off r hr).2 (hS r q)
  exact ⟨h.n1, (hr _ (by simp)).trans h.lrow, (hr _ (by simp)).trans h.hrow, (hr _ (by simp)).trans h.mrow, fun r q => ⟨Nat.lt_of_lt_of_le (h.off r q).1 e.next, (h.off r q).2⟩, fun i hi => (h.p i hi).frS e hS fun y hy => hd y (rows_mem hi hy), h.nd, h.sub, fun y hy => Nat.lt_of_lt_of_le (h.lt y hy) e.next,
    h.snt.frS e fun y hy => ⟨h.lt y (h.sub y (List.mem_append.2 (.inl hy))), hd y (List.mem_append.2 (.inl hy))⟩, fun f hf => ⟨(h.of f hf).1.frS e hS, (h.of f hf).2⟩⟩
theorem IsW.ext (h : IsW s M w ps sent) (e : Ext s s') : IsW s' M w ps sent := h.frS (e.frS []) (fun y hy => (List.not_mem_nil hy).elim) fun y _ => List.not_mem_nil
/-- Some rows more, or fewer, are written. -/
theorem IsW.re (h : IsW s M w ps sent) (hM : ∀ y ∈ M', y ∈ M ∨ s.next ≤ y) (hs : ∀ y ∈ rowsW w ps, y ∈ M') (e : Ext s s') (hlt : ∀ y ∈ M', y < s'.next) : IsW s' M' w ps sent := by
  have hr : ∀ r ∈ [w.lr, w.hr, w.mr], s'.get r = s.get r := fun r hr => e.get r (h.off r hr).1
  have hS : ∀ y ∈ ([] : List Nat), y ∈ M' := fun y hy => (List.not_mem_nil hy).elim
  refine ⟨h.n1, (hr _ (by simp)).trans h.lrow, (hr _ (by simp)).trans h.hrow, (hr _ (by simp)).trans h.mrow, fun r q => ⟨Nat.lt_of_lt_of_le (h.off r q).1 e.next, fun z => ?_⟩, fun i hi => ((h.p i hi).re hM fun y hy => hs y (rows_mem hi hy)).frS (e.frS []) hS fun y _ => List.not_mem_nil, h.nd, hs, hlt,
    h.snt.frS (e.frS []) fun y hy => ⟨h.lt y (h.sub y (List.mem_append.2 (.inl hy))), List.not_mem_nil⟩, fun f hf => ⟨((h.of f hf).1.re hM).ext e, (h.of f hf).2⟩⟩
  rcases hM r z with y | y
  · exact (h.off r q).2 y
  · have := (h.off r q).1; omega
/-- A row more that may be written. -/
theorem IsW.grow (h : IsW s M w ps sent) (e : Ext s s') {y : Nat} (hy : s.next ≤ y) (hy2 : y < s'.next) : IsW s' (y :: M) w ps sent :=
  h.re (fun z hz => by rcases List.mem_cons.1 hz with rfl | q; exact .inr hy; exact .inl q) (fun z hz => List.mem_cons_of_mem _ (h.sub z hz)) e fun z hz => by
    rcases List.mem_cons.1 hz with rfl | q
    · exact hy2
    · exact Nat.lt_of_lt_of_le (h.lt z q) e.next
theorem IsW.less (h : IsW s M w ps sent) (hM : ∀ y ∈ M', y ∈ M) (hs : ∀ y ∈ rowsW w ps, y ∈ M') : IsW s M' w ps sent :=
  h.re (fun y hy => .inl (hM y hy)) hs (Ext.refl s) fun y hy => h.lt y (hM y hy)
/-- One process's rows are written. -/
theorem IsW.upd {S : List Nat} {i : Nat} {q : PP} (h : IsW s M w ps sent) (hi : i < ps.length) (hq : rowsOf q = rowsOf ps[i]) (hmv : q.1.mv = ps[i].1.mv) (e : FrS S s s') (hS : ∀ y ∈ S, y ∈ rowsOf ps[i]) (hp : IsP s' M ps.length i q) : IsW s' M w (ps.set i q) sent := by
  have hSM : ∀ y ∈ S, y ∈ M := fun y hy => h.sub y (rows_mem hi (hS y hy))
  have hr : ∀ r ∈ [w.lr, w.hr, w.mr], s'.get r = s.get r := fun r hr => e.get r (h.off r hr).1 fun z => (h.off r hr).2 (hSM r z)
  have hx : q.1.v.x = ps[i].1.v.x := by unfold rowsOf at hq; injection hq
  have hh : q.1.h = ps[i].1.h := by unfold rowsOf at hq; injection hq with _ a; injection a with _ a; injection a
  have hw := rows_set (w := w) hi hq
  refine ⟨by rw [List.length_set]; exact h.n1, ?_, ?_, ?_, fun r z => ⟨Nat.lt_of_lt_of_le (h.off r z).1 e.next, (h.off r z).2⟩, fun j hj => ?_, by rw [hw]; exact h.nd, by rw [hw]; exact h.sub, fun y hy => Nat.lt_of_lt_of_le (h.lt y hy) e.next,
    h.snt.frS e fun y hy => ⟨h.lt y (h.sub y (List.mem_append.2 (.inl hy))), fun z => rows_z h.nd hi (hS y z) hy⟩, fun f hf => ⟨(h.of f hf).1.frS e hSM, (h.of f hf).2⟩⟩
  · rw [hr _ (by simp), h.lrow, map_same (fun p : PP => AV.ptr p.1.v.x 0 11) hi (by rw [hx])]
  · rw [hr _ (by simp), h.hrow, List.length_set, map_same (fun p : PP => AV.sl p.1.h 0 ps.length 1 ps.length) hi (by rw [hh])]
  · rw [hr _ (by simp), h.mrow, map_same (fun p : PP => p.1.mv) hi hmv]
  · rw [List.length_set] at hj
    rw [List.length_set, List.getElem_set]
    by_cases z : i = j
    · subst z
      rw [if_pos rfl]; exact hp
    · rw [if_neg z]
      exact (h.p j hj).frS e hSM fun y hy w => rows_ne h.nd hj hi (Ne.symm z) hy (hS y w)
end Go.Proofs.Ytmaidlndikcgkaa.Sim
namespace Go.Proofs.Ytmaidlndikcgkaa.Sim
set_option linter.unusedSimpArgs false
set_option linter.unusedVariables false
variable {s s' : Store} {M M' : List Nat} {w : WV} {ps : List PP} {sent : List OFV}

theorem putAll_full : ∀ (vs cs pre : List AV), vs.length = cs.length → putAll (pre ++ cs) pre.length vs = pre ++ vs
  | [], cs, pre, h => by
    have : cs = [] := List.length_eq_zero_iff.1 h.symm
    rw [this]; rfl
  | v :: vs, [], pre, h => by simp at h
  | v :: vs, c :: cs, pre, h => by
    have := putAll_full vs cs (pre ++ [v]) (by simpa using h)
    simp only [putAll]
    rw [List.set_append_right _ _ (Nat.le_refl _), Nat.sub_self, List.set_cons_zero]
    simpa using this
theorem st_all {id n : Nat} {cs vs : List AV} (h : s.get id = .cells cs false) (hc : cs.length = n) (hv : vs.length = n) {α : Type} (f : Store → Option α) : aStore n (.ptr id 0 n) (.agg vs) s f = f (s.set id (.cells vs false)) := by
  have := putAll_full vs cs [] (by omega)
  simp only [List.nil_append, List.length_nil] at this
  simp only [aStore, aCells, aOwn, h, hc, if_true]
  rw [if_pos (by omega), this]
theorem ld_all {id n : Nat} {cs : List AV} {ro : Bool} (h : s.get id = .cells cs ro) (hc : cs.length = n) {α : Type} (f : AV → Option α) : aLoadN n (.ptr id 0 n) s f = f (.agg cs) := by
  rw [load_n (off := 0) (ep := n) (n := n) h hc (by omega), List.drop_zero, List.take_of_length_le (by omega)]
theorem app_sent (h : SentAt s w sent) (hz : ∀ y ∈ w.z, y < s.next) {ov : AV} {l : List OFV} {lo : Nat} (ho : OwnL (oc 1) 16 s ov l lo) (hl : l ≠ []) (hb : (sent.length + l.length) * 184 ≤ 140737488355328) :
    ∃ s' sv' z', (∀ {α : Type} (f : AV → Store → Option α), aAppend 16 184 w.sv ov s f = f sv' s') ∧ SentAt s' { w with sv := sv', z := z' } (sent ++ l) ∧ FrS w.z s s' ∧ sv'.one = true ∧ (z' = w.z ∨ (w.z = [] ∧ z' = [s.next] ∧ s.next < s'.next)) := by
  have hm : l.length ≠ 0 := fun q => hl (List.length_eq_zero_iff.1 q)
  obtain ⟨iy, rfl, y1, y2, y3⟩ : ∃ id, ov = .sl id 0 l.length 16 (l.length * 16) ∧ lo ≤ id ∧ id < s.next ∧ s.get id = .cells (l.map (oc 1)).flatten false := by
    rcases ho with ⟨_, q⟩ | q
    · exact absurd q hl
    · exact q
  have hfl := flatL_len (c := oc 1) (oc_len 1) l
  have hy : ∀ {α : Type} (f : Nat → List AV → Option α), aCellsOf 16 (.sl iy 0 l.length 16 (l.length * 16)) s f = f l.length (l.map (oc 1)).flatten := fun {α} f => by
    simp only [aCellsOf, aRow, y3, hfl, if_true]
    rw [if_pos (by omega), List.drop_zero, List.take_of_length_le (by omega)]
  rcases h with ⟨z0, rfl, q3⟩ | ⟨id, z1, q3, q4⟩
  · refine ⟨s.push (.cells (l.map (oc 1)).flatten false), .sl s.next 0 l.length 16 (l.length * 16), [s.next], fun {α} f => ?_, .inr ⟨s.next, rfl, rfl, by rw [get_push, if_pos rfl]; rfl⟩, (Ext.push s _).frS _, rfl, .inr ⟨z0, rfl, Nat.lt_succ_self _⟩⟩
    simp only [aAppend, q3, hy]
    rw [if_neg hm, if_pos ⟨by simp only [List.length_nil, Nat.zero_add] at hb; omega, by decide⟩]
  · refine ⟨s.set id (.cells ((sent.map (oc 1)).flatten ++ (l.map (oc 1)).flatten) false), .sl id 0 (sent.length + l.length) 16 ((sent.length + l.length) * 16), w.z, fun {α} f => ?_, .inr ⟨id, z1, by rw [List.length_append], by rw [get_set, if_pos rfl, List.map_append, List.flatten_append]⟩, ?_, rfl, .inl rfl⟩
    · rw [q3]
      exact app_row (es := 16) (bytes := 184) q4 (flatL_len (oc_len 1) _) hy hfl (by decide) hb (by decide) hm f
    · rw [z1]
      exact (Fr1.set _ _ _).frS (by simp)
theorem IsW.put {sv' : AV} {z' : List Nat} {l : List OFV} (h : IsW s M w ps sent) (hs : SentAt s' { w with sv := sv', z := z' } (sent ++ l)) (e : FrS w.z s s') (hz : z' = w.z ∨ (w.z = [] ∧ z' = [s.next] ∧ s.next < s'.next)) (hl : ∀ f ∈ l, OFs s M f ∧ OFB f.1) : IsW s' (z' ++ M) { w with sv := sv', z := z' } ps (sent ++ l) := by
  have hzM : ∀ y ∈ w.z, y ∈ M := fun y hy => h.sub y (List.mem_append.2 (.inl hy))
  have hzM' : ∀ y ∈ w.z, y ∈ z' ++ M := fun y hy => List.mem_append.2 (.inr (hzM y hy))
  have hM : ∀ y ∈ z' ++ M, y ∈ M ∨ s.next ≤ y := fun y hy => by
    rcases List.mem_append.1 hy with q | q
    · rcases hz with rfl | ⟨_, rfl, _⟩
      · exact .inl (hzM y q)
      · rw [List.mem_singleton.1 q]; exact .inr (Nat.le_refl _)
    · exact .inl q
  have hr : ∀ r ∈ [w.lr, w.hr, w.mr], s'.get r = s.get r := fun r hr => e.get r (h.off r hr).1 fun q => (h.off r hr).2 (hzM r q)
  refine ⟨h.n1, (hr _ (by simp)).trans h.lrow, (hr _ (by simp)).trans h.hrow, (hr _ (by simp)).trans h.mrow, fun r q => ⟨Nat.lt_of_lt_of_le (h.off r q).1 e.next, fun q2 => ?_⟩, fun i hi => ((h.p i hi).re hM fun y hy => List.mem_append.2 (.inr (h.sub y (rows_mem hi hy)))).frS e hzM' (fun y hy => rows_z h.nd hi hy), ?_, fun y hy => ?_, fun y hy => ?_, hs, fun f hf => ?_⟩
  · rcases hM r q2 with y | y
    · exact (h.off r q).2 y
    · have := (h.off r q).1; omega
  · rcases hz with rfl | ⟨z0, rfl, z2⟩
    · exact h.nd
    · have hn := h.nd
      unfold rowsW at hn ⊢
      rw [z0] at hn
      refine List.pairwise_append.2 ⟨List.pairwise_singleton _ _, hn, fun a ha b hb => ?_⟩
      rw [List.mem_singleton.1 ha]
      have := h.lt b (h.sub b (List.mem_append.2 (.inr hb)))
      omega
  · rcases List.mem_append.1 hy with q | q
    · exact List.mem_append.2 (.inl q)
    · exact List.mem_append.2 (.inr (h.sub y (List.mem_append.2 (.inr q))))
  · rcases List.mem_append.1 hy with q | q
    · rcases hz with rfl | ⟨z0, rfl, z2⟩
      · exact Nat.lt_of_lt_of_le (h.lt y (hzM y q)) e.next
      · rw [List.mem_singleton.1 q]; exact z2
    · exact Nat.lt_of_lt_of_le (h.lt y q) e.next
  · rcases List.mem_append.1 hf with q | q
    · exact ⟨((h.of f q).1.re hM).frS e hzM', (h.of f q).2⟩
    · exact ⟨((hl f q).1.re hM).frS e hzM', (hl f q).2⟩

/-! ### what acts keep -/
theorem beginX_keep (m : XI) (r : Int) (held : List Int) (mine : List Rn) : (beginX m r held mine).n = m.n ∧ (beginX m r held mine).me = m.me ∧ (beginX m r held mine).number = m.number := ⟨rfl, rfl, rfl⟩
theorem jumpX_keep (m : XI) (held : List Int) (mine : List Rn) : (jumpX m held mine).1.n = m.n ∧ (jumpX m held mine).1.me = m.me ∧ (jumpX m held mine).1.number = m.number := by
  unfold jumpX
  cases bestX m held <;> exact ⟨rfl, rfl, rfl⟩
theorem votesX_keep (m : XI) (held sus : List Int) : (votesX m held sus).1.n = m.n ∧ (votesX m held sus).1.me = m.me ∧ (votesX m held sus).1.number = m.number := by
  unfold votesX
  split
  · exact ⟨rfl, rfl, rfl⟩
  · split
    · exact ⟨rfl, rfl, rfl⟩
    · split
      · exact ⟨rfl, rfl, rfl⟩
      · split <;> exact ⟨rfl, rfl, rfl⟩
theorem stepX_keep (m : XI) (held : List Int) (mine : List Rn) (sus : List Int) : (stepX m held mine sus).1.n = m.n ∧ (stepX m held mine sus).1.me = m.me ∧ (stepX m held mine sus).1.number = m.number := by
  have h1 := jumpX_keep m held mine
  have h2 := votesX_keep (jumpX m held mine).1 held sus
  have h3 := h2.1.trans h1.1
  have h4 := h2.2.1.trans h1.2.1
  have h5 := h2.2.2.trans h1.2.2
  unfold stepX
  split
  · exact ⟨rfl, rfl, rfl⟩
  · generalize (votesX (jumpX m held mine).1 held sus).1 = m2 at *
    have : ∀ b, (endX m2 held mine b).1.n = m2.n ∧ (endX m2 held mine b).1.me = m2.me ∧ (endX m2 held mine b).1.number = m2.number := fun b => by
      unfold endX
      repeat' split
      all_goals first | exact ⟨rfl, rfl, rfl⟩ | exact beginX_keep _ _ _ _
    split
    · exact ⟨h3, h4, h5⟩
    · exact ⟨(this _).1.trans h3, (this _).2.1.trans h4, (this _).2.2.trans h5⟩
theorem comeX_keep (m : XI) (f : IFm) : (comeX m f).1.n = m.n ∧ (comeX m f).1.me = m.me ∧ (comeX m f).1.number = m.number := by
  unfold comeX
  repeat' split
  all_goals exact ⟨rfl, rfl, rfl⟩
theorem out_b {v : XV} {m : XI} (h : IsX s M v m) : ∀ f ∈ outX m, OFB f := by
  intro f hf
  have hme : m.me < 64 := by have := h.n1; have := h.me; omega
  unfold outX at hf
  split at hf
  · rw [List.mem_singleton.1 hf]; exact ⟨(by decide : 8 < 256), hme, (by decide : (0 : Int) ≤ 0 ∧ (0 : Int) < 18446744073709551616)⟩
  · rcases List.mem_cons.1 hf with rfl | hf
    · exact ⟨(by decide : 6 < 256), hme, h.rnd⟩
    · split at hf
      · rw [List.mem_singleton.1 hf]; exact ⟨(by decide : 7 < 256), hme, h.rnd⟩
      · exact (List.not_mem_nil hf).elim
theorem outX_ne (m : XI) : outX m ≠ [] := by
  unfold outX
  split <;> simp
end Go.Proofs.Ytmaidlndikcgkaa.Sim
namespace Go.Proofs.Ytmaidlndikcgkaa.Sim
set_option linter.unusedSimpArgs false
set_option linter.unusedVariables false
variable {s s' : Store} {M M' : List Nat} {w : WV} {ps : List PP} {sent : List OFV}

structure WAct (s s' : Store) (M M' : List Nat) (w w' : WV) (ps ps' : List PP) (sent' : List OFV) : Prop where
  is : IsW s' M' w' ps' sent'
  fr : FrS (rowsW w ps) s s'
  m1 : ∀ y ∈ M', y ∈ M ∨ s.next ≤ y
  m2 : ∀ y ∈ M, y ∈ M'
  rows : ∀ y ∈ rowsW w' ps', y ∈ rowsW w ps ∨ s.next ≤ y
theorem idx1 {r n i : Nat} {kk : IntKind} (hi : i < n) {α : Type} (c : AV → Option α) : aIndexSl 1 (.sl r 0 n 1 n) (.int kk (i : Int)) c = c (.ptr r i n) := by rw [idxV (by omega) (by omega), Int.toNat_natCast, Nat.zero_add]
theorem IsW.ldL (h : IsW s M w ps sent) {i : Nat} (hi : i < ps.length) {α : Type} (c : AV → Option α) : aLoad1 (.ptr w.lr i ps.length) s c = c (.ptr ps[i].1.v.x 0 11) := load_1 h.lrow (by simp) (by simp [hi])
theorem IsW.ldH (h : IsW s M w ps sent) {i : Nat} (hi : i < ps.length) {α : Type} (c : AV → Option α) : aLoad1 (.ptr w.hr i ps.length) s c = c (.sl ps[i].1.h 0 ps.length 1 ps.length) := load_1 h.hrow (by simp) (by simp [hi])
theorem IsW.ldM (h : IsW s M w ps sent) {i : Nat} (hi : i < ps.length) {α : Type} (c : AV → Option α) : aLoad1 (.ptr w.mr i ps.length) s c = c ps[i].1.mv := load_1 h.mrow (by simp) (by simp [hi])
theorem IsP.held {n i : Nat} {p : PP} (h : IsP s M n i p) : IsSl s (.sl p.1.h 0 n 1 n) .u64 p.2.held := .inr ⟨p.1.h, false, by rw [h.hl], h.hlt, h.h⟩
theorem wv_len (n : Nat) (w : WV) : (wvals n w).length = 4 := rfl
theorem IsP.hm {n i : Nat} {p : PP} (h : IsP s M n i p) (hn : (rowsOf p).Nodup) (hn1 : n ≤ 64) : HM s p.1.v (.sl p.1.h 0 n 1 n) p.1.mv p.2.held p.2.mine := by
  refine ⟨h.held, fun i b c d e q q2 => ?_, h.mi.is, fun i b c d e q q2 => h.mi.off i b c d e q ?_, h.mi.wf, by rw [h.hl]; omega, h.mi.len⟩
  · injection q with q
    subst q
    simp only [rowsOf, List.nodup_cons, List.mem_cons, List.not_mem_nil, or_false, not_or] at hn q2
    rcases q2 with q2 | q2
    · exact hn.1.2 q2.symm
    · exact hn.2.1 q2.symm
  · simp only [List.mem_cons, List.not_mem_nil, or_false] at q2
    rcases q2 with q2 | q2
    · rw [q2]; exact h.x.xM
    · rw [q2]; exact h.x.fM
set_option maxHeartbeats 1000000 in
theorem wstep_run (h : IsW s M w ps sent) {i : Nat} (hi : i < ps.length) {sv : AV} {sus : List Int} (hsu : IsSl s sv .i64 sus) (hsx : ∀ a b c d e, sv = .sl a b c d e → a ∉ M) (hsl : sus.length ≤ 1000) (hb : sent.length ≤ 1000000) (k : Nat) (hk : 1001 ≤ k) (hk2 : k ≤ 100000) :
    ∃ s' M' w' q l, rn (k + 10) 15 [.agg (wvals ps.length w), .int .i64 (i : Int), sv] s = some (.agg (wvals ps.length w'), s') ∧ q.2 = { ps[i].2 with x := (stepX ps[i].2.x ps[i].2.held ps[i].2.mine sus).1 } ∧ l.map (·.1) = outX q.2.x ∧ WAct s s' M M' w w' ps (ps.set i q) (sent ++ l) := by
  rw [show k + 10 = (k + 9) + 1 from rfl, F15.eq]
  unfold F15.f F15.p3
  have hl4 : [AV.nilsl, AV.nilsl, AV.nilsl, AV.nilsl].length = 4 := rfl
  have ea := Ext.push s (.cells (wvals ps.length w) false)
  have ga : (s.push (.cells (wvals ps.length w) false)).get s.next = .cells (wvals ps.length w) false := by rw [get_push, if_pos rfl]
  have na : s.next < (s.push (.cells (wvals ps.length w) false)).next := Nat.lt_succ_self _
  have ha := h.grow ea (Nat.le_refl _) na
  simp only [cells_agg, new_s, wv_len, hl4]
  generalize hsa : s.push (.cells (wvals ps.length w) false) = sa at ea ga na ha ⊢
  have eb := Ext.push sa (.cells [AV.nilsl, AV.nilsl, AV.nilsl, AV.nilsl] false)
  have gb : (sa.push (.cells [AV.nilsl, AV.nilsl, AV.nilsl, AV.nilsl] false)).get sa.next = .cells [AV.nilsl, AV.nilsl, AV.nilsl, AV.nilsl] false := by rw [get_push, if_pos rfl]
  have nb : sa.next < (sa.push (.cells [AV.nilsl, AV.nilsl, AV.nilsl, AV.nilsl] false)).next := Nat.lt_succ_self _
  have h1 := ha.grow eb (Nat.le_refl _) nb
  generalize hsb : sa.push (.cells [AV.nilsl, AV.nilsl, AV.nilsl, AV.nilsl] false) = s1 at eb gb nb h1 ⊢
  have e1 := ea.trans eb
  have g3 : s1.get s.next = .cells (wvals ps.length w) false := (eb.get _ na).trans ga
  have x3M : s.next ∉ rowsW w ps := fun q => by have := h.lt _ (h.sub _ q); omega
  have x6M : sa.next ∉ rowsW w ps := fun q => by have := h.lt _ (h.sub _ q); omega
  generalize hM1 : sa.next :: s.next :: M = M1 at h1
  have hp1 := h1.p i hi
  have hd1 := rows_one h1.nd hi
  have hS : ∀ y ∈ [ps[i].1.v.x, ps[i].1.v.fr], y ∈ rowsOf ps[i] := fun y hy => by
    simp only [rowsOf, List.mem_cons, List.not_mem_nil, or_false] at hy ⊢
    rcases hy with q | q
    · exact .inl q
    · exact .inr (.inl q)
  have hSr : ∀ y ∈ [ps[i].1.v.x, ps[i].1.v.fr], y ∈ rowsW w ps := fun y hy => rows_mem hi (hS y hy)
  obtain ⟨s2, a1, a2⟩ := step_run hp1.x h1.lt (hp1.hm hd1 h1.n1.2) (hsu.ext e1) (fun a b c d e q q2 => hsx a b c d e q (h.sub a (hSr a q2))) hsl k hk hk2
  obtain ⟨v', x2, y2, z2⟩ := a2.ex
  have kp := stepX_keep ps[i].2.x ps[i].2.held ps[i].2.mine sus
  obtain ⟨q, hq⟩ : ∃ q : PP, q = ({ ps[i].1 with v := v' }, { ps[i].2 with x := (stepX ps[i].2.x ps[i].2.held ps[i].2.mine sus).1 }) := ⟨_, rfl⟩
  have hqr : rowsOf q = rowsOf ps[i] := by rw [hq]; simp only [rowsOf, y2, z2]
  have hp2 : IsP s2 M1 ps.length i q := by
    have hh : ps[i].1.h ∉ [ps[i].1.v.x, ps[i].1.v.fr] := fun q => (hp1.hm hd1 h1.n1.2).hx _ _ _ _ _ rfl q
    rw [hq]
    exact ⟨x2, kp.1.trans hp1.xn, kp.2.1.trans hp1.me, kp.2.2.trans hp1.num, (a2.fr.get _ hp1.hlt hh).trans hp1.h, Nat.lt_of_lt_of_le hp1.hlt a2.fr.next, hp1.hM, hp1.hl, hp1.mi.frS a2.fr fun y hy => h1.sub y (hSr y hy)⟩
  have h2 := h1.upd hi hqr (by rw [hq]) a2.fr hS hp2
  have fx : ∀ {S : List Nat} {t t' : Store}, (∀ y ∈ S, y ∈ rowsW w ps) → FrS S t t' → s1.next ≤ t.next → t'.get s.next = t.get s.next ∧ t'.get sa.next = t.get sa.next := fun {S t t'} hS e hn => ⟨e.get _ (by omega) fun q => x3M (hS _ q), e.get _ (by omega) fun q => x6M (hS _ q)⟩
  have g2 := fx hSr a2.fr (Nat.le_refl _)
  have hli : i < (ps.set i q).length := by rw [List.length_set]; exact hi
  have hxs : (ps.set i q)[i]'hli = q := by rw [List.getElem_set, if_pos rfl]
  have hx2 : IsX s2 M1 q.1.v q.2.x := hp2.x
  obtain ⟨s3, ov, l, b1, b2, b3, b4, b5⟩ := out_run hx2 h2.lt (k + 5)
  rw [hp2.num] at b2
  have hlne : l ≠ [] := fun z => outX_ne q.2.x (by rw [← b3, z]; rfl)
  have hll : l.length ≤ 2 := by
    have : (outX q.2.x).length ≤ 2 := by
      unfold outX
      split
      · simp
      · split <;> simp
    rw [← b3, List.length_map] at this
    exact this
  have h3 := h2.ext b5
  have hrw := rows_set (w := w) hi hqr
  obtain ⟨s4, sv', z', c1, c2, c3, c4, c5⟩ := app_sent h3.snt (fun y hy => h3.lt y (h3.sub y (List.mem_append.2 (.inl hy)))) b2 hlne (by omega)
  have h4 := h3.put c2 c3 c5 fun f hf => ⟨b4 f hf, out_b hx2 f.1 (by rw [← b3]; exact List.mem_map.2 ⟨f, hf, rfl⟩)⟩
  have n2 := a2.fr.next
  have n3 := b5.next
  have n4 := c3.next
  have hzr : ∀ y ∈ w.z, y ∈ rowsW w ps := fun y hy => List.mem_append.2 (.inl hy)
  have g4 := fx hzr c3 (by omega)
  have g43 : s4.get s.next = .cells (wvals ps.length w) false := by rw [g4.1, b5.get _ (by omega), g2.1, g3]
  have g46 : s4.get sa.next = .cells [AV.nilsl, AV.nilsl, AV.nilsl, AV.nilsl] false := by rw [g4.2, b5.get _ (by omega), g2.2, gb]
  have g33 : s3.get s.next = .cells (wvals ps.length w) false := by rw [b5.get _ (by omega), g2.1, g3]
  have g23 : s2.get s.next = .cells (wvals ps.length w) false := by rw [g2.1, g3]
  have ld : ∀ {t : Store} {j : Nat} {x : AV}, t.get s.next = .cells (wvals ps.length w) false → (wvals ps.length w)[j]? = some x → ∀ {α : Type} (c : AV → Option α), aLoad1 (.ptr s.next (0 + j) 4) t c = c x := fun {t j x} g hx {α} c => ld_fld g rfl hx c
  have lL1 := fun {α : Type} (c : AV → Option α) => h1.ldL hi c
  have lH1 := fun {α : Type} (c : AV → Option α) => h1.ldH hi c
  have lM1 := fun {α : Type} (c : AV → Option α) => h1.ldM hi c
  have lL2 : ∀ {α : Type} (c : AV → Option α), aLoad1 (.ptr w.lr i ps.length) s2 c = c (.ptr q.1.v.x 0 11) := fun {α} c => by
    have := h2.ldL hli c
    rw [List.length_set, hxs] at this
    exact this
  have b1' : rn (k + 9) 27 [.ptr q.1.v.x 0 11] s2 = some (ov, s3) := b1
  unfold F15.p2 F15.p1 F15.p0
  have st3 : ∀ {α : Type} (f : Store → Option α), aStore 1 (.ptr s.next (0 + 3) 4) sv' s4 f = f (s4.set s.next (.cells (wvals ps.length { w with sv := sv', z := z' }) false)) := fun f => st_fld g43 rfl (show 3 < 4 by decide) (fun f => c_one c4 f) f
  have e5 := Fr1.set s.next s4 (.cells (wvals ps.length { w with sv := sv', z := z' }) false)
  have g5 : (s4.set s.next (.cells (wvals ps.length { w with sv := sv', z := z' }) false)).get s.next = .cells (wvals ps.length { w with sv := sv', z := z' }) false := by rw [get_set, if_pos rfl]
  have g56 : (s4.set s.next (.cells (wvals ps.length { w with sv := sv', z := z' }) false)).get sa.next = .cells [AV.nilsl, AV.nilsl, AV.nilsl, AV.nilsl] false := by rw [get_set, if_neg (by omega)]; exact g46
  simp only [ld g3 (j := 0) rfl, ld g3 (j := 1) rfl, ld g3 (j := 2) rfl, ld g3 (j := 3) rfl, ld g23 (j := 0) rfl, ld g23 (j := 3) rfl, ld g33 (j := 3) rfl, idx1 hi, lL1, lH1, lM1, lL2, bnd, guard_tt, guard_ff, guard_tf, guard_ft, pick_t, pick_f, if_t, if_f, add_i, sub_i, lss_i, leq_i, gtr_i, geq_i, eql_i, neq_i, min_i, max_i, conv_i, len_sl, len_nil, not_b, cells_agg, new_s, fld_p, nil_p, a1, b1', aSame_self, c1, st3]
  generalize s4.set s.next (.cells (wvals ps.length { w with sv := sv', z := z' }) false) = s5 at e5 g5 g56 ⊢
  have e6 := Fr1.set sa.next s5 (.cells (wvals ps.length { w with sv := sv', z := z' }) false)
  have g6 : (s5.set sa.next (.cells (wvals ps.length { w with sv := sv', z := z' }) false)).get sa.next = .cells (wvals ps.length { w with sv := sv', z := z' }) false := by rw [get_set, if_pos rfl]
  simp only [ld_all g5 (wv_len _ _), st_all g56 hl4 (wv_len _ _), ld_all g6 (wv_len _ _)]
  generalize s5.set sa.next (.cells (wvals ps.length { w with sv := sv', z := z' }) false) = s6 at e6 g6 ⊢
  have hrows' : ∀ y ∈ rowsW { w with sv := sv', z := z' } (ps.set i q), y ∈ rowsW w ps ∨ s3.next ≤ y := fun y hy => by
    rcases List.mem_append.1 hy with z | z
    · rcases c5 with c5 | ⟨_, c5, _⟩
      · exact .inl (hzr y (by rw [← c5]; exact z))
      · have z : y ∈ z' := z
        rw [c5, List.mem_singleton] at z
        exact .inr (by omega)
    · refine .inl ?_
      rw [← hrw]
      exact List.mem_append.2 (.inr z)
  have hnr : ∀ x, x = s.next ∨ x = sa.next → x ∉ rowsW { w with sv := sv', z := z' } (ps.set i q) := fun x hx hy => by
    rcases hrows' x hy with z | z
    · rcases hx with rfl | rfl
      · exact x3M z
      · exact x6M z
    · rcases hx with rfl | rfl <;> omega
  have hx3 : s.next ∈ z' ++ M1 := by rw [← hM1]; simp
  have hx6 : sa.next ∈ z' ++ M1 := by rw [← hM1]; simp
  have h5 := h4.frS (e5.frS (S := [s.next]) (by simp)) (fun y hy => by rw [List.mem_singleton.1 hy]; exact hx3) fun y hy z => hnr y (.inl (List.mem_singleton.1 z)) hy
  have h6 := h5.frS (e6.frS (S := [sa.next]) (by simp)) (fun y hy => by rw [List.mem_singleton.1 hy]; exact hx6) fun y hy z => hnr y (.inr (List.mem_singleton.1 z)) hy
  have h7 := h6.less (M' := z' ++ M) (fun y hy => by
      rcases List.mem_append.1 hy with z | z
      · exact List.mem_append.2 (.inl z)
      · rw [← hM1]; simp [z]) fun y hy => by
      rcases List.mem_append.1 hy with z | z
      · exact List.mem_append.2 (.inl z)
      · refine List.mem_append.2 (.inr (h.sub y ?_))
        rw [← hrw]
        exact List.mem_append.2 (.inr z)
  refine ⟨s6, z' ++ M, _, q, l, rfl, by rw [hq], b3, h7, ?_, fun y hy => ?_, fun y hy => List.mem_append.2 (.inr hy), fun y hy => ?_⟩
  · have f1 : FrS (rowsW w ps) s s4 := (((e1.frS (rowsW w ps)).trans (a2.fr.mono hSr) fun y hy => .inl hy).trans (b5.frS (rowsW w ps)) fun y hy => .inl hy).trans (c3.mono hzr) fun y hy => .inl hy
    have f2 : FrS (rowsW w ps) s s5 := f1.trans (e5.frS (S := [s.next]) (by simp)) fun y hy => .inr (by rw [List.mem_singleton.1 hy]; exact Nat.le_refl _)
    exact f2.trans (e6.frS (S := [sa.next]) (by simp)) fun y hy => .inr (by rw [List.mem_singleton.1 hy]; omega)
  · rcases List.mem_append.1 hy with z | z
    · rcases c5 with c5 | ⟨_, c5, _⟩
      · exact .inl (h.sub y (hzr y (by rw [← c5]; exact z)))
      · rw [c5, List.mem_singleton] at z
        exact .inr (by omega)
    · exact .inl z
  · rcases hrows' y hy with z | z
    · exact .inl z
    · exact .inr (by omega)
end Go.Proofs.Ytmaidlndikcgkaa.Sim
namespace Go.Proofs.Ytmaidlndikcgkaa.Sim
set_option linter.unusedSimpArgs false
set_option linter.unusedVariables false
variable {s s' : Store} {M M' : List Nat} {w : WV} {ps : List PP} {sent : List OFV}

/-- A pick: what becomes of the processes, and of what was sent. -/
inductive PStep : List PM → List OF → List PM → List OF → Prop where
  | same (l : List PM) (o : List OF) : PStep l o l o
  | hold (l : List PM) (o : List OF) (i q : Nat) (hi : i < l.length) (hq : q < l.length) : PStep l o (l.set i { l[i] with held := l[i].held.set q (l[q].held.getD q 0) }) o
  | step (l : List PM) (o : List OF) (i : Nat) (hi : i < l.length) (sus : List Int) : PStep l o (l.set i { l[i] with x := (stepX l[i].x l[i].held l[i].mine sus).1 }) (o ++ outX (stepX l[i].x l[i].held l[i].mine sus).1)
  | come (l : List PM) (o : List OF) (i : Nat) (hi : i < l.length) (f : OF) (hf : f ∈ o) : PStep l o (l.set i { l[i] with x := (comeX l[i].x f.toIF).1 }) o
structure Pk where
  kind : Int
  p : Int
  which : Int
  sus : Int
def pcells (x : Pk) : List AV := [.int .i64 x.kind, .int .i64 x.p, .int .i64 x.which, .int .u8 x.sus]
theorem pc_len (x : Pk) : (pcells x).length = 4 := rfl
theorem rem_i {k : IntKind} {a b : Int} (ha : 0 ≤ a) (hb : b ≠ 0) {α : Type} (f : AV → Option α) : aBin .rem (.int k a) (.int k b) f = f (.int k (a % b)) := by
  simp only [aBin, intBin, if_true, if_neg hb, Int.tmod_eq_emod_of_nonneg ha]
theorem any_bit (x : Int) (p : Nat) : ∃ b : Bool, ∀ {α : Type} (f : AV → Option α), (aShift .shr (.int .u8 x) (.int .i64 (p : Int)) fun v3 => aBin .rem v3 (.int .u8 2) fun v4 => aBin .eql v4 (.int .u8 1) f) = f (.bool b) := by
  refine ⟨(x.fdiv (2 ^ min (p : Int).toNat IntKind.u8.bits)).tmod 2 == 1, fun {α} f => ?_⟩
  simp only [aShift]
  rw [if_neg (by omega)]
  simp [aBin, intBin]

/-! ### the end: what is handed back -/
theorem WAct.less {x4 : Nat} {w' : WV} {ps' : List PP} {sent' : List OFV} {sc : Store} (h : IsW s M w ps sent) (e : Ext s sc) (h4 : s.next ≤ x4) (h4c : x4 < sc.next) (a : WAct sc s' (x4 :: M) M' w w' ps ps' sent') (o : AObj) :
    ∃ M'', WAct s (s'.set x4 o) M M'' w w' ps ps' sent' := by
  have hx4 : x4 ∉ rowsW w' ps' := fun q => by
    rcases a.rows _ q with z | z
    · have := h.lt _ (h.sub _ z); omega
    · omega
  refine ⟨M'.filter fun y => decide (y ≠ x4), ⟨?_, ?_, fun y hy => ?_, fun y hy => ?_, fun y hy => ?_⟩⟩
  · have h1 := a.is.frS ((Fr1.set x4 s' o).frS (S := [x4]) (by simp)) (fun y hy => by rw [List.mem_singleton.1 hy]; exact a.m2 _ (by simp)) fun y hy z => hx4 (by rw [← List.mem_singleton.1 z]; exact hy)
    exact h1.less (fun y hy => (List.mem_filter.1 hy).1) fun y hy => List.mem_filter.2 ⟨a.is.sub y hy, decide_eq_true fun z => hx4 (by rw [← z]; exact hy)⟩
  · exact ((e.frS (rowsW w ps)).trans a.fr fun y hy => .inl hy).trans ((Fr1.set x4 s' o).frS (S := [x4]) (by simp)) fun y hy => .inr (by rw [List.mem_singleton.1 hy]; exact h4)
  · obtain ⟨h1, h2⟩ := List.mem_filter.1 hy
    have h2 := of_decide_eq_true h2
    rcases a.m1 y h1 with z | z
    · rcases List.mem_cons.1 z with q | q
      · exact absurd q h2
      · exact .inl q
    · exact .inr (Nat.le_trans e.next z)
  · have := h.lt y hy
    exact List.mem_filter.2 ⟨a.m2 y (List.mem_cons_of_mem _ hy), decide_eq_true (by omega)⟩
  · rcases a.rows y hy with z | z
    · exact .inl z
    · exact .inr (Nat.le_trans e.next z)
/-- Nothing but some rows of the world changed. -/
theorem WAct.of {S : List Nat} {ps' : List PP} (h : IsW s' M w ps' sent) (e : FrS S s s') (hS : ∀ y ∈ S, y ∈ rowsW w ps) (hr : rowsW w ps' = rowsW w ps) : WAct s s' M M w w ps ps' sent :=
  ⟨h, e.mono hS, fun y hy => .inl hy, fun y hy => hy, fun y hy => .inl (by rw [← hr]; exact hy)⟩
theorem put_back {x4 : Nat} {cs : List AV} (g4 : s.get x4 = .cells cs false) (hc : cs.length = 4) {vs : List AV} (hv : vs.length = 4) {α : Type} (f : AV → Store → Option α) : (aStore 4 (.ptr x4 0 4) (.agg vs) s fun s2 => aLoadN 4 (.ptr x4 0 4) s2 fun v3 => f v3 s2) = f (.agg vs) (s.set x4 (.cells vs false)) := by
  rw [st_all g4 hc hv, ld_all (by rw [get_set, if_pos rfl]) hv]

/-! ### who is suspected -/
theorem sus_loop (k : Nat) {x2 x4 : AV} {x3 id : Nat} {n : Nat} {pk : Pk} {s1 : Store} (hn : n ≤ 64) (g3 : s1.get x3 = .cells (pcells pk) false) (h3 : x3 < s1.next) (h3i : x3 ≠ id) : ∀ (f p : Nat) (s : Store) (l : List Int), FrS [id] s1 s → s.get id = .cells (l.map (.int .i64)) false → id < s.next → p ≤ n → n - p < f → l.length ≤ p →
    ∃ (s' : Store) (l' : List Int), F10.l0 k f x2 (.ptr x3 0 4) x4 (.int .i64 (n : Int)) (.sl id 0 l.length 1 l.length) (.int .i64 (p : Int)) s = F10.p1 k x2 (.ptr x3 0 4) x4 (.sl id 0 l'.length 1 l'.length) s' ∧ s'.get id = .cells (l'.map (.int .i64)) false ∧ id < s'.next ∧ FrS [id] s1 s' ∧ l'.length ≤ n := by
  intro f
  induction f with
  | zero => intro p s l _ _ _ _ hf; omega
  | succ f ih =>
    intro p s l e gi hi hp hf hl
    unfold F10.l0
    rw [iterF]
    unfold F10.p4
    simp only [bnd, guard_tt, guard_ff, guard_tf, guard_ft, pick_t, pick_f, if_t, if_f, add_i, sub_i, lss_i, leq_i, gtr_i, geq_i, eql_i, neq_i, min_i, max_i, conv_i, len_sl, len_nil, not_b, cells_agg, new_s, fld_p, nil_p]
    by_cases hpn : (p : Int) < (n : Int)
    rotate_left
    · simp only [decide_eq_false hpn, bnd, guard_tt, guard_ff, guard_tf, guard_ft, pick_t, pick_f, if_t, if_f, add_i, sub_i, lss_i, leq_i, gtr_i, geq_i, eql_i, neq_i, min_i, max_i, conv_i, len_sl, len_nil, not_b, cells_agg, new_s, fld_p, nil_p]
      exact ⟨s, l, rfl, gi, hi, e, by omega⟩
    · simp only [decide_eq_true hpn, bnd, guard_tt, guard_ff, guard_tf, guard_ft, pick_t, pick_f, if_t, if_f, add_i, sub_i, lss_i, leq_i, gtr_i, geq_i, eql_i, neq_i, min_i, max_i, conv_i, len_sl, len_nil, not_b, cells_agg, new_s, fld_p, nil_p]
      unfold F10.p3
      have g3s : s.get x3 = .cells (pcells pk) false := (e.get _ h3 (by simp only [List.mem_singleton]; exact h3i)).trans g3
      have l3 : ∀ {α : Type} (c : AV → Option α), aLoad1 (.ptr x3 (0 + 3) 4) s c = c (.int .u8 pk.sus) := fun {α} c => ld_fld g3s rfl rfl c
      have l1 : ∀ {α : Type} (c : AV → Option α), aLoad1 (.ptr x3 (0 + 1) 4) s c = c (.int .i64 pk.p) := fun {α} c => ld_fld g3s rfl rfl c
      obtain ⟨b, hb⟩ := any_bit pk.sus p
      have hw : IntKind.i64.wrap ((p : Int) + 1) = ((p + 1 : Nat) : Int) := by rw [w_i64 (by omega) (by omega)]; omega
      have next : ∀ {t : Store} {l2 : List Int}, FrS [id] s1 t → t.get id = .cells (l2.map (.int .i64)) false → id < t.next → l2.length ≤ p + 1 → ∃ (s' : Store) (l' : List Int), F10.p2 k (F10.l0 k f) x2 (.ptr x3 0 4) x4 (.int .i64 (n : Int)) (.sl id 0 l2.length 1 l2.length) (.int .i64 (p : Int)) t = F10.p1 k x2 (.ptr x3 0 4) x4 (.sl id 0 l'.length 1 l'.length) s' ∧ s'.get id = .cells (l'.map (.int .i64)) false ∧ id < s'.next ∧ FrS [id] s1 s' ∧ l'.length ≤ n := by
        intro t l2 et gt ht hl2
        unfold F10.p2
        simp only [add_i, hw]
        exact ih (p + 1) t l2 et gt ht (by omega) (by omega) hl2
      simp only [fld_p, l3, hb]
      have hcase : ∀ c : Bool, ∃ (s' : Store) (l' : List Int), (aIf (.bool c) (aBuild [(0, 1, .int .i64 (p : Int))] [AV.int .i64 0] fun c14 => aAppend 1 8 (.sl id 0 l.length 1 l.length) (AV.sl s.next 0 1 1 1) (s.push (.cells c14 false)) fun v15 s16 => F10.p2 k (F10.l0 k f) x2 (.ptr x3 0 4) x4 (.int .i64 (n : Int)) v15 (.int .i64 (p : Int)) s16) (F10.p2 k (F10.l0 k f) x2 (.ptr x3 0 4) x4 (.int .i64 (n : Int)) (.sl id 0 l.length 1 l.length) (.int .i64 (p : Int)) s)) = F10.p1 k x2 (.ptr x3 0 4) x4 (.sl id 0 l'.length 1 l'.length) s' ∧ s'.get id = .cells (l'.map (.int .i64)) false ∧ id < s'.next ∧ FrS [id] s1 s' ∧ l'.length ≤ n := by
        intro c
        cases c
        · simp only [if_f]
          exact next e gi hi (by omega)
        · have hb1 : ∀ {α : Type} (f : List AV → Option α), aBuild [(0, 1, .int .i64 (p : Int))] [AV.int .i64 0] f = f (([(p : Int)]).map (.int .i64)) := fun f => rfl
          have e2 := Ext.push s (.cells (([(p : Int)]).map (AV.int .i64)) false)
          have gi2 : (s.push (.cells (([(p : Int)]).map (AV.int .i64)) false)).get id = .cells (l.map (.int .i64)) false := (e2.get _ hi).trans gi
          have hy : IsSl (s.push (.cells (([(p : Int)]).map (AV.int .i64)) false)) (.sl s.next 0 1 1 1) .i64 [(p : Int)] := .inr ⟨s.next, false, rfl, Nat.lt_succ_self _, by rw [get_push, if_pos rfl]⟩
          simp only [if_t, hb1]
          rw [app_nums gi2 hy (by simp only [List.length_cons, List.length_nil]; omega) (by decide)]
          refine next ((e.trans (e2.frS [id]) fun y hy => .inl hy).trans ((Fr1.set id _ _).frS (by simp)) fun y hy => .inl hy) (by rw [get_set, if_pos rfl]) ?_ (by simp only [List.length_append, List.length_cons, List.length_nil]; omega)
          exact Nat.lt_of_lt_of_le hi e2.next
      cases b
      · simp only [bnd, guard_tt, guard_ff, guard_tf, guard_ft, pick_t, pick_f, if_t, if_f, add_i, sub_i, lss_i, leq_i, gtr_i, geq_i, eql_i, neq_i, min_i, max_i, conv_i, len_sl, len_nil, not_b, cells_agg, new_s, fld_p, nil_p]
        exact hcase false
      · simp only [bnd, guard_tt, guard_ff, guard_tf, guard_ft, pick_t, pick_f, if_t, if_f, add_i, sub_i, lss_i, leq_i, gtr_i, geq_i, eql_i, neq_i, min_i, max_i, conv_i, len_sl, len_nil, not_b, cells_agg, new_s, fld_p, nil_p, l1]
        exact hcase _
end Go.Proofs.Ytmaidlndikcgkaa.Sim
namespace Go.Proofs.Ytmaidlndikcgkaa.Sim
set_option linter.unusedSimpArgs false
set_option linter.unusedVariables false
variable {s s' : Store} {M M' : List Nat} {w : WV} {ps : List PP} {sent : List OFV}

theorem oc_if {f : OFV} (h : OFs s M f) (hb : OFB f.1) : IsIF s (oc 1 f) f.2.1 f.2.2 f.1.toIF :=
  ⟨rfl, rfl, rfl, rfl, rfl, rfl, rfl, h.est.is, h.aux.is, h.est.wf, h.aux.wf, h.est.len, h.aux.len, by have := hb.src; simp only [OF.toIF]; omega, by have := hb.kind; simp only [OF.toIF]; omega, hb.rnd⟩
structure PkOk (x : Pk) : Prop where
  kind : -9223372036854775808 ≤ x.kind ∧ x.kind < 9223372036854775808
  p : -9223372036854775808 ≤ x.p ∧ x.p < 9223372036854775808
  which : -9223372036854775808 ≤ x.which ∧ x.which < 9223372036854775808
/-- What Do leaves. -/
def DoQ (s : Store) (M : List Nat) (w : WV) (ps : List PP) (sent : List OFV) (r : Option (AV × Store)) : Prop :=
  ∃ s' M' w' ps' sent', r = some (.agg (wvals ps.length w'), s') ∧ WAct s s' M M' w w' ps ps' sent' ∧ PStep (ps.map (·.2)) (sent.map (·.1)) (ps'.map (·.2)) (sent'.map (·.1)) ∧ ps'.length = ps.length ∧ sent'.length ≤ sent.length + 2
theorem outX_le (m : XI) : (outX m).length ≤ 2 := by
  unfold outX
  split
  · simp
  · split <;> simp
theorem set_map {i : Nat} {q : PP} (hi : i < ps.length) {r : PM} (hq : q.2 = r) : (ps.set i q).map (·.2) = (ps.map (·.2)).set i r := by
  rw [List.map_set, hq]
set_option maxHeartbeats 2000000 in
theorem do_run (h : IsW s M w ps sent) (pk : Pk) (hpk : PkOk pk) (hb : sent.length ≤ 1000000) (k : Nat) (hk : 1001 ≤ k) (hk2 : k ≤ 100000) :
    DoQ s M w ps sent (rn (k + 11) 10 [.agg (wvals ps.length w), .agg (pcells pk)] s) := by
  rw [show k + 11 = (k + 10) + 1 from rfl, F10.eq]
  unfold F10.f F10.p20
  have hl4 : [AV.nilsl, AV.nilsl, AV.nilsl, AV.nilsl].length = 4 := rfl
  have ea := Ext.push s (.cells (wvals ps.length w) false)
  have ga : (s.push (.cells (wvals ps.length w) false)).get s.next = .cells (wvals ps.length w) false := by rw [get_push, if_pos rfl]
  have na : (s.push (.cells (wvals ps.length w) false)).next = s.next + 1 := rfl
  simp only [cells_agg, new_s, wv_len, pc_len, hl4]
  generalize hsa : s.push (.cells (wvals ps.length w) false) = sa at ea ga na ⊢
  have eb := Ext.push sa (.cells (pcells pk) false)
  have gb : (sa.push (.cells (pcells pk) false)).get sa.next = .cells (pcells pk) false := by rw [get_push, if_pos rfl]
  have nb : (sa.push (.cells (pcells pk) false)).next = sa.next + 1 := rfl
  generalize hsb : sa.push (.cells (pcells pk) false) = sb at eb gb nb ⊢
  have ec := Ext.push sb (.cells [AV.nilsl, AV.nilsl, AV.nilsl, AV.nilsl] false)
  have gc : (sb.push (.cells [AV.nilsl, AV.nilsl, AV.nilsl, AV.nilsl] false)).get sb.next = .cells [AV.nilsl, AV.nilsl, AV.nilsl, AV.nilsl] false := by rw [get_push, if_pos rfl]
  have nc : (sb.push (.cells [AV.nilsl, AV.nilsl, AV.nilsl, AV.nilsl] false)).next = sb.next + 1 := rfl
  generalize hsc : sb.push (.cells [AV.nilsl, AV.nilsl, AV.nilsl, AV.nilsl] false) = sc at ec gc nc ⊢
  have e3 := (ea.trans eb).trans ec
  have h1 : IsW sc (sb.next :: M) w ps sent := (h.ext (ea.trans eb)).grow ec (Nat.le_refl _) (by omega)
  have x4r : sb.next ∉ rowsW w ps := fun q => by have := h.lt _ (h.sub _ q); omega
  have g2 : sc.get s.next = .cells (wvals ps.length w) false := (ec.get _ (by omega)).trans ((eb.get _ (by omega)).trans ga)
  have g3 : sc.get sa.next = .cells (pcells pk) false := (ec.get _ (by omega)).trans gb
  -- the ends
  have fin : ∀ {t : Store} {Mt : List Nat} {w' : WV} {ps' : List PP} {sent' : List OFV} {vs : List AV}, WAct sc t (sb.next :: M) Mt w w' ps ps' sent' → t.get sb.next = .cells vs false → vs.length = 4 → PStep (ps.map (·.2)) (sent.map (·.1)) (ps'.map (·.2)) (sent'.map (·.1)) → ps'.length = ps.length → sent'.length ≤ sent.length + 2 → DoQ s M w ps sent (aStore 4 (.ptr sb.next 0 4) (.agg (wvals ps.length w')) t fun s2 => aLoadN 4 (.ptr sb.next 0 4) s2 fun v3 => some (v3, s2)) := by
    intro t Mt w' ps' sent' vs a g hv hs hl hse
    rw [put_back g hv (wv_len _ _)]
    obtain ⟨M'', a2⟩ := a.less h e3 (by omega) (by omega) (.cells (wvals ps.length w') false)
    exact ⟨_, M'', w', ps', sent', rfl, a2, hs, hl, hse⟩
  have keep : DoQ s M w ps sent (aStore 4 (.ptr sb.next 0 4) (.agg (wvals ps.length w)) sc fun s2 => aLoadN 4 (.ptr sb.next 0 4) s2 fun v3 => some (v3, s2)) :=
    fin (WAct.of h1 (FrS.refl [] sc) (fun y hy => (List.not_mem_nil hy).elim) rfl) gc hl4 (.same _ _) rfl (by omega)
  have l2 : ∀ {t : Store}, t.get s.next = .cells (wvals ps.length w) false → ∀ {j : Nat} {x : AV}, (wvals ps.length w)[j]? = some x → ∀ {α : Type} (c : AV → Option α), aLoad1 (.ptr s.next (0 + j) 4) t c = c x := fun {t} g {j x} hx {α} c => ld_fld g rfl hx c
  have l3 : ∀ {j : Nat} {x : AV}, (pcells pk)[j]? = some x → ∀ {α : Type} (c : AV → Option α), aLoad1 (.ptr sa.next (0 + j) 4) sc c = c x := fun {j x} hx {α} c => ld_fld g3 rfl hx c
  have n64 := h.n1.2
  have n0 := h.n1.1
  unfold F10.p19 F10.p18
  simp only [l2 g2 (j := 0) rfl, l3 (j := 1) rfl, l3 (j := 2) rfl, bnd, guard_tt, guard_ff, guard_tf, guard_ft, pick_t, pick_f, if_t, if_f, add_i, sub_i, lss_i, leq_i, gtr_i, geq_i, eql_i, neq_i, min_i, max_i, conv_i, len_sl, len_nil, not_b, cells_agg, new_s, fld_p, nil_p]
  by_cases c1 : pk.p < 0
  · simp only [decide_eq_true c1, bnd, guard_tt, guard_ff, guard_tf, guard_ft, pick_t, pick_f, if_t, if_f, add_i, sub_i, lss_i, leq_i, gtr_i, geq_i, eql_i, neq_i, min_i, max_i, conv_i, len_sl, len_nil, not_b, cells_agg, new_s, fld_p, nil_p, guard_skip, ld_all g2 (wv_len _ _)]
    exact keep
  by_cases c2 : pk.p ≥ (ps.length : Int)
  · simp only [decide_eq_false c1, decide_eq_true c2, l3 (j := 1) rfl, bnd, guard_tt, guard_ff, guard_tf, guard_ft, pick_t, pick_f, if_t, if_f, add_i, sub_i, lss_i, leq_i, gtr_i, geq_i, eql_i, neq_i, min_i, max_i, conv_i, len_sl, len_nil, not_b, cells_agg, new_s, fld_p, nil_p, guard_skip, ld_all g2 (wv_len _ _)]
    exact keep
  by_cases c3 : pk.which < 0
  · simp only [decide_eq_false c1, decide_eq_false c2, decide_eq_true c3, l3 (j := 2) rfl, l3 (j := 1) rfl, bnd, guard_tt, guard_ff, guard_tf, guard_ft, pick_t, pick_f, if_t, if_f, add_i, sub_i, lss_i, leq_i, gtr_i, geq_i, eql_i, neq_i, min_i, max_i, conv_i, len_sl, len_nil, not_b, cells_agg, new_s, fld_p, nil_p, guard_skip, ld_all g2 (wv_len _ _)]
    exact keep
  simp only [decide_eq_false c1, decide_eq_false c2, decide_eq_false c3, l3 (j := 2) rfl, l3 (j := 1) rfl, bnd, guard_tt, guard_ff, guard_tf, guard_ft, pick_t, pick_f, if_t, if_f, add_i, sub_i, lss_i, leq_i, gtr_i, geq_i, eql_i, neq_i, min_i, max_i, conv_i, len_sl, len_nil, not_b, cells_agg, new_s, fld_p, nil_p]
  obtain ⟨i, hi, hip⟩ : ∃ i : Nat, i < ps.length ∧ pk.p = (i : Int) := ⟨pk.p.toNat, by omega, by omega⟩
  have hi2 : i < (ps.map (·.2)).length := by rw [List.length_map]; exact hi
  have hgm : ∀ (j : Nat) (hj : j < ps.length), (ps.map (·.2))[j]'(by rw [List.length_map]; exact hj) = ps[j].2 := fun j hj => by rw [List.getElem_map]
  unfold F10.p17 F10.p16 F10.p15
  simp only [l3 (j := 0) rfl, bnd, guard_tt, guard_ff, guard_tf, guard_ft, pick_t, pick_f, if_t, if_f, add_i, sub_i, lss_i, leq_i, gtr_i, geq_i, eql_i, neq_i, min_i, max_i, conv_i, len_sl, len_nil, not_b, cells_agg, new_s, fld_p, nil_p]
  by_cases k0 : pk.kind = 0
  · -- a step
    have hk0 : (pk.kind == 0) = true := by simp [k0]
    simp only [hk0, bnd, guard_tt, guard_ff, guard_tf, guard_ft, pick_t, pick_f, if_t, if_f, add_i, sub_i, lss_i, leq_i, gtr_i, geq_i, eql_i, neq_i, min_i, max_i, conv_i, len_sl, len_nil, not_b, cells_agg, new_s, fld_p, nil_p]
    unfold F10.p6 F10.p5
    have hbn : ∀ {α : Type} (f : List AV → Option α), aBuild [] [] f = f [] := fun f => rfl
    simp only [hbn]
    have ed := Ext.push sc (.cells [] false)
    have gd : (sc.push (.cells [] false)).get sc.next = .cells (([] : List Int).map (.int .i64)) false := by rw [get_push, if_pos rfl]; rfl
    obtain ⟨t, l, j1, j2, j3, j4, j5⟩ := sus_loop (k + 10) (x2 := .ptr s.next 0 4) (x4 := .ptr sb.next 0 4) (x3 := sa.next) (id := sc.next) (n := ps.length) (pk := pk) n64 ((ed.get _ (by omega)).trans g3) (Nat.lt_of_lt_of_le (show sa.next < sc.next by omega) ed.next) (by omega) (k + 10) 0 _ [] (FrS.refl _ _) gd (Nat.lt_succ_self _) (by omega) (by omega) (by simp)
    have j1' := j1
    simp only [List.length_nil] at j1'
    rw [show ((0 : Nat) : Int) = 0 from rfl] at j1'
    rw [j1']
    have et : Ext sc t := ⟨Nat.le_trans ed.next j4.next, fun y hy => (j4.get y (Nat.lt_of_lt_of_le hy ed.next) (by simp only [List.mem_singleton]; omega)).trans (ed.get y hy)⟩
    have ht := h1.ext et
    have hsu : IsSl t (.sl sc.next 0 l.length 1 l.length) .i64 l := .inr ⟨sc.next, false, rfl, j3, j2⟩
    obtain ⟨t2, M2, w', q, lo, a1, a2, a3, a4⟩ := wstep_run ht hi hsu (fun a b c d e q q2 => by injection q with q; have := h1.lt a q2; omega) (by omega) hb k hk hk2
    have l2t := (et.get s.next (by omega)).trans g2
    have l3t : ∀ {α : Type} (c : AV → Option α), aLoad1 (.ptr sa.next (0 + 1) 4) t c = c (.int .i64 pk.p) := fun {α} c => ld_fld ((et.get sa.next (by omega)).trans g3) rfl rfl c
    unfold F10.p1
    simp only [ld_all l2t (wv_len _ _), bnd, guard_tt, guard_ff, guard_tf, guard_ft, pick_t, pick_f, if_t, if_f, add_i, sub_i, lss_i, leq_i, gtr_i, geq_i, eql_i, neq_i, min_i, max_i, conv_i, len_sl, len_nil, not_b, cells_agg, new_s, fld_p, nil_p, l3t, hip, a1]
    have g4 : t2.get sb.next = .cells [AV.nilsl, AV.nilsl, AV.nilsl, AV.nilsl] false := (a4.fr.get _ (Nat.lt_of_lt_of_le (by omega) et.next) x4r).trans ((et.get _ (by omega)).trans gc)
    refine fin (w' := w') (ps' := ps.set i q) (sent' := sent ++ lo) (Mt := M2) ?_ g4 hl4 ?_ (by rw [List.length_set]) (by have := outX_le q.2.x; rw [← a3, List.length_map] at this; rw [List.length_append]; omega)
    · exact ⟨a4.is, (et.frS _).trans a4.fr fun y hy => .inl hy, fun y hy => (a4.m1 y hy).imp id fun z => Nat.le_trans et.next z, a4.m2, fun y hy => (a4.rows y hy).imp id fun z => Nat.le_trans et.next z⟩
    · have := PStep.step (ps.map (·.2)) (sent.map (·.1)) i hi2 l
      rw [hgm i hi] at this
      rw [set_map hi a2, List.map_append, a3, a2]
      exact this
  · have hk0 : (pk.kind == 0) = false := by simp [k0]
    simp only [hk0, bnd, guard_tt, guard_ff, guard_tf, guard_ft, pick_t, pick_f, if_t, if_f, add_i, sub_i, lss_i, leq_i, gtr_i, geq_i, eql_i, neq_i, min_i, max_i, conv_i, len_sl, len_nil, not_b, cells_agg, new_s, fld_p, nil_p]
    unfold F10.p14 F10.p13
    simp only [bnd, guard_tt, guard_ff, guard_tf, guard_ft, pick_t, pick_f, if_t, if_f, add_i, sub_i, lss_i, leq_i, gtr_i, geq_i, eql_i, neq_i, min_i, max_i, conv_i, len_sl, len_nil, not_b, cells_agg, new_s, fld_p, nil_p]
    by_cases k1 : pk.kind = 1
    · -- it comes to hold
      have hk1 : (pk.kind == 1) = true := by simp [k1]
      simp only [hk1, bnd, guard_tt, guard_ff, guard_tf, guard_ft, pick_t, pick_f, if_t, if_f, add_i, sub_i, lss_i, leq_i, gtr_i, geq_i, eql_i, neq_i, min_i, max_i, conv_i, len_sl, len_nil, not_b, cells_agg, new_s, fld_p, nil_p]
      unfold F10.p8 F10.p7 F10.p0
      obtain ⟨j, hj, hjp⟩ : ∃ j : Nat, j < ps.length ∧ pk.which % (ps.length : Int) = (j : Int) := by
        have a := Int.emod_nonneg pk.which (b := (ps.length : Int)) (by omega)
        have b := Int.emod_lt_of_pos pk.which (b := (ps.length : Int)) (by omega)
        exact ⟨(pk.which % (ps.length : Int)).toNat, by omega, by omega⟩
      have hrem : ∀ {α : Type} (c : AV → Option α), aBin .rem (.int .i64 pk.which) (.int .i64 (ps.length : Int)) c = c (.int .i64 (j : Int)) := fun c => by rw [rem_i (by omega) (by omega), hjp]
      have hpj := h1.p j hj
      have hpi := h1.p i hi
      have lHi := fun {α : Type} (c : AV → Option α) => h1.ldH hi c
      have lHj := fun {α : Type} (c : AV → Option α) => h1.ldH hj c
      have lv : ∀ {α : Type} (c : AV → Option α), aLoad1 (.ptr ps[j].1.h j ps.length) sc c = c (.int .u64 (ps[j].2.held.getD j 0)) := fun {α} c => by
        have := loadV (s := sc) (id := ps[j].1.h) (k := .u64) hpj.h (i := j) (by rw [hpj.hl]; exact hj) c
        rw [hpj.hl] at this
        exact this
      have sv : ∀ {α : Type} (f : Store → Option α), aStore 1 (.ptr ps[i].1.h j ps.length) (.int .u64 (ps[j].2.held.getD j 0)) sc f = f (sc.set ps[i].1.h (.cells ((ps[i].2.held.set j (ps[j].2.held.getD j 0)).map (.int .u64)) false)) := fun {α} f => by
        have := storeV (s := sc) (id := ps[i].1.h) (k := .u64) hpi.h (i := j) (by rw [hpi.hl]; exact hj) (n := ps[j].2.held.getD j 0) f
        rw [hpi.hl] at this
        exact this
      simp only [l3 (j := 2) rfl, l3 (j := 1) rfl, hrem, l2 g2 (j := 1) rfl, hip, idx1 hi, idx1 hj, lHi, lHj, lv, sv, bnd, guard_tt, guard_ff, guard_tf, guard_ft, pick_t, pick_f, if_t, if_f, add_i, sub_i, lss_i, leq_i, gtr_i, geq_i, eql_i, neq_i, min_i, max_i, conv_i, len_sl, len_nil, not_b, cells_agg, new_s, fld_p, nil_p]
      have et := Fr1.set ps[i].1.h sc (.cells ((ps[i].2.held.set j (ps[j].2.held.getD j 0)).map (.int .u64)) false)
      have gt : (sc.set ps[i].1.h (.cells ((ps[i].2.held.set j (ps[j].2.held.getD j 0)).map (.int .u64)) false)).get ps[i].1.h = .cells ((ps[i].2.held.set j (ps[j].2.held.getD j 0)).map (.int .u64)) false := by rw [get_set, if_pos rfl]
      generalize sc.set ps[i].1.h (.cells ((ps[i].2.held.set j (ps[j].2.held.getD j 0)).map (.int .u64)) false) = t at et gt ⊢
      have hS : ∀ y ∈ [ps[i].1.h], y ∈ rowsOf ps[i] := fun y hy => by rw [List.mem_singleton.1 hy]; simp [rowsOf]
      have hSr : ∀ y ∈ [ps[i].1.h], y ∈ rowsW w ps := fun y hy => rows_mem hi (hS y hy)
      have etS := et.frS (S := [ps[i].1.h]) (by simp)
      have hd := rows_one h1.nd hi
      obtain ⟨q, hq⟩ : ∃ q : PP, q = (ps[i].1, { ps[i].2 with held := ps[i].2.held.set j (ps[j].2.held.getD j 0) }) := ⟨_, rfl⟩
      have hqr : rowsOf q = rowsOf ps[i] := by rw [hq]; rfl
      have hpq : IsP t (sb.next :: M) ps.length i q := by
        simp only [rowsOf, List.nodup_cons, List.mem_cons, List.not_mem_nil, or_false, not_or] at hd
        rw [hq]
        exact ⟨hpi.x.frS etS (fun y hy => h1.sub y (hSr y hy)) (by simp only [List.mem_singleton]; exact hd.1.2) (by simp only [List.mem_singleton]; exact hd.2.1), hpi.xn, hpi.me, hpi.num, gt, Nat.lt_of_lt_of_le hpi.hlt et.next, hpi.hM, by rw [List.length_set]; exact hpi.hl, hpi.mi.frS etS fun y hy => h1.sub y (hSr y hy)⟩
      have ht := h1.upd hi hqr (by rw [hq]) etS hS hpq
      have g2t : t.get s.next = .cells (wvals ps.length w) false := (et.get _ (by omega) (fun z => by have := h.lt _ (h.sub _ (hSr _ (List.mem_singleton.2 rfl))); omega)).trans g2
      have g4t : t.get sb.next = .cells [AV.nilsl, AV.nilsl, AV.nilsl, AV.nilsl] false := (et.get _ (by omega) (fun z => x4r (hSr _ (List.mem_singleton.2 z)))).trans gc
      simp only [ld_all g2t (wv_len _ _)]
      refine fin (WAct.of ht etS hSr (rows_set hi hqr)) g4t hl4 ?_ (by rw [List.length_set]) (by omega)
      have := PStep.hold (ps.map (·.2)) (sent.map (·.1)) i j hi2 (by rw [List.length_map]; exact hj)
      rw [hgm i hi, hgm j hj] at this
      rw [set_map (r := { ps[i].2 with held := ps[i].2.held.set j (ps[j].2.held.getD j 0) }) hi (by rw [hq])]
      exact this
    · have hk1 : (pk.kind == 1) = false := by simp [k1]
      simp only [hk1, bnd, guard_tt, guard_ff, guard_tf, guard_ft, pick_t, pick_f, if_t, if_f, add_i, sub_i, lss_i, leq_i, gtr_i, geq_i, eql_i, neq_i, min_i, max_i, conv_i, len_sl, len_nil, not_b, cells_agg, new_s, fld_p, nil_p]
      unfold F10.p12 F10.p11
      simp only [bnd, guard_tt, guard_ff, guard_tf, guard_ft, pick_t, pick_f, if_t, if_f, add_i, sub_i, lss_i, leq_i, gtr_i, geq_i, eql_i, neq_i, min_i, max_i, conv_i, len_sl, len_nil, not_b, cells_agg, new_s, fld_p, nil_p, l2 g2 (j := 3) rfl]
      rcases h1.snt with ⟨z0, hse, q3⟩ | ⟨id, z1, q3, q4⟩
      · rw [q3]
        have : decide ((0 : Int) > 0) = false := rfl
        simp only [len_nil, bnd, guard_tt, guard_ff, guard_tf, guard_ft, pick_t, pick_f, if_t, if_f, add_i, sub_i, lss_i, leq_i, gtr_i, geq_i, eql_i, neq_i, min_i, max_i, conv_i, len_sl, len_nil, not_b, cells_agg, new_s, fld_p, nil_p, this]
        unfold F10.p10 F10.p0
        simp only [ld_all g2 (wv_len _ _)]
        exact keep
      · rw [q3]
        simp only [bnd, guard_tt, guard_ff, guard_tf, guard_ft, pick_t, pick_f, if_t, if_f, add_i, sub_i, lss_i, leq_i, gtr_i, geq_i, eql_i, neq_i, min_i, max_i, conv_i, len_sl, len_nil, not_b, cells_agg, new_s, fld_p, nil_p]
        by_cases hs0 : (sent.length : Int) > 0
        rotate_left
        · simp only [decide_eq_false hs0, bnd, guard_tt, guard_ff, guard_tf, guard_ft, pick_t, pick_f, if_t, if_f, add_i, sub_i, lss_i, leq_i, gtr_i, geq_i, eql_i, neq_i, min_i, max_i, conv_i, len_sl, len_nil, not_b, cells_agg, new_s, fld_p, nil_p]
          unfold F10.p10 F10.p0
          simp only [ld_all g2 (wv_len _ _)]
          exact keep
        simp only [decide_eq_true hs0, bnd, guard_tt, guard_ff, guard_tf, guard_ft, pick_t, pick_f, if_t, if_f, add_i, sub_i, lss_i, leq_i, gtr_i, geq_i, eql_i, neq_i, min_i, max_i, conv_i, len_sl, len_nil, not_b, cells_agg, new_s, fld_p, nil_p]
        unfold F10.p9 F10.p0
        obtain ⟨j, hj, hjp⟩ : ∃ j : Nat, j < sent.length ∧ pk.which % (sent.length : Int) = (j : Int) := by
          have a := Int.emod_nonneg pk.which (b := (sent.length : Int)) (by omega)
          have b := Int.emod_lt_of_pos pk.which (b := (sent.length : Int)) (by omega)
          exact ⟨(pk.which % (sent.length : Int)).toNat, by omega, by omega⟩
        have hrem : ∀ {α : Type} (c : AV → Option α), aBin .rem (.int .i64 pk.which) (.int .i64 (sent.length : Int)) c = c (.int .i64 (j : Int)) := fun c => by rw [rem_i (by omega) (by omega), hjp]
        have hfj := h1.of sent[j] (List.getElem_mem hj)
        have hpi := h1.p i hi
        have hd := rows_one h1.nd hi
        obtain ⟨t, b1, b2⟩ := come_run hpi.x h1.lt (oc_if hfj.1 hfj.2) (k + 3) (by omega) (by omega)
        obtain ⟨v', x2, y2, z2⟩ := b2.ex
        have lLi := fun {α : Type} (c : AV → Option α) => h1.ldL hi c
        have ix := fun {α : Type} (c : AV → Option α) => idxL (es := 16) (l := sent) (id := id) (ep := sent.length * 16) (k := .i64) hj c
        have lo := fun {α : Type} (c : AV → Option α) => loadL (c := oc 1) (es := 16) (oc_len 1) q4 j hj c
        have g20 : (wvals ps.length w)[3]? = some (.sl id 0 sent.length 16 (sent.length * 16)) := by rw [← q3]; rfl
        simp only [l2 g2 (j := 0) rfl, l2 g2 g20, l3 (j := 2) rfl, l3 (j := 1) rfl, hrem, hip, idx1 hi, lLi, ix, lo, b1, bnd, guard_tt, guard_ff, guard_tf, guard_ft, pick_t, pick_f, if_t, if_f, add_i, sub_i, lss_i, leq_i, gtr_i, geq_i, eql_i, neq_i, min_i, max_i, conv_i, len_sl, len_nil, not_b, cells_agg, new_s, fld_p, nil_p]
        have kp := comeX_keep ps[i].2.x sent[j].1.toIF
        obtain ⟨q, hq⟩ : ∃ q : PP, q = ({ ps[i].1 with v := v' }, { ps[i].2 with x := (comeX ps[i].2.x sent[j].1.toIF).1 }) := ⟨_, rfl⟩
        have hqr : rowsOf q = rowsOf ps[i] := by rw [hq]; simp only [rowsOf, y2, z2]
        have hS : ∀ y ∈ [ps[i].1.v.x, ps[i].1.v.fr], y ∈ rowsOf ps[i] := fun y hy => by
          simp only [rowsOf, List.mem_cons, List.not_mem_nil, or_false] at hy ⊢
          rcases hy with q | q
          · exact .inl q
          · exact .inr (.inl q)
        have hSr : ∀ y ∈ [ps[i].1.v.x, ps[i].1.v.fr], y ∈ rowsW w ps := fun y hy => rows_mem hi (hS y hy)
        have hpq : IsP t (sb.next :: M) ps.length i q := by
          have hh : ps[i].1.h ∉ [ps[i].1.v.x, ps[i].1.v.fr] := fun q => (hpi.hm hd h1.n1.2).hx _ _ _ _ _ rfl q
          rw [hq]
          exact ⟨x2, kp.1.trans hpi.xn, kp.2.1.trans hpi.me, kp.2.2.trans hpi.num, (b2.fr.get _ hpi.hlt hh).trans hpi.h, Nat.lt_of_lt_of_le hpi.hlt b2.fr.next, hpi.hM, hpi.hl, hpi.mi.frS b2.fr fun y hy => h1.sub y (hSr y hy)⟩
        have ht := h1.upd hi hqr (by rw [hq]) b2.fr hS hpq
        have g2t : t.get s.next = .cells (wvals ps.length w) false := (b2.fr.get _ (by omega) (fun z => by have := h.lt _ (h.sub _ (hSr _ z)); omega)).trans g2
        have g4t : t.get sb.next = .cells [AV.nilsl, AV.nilsl, AV.nilsl, AV.nilsl] false := (b2.fr.get _ (by omega) (fun z => x4r (hSr _ z))).trans gc
        simp only [ld_all g2t (wv_len _ _)]
        refine fin (WAct.of ht b2.fr hSr (rows_set hi hqr)) g4t hl4 ?_ (by rw [List.length_set]) (by omega)
        have := PStep.come (ps.map (·.2)) (sent.map (·.1)) i hi2 sent[j].1 (List.mem_map.2 ⟨sent[j], List.getElem_mem hj, rfl⟩)
        rw [hgm i hi] at this
        rw [set_map (r := { ps[i].2 with x := (comeX ps[i].2.x sent[j].1.toIF).1 }) hi (by rw [hq])]
        exact this
end Go.Proofs.Ytmaidlndikcgkaa.Sim
