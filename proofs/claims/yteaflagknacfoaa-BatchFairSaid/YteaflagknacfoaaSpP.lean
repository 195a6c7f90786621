/- Seat 05: the law BatchOrders, its run. No condition. -/
import Derived.Test.YteaflagknacfoaaSpO
namespace Go.Proofs.Yteaflagknacfoaa.Sim
set_option linter.unusedSimpArgs false
set_option linter.unusedVariables false

/-- Ids, one behind the other: each is the next one of its sender. -/
def procR : List Int → List Idn → Option (List Int)
  | b, [] => some b
  | b, x :: xs => if x.1 < b.length ∧ x.2 = b.getD x.1.toNat 0 + 1 then procR (b.set x.1.toNat x.2) xs else none
theorem procR_app : ∀ (xs ys : List Idn) (b : List Int), procR b (xs ++ ys) = (procR b xs).bind fun b' => procR b' ys
  | [], ys, b => rfl
  | x :: xs, ys, b => by
    simp only [List.cons_append, procR]
    split
    · exact procR_app xs ys _
    · rfl
/-- Senders that rise. -/
def inc : Int → List Rn → Prop
  | _, [] => True
  | last, r :: l => last < r.1 ∧ inc r.1 l
theorem inc_mem : ∀ {l : List Rn} {last : Int}, inc last l → ∀ r ∈ l, last < r.1
  | a :: l, last, h, r, hr => by
    rcases List.mem_cons.1 hr with rfl | hr
    · exact h.1
    · have := inc_mem h.2 r hr; have := h.1; omega
theorem pass_proc (p : Nat) : ∀ (l : List Rn) (b : List Int) (last : Int), -1 ≤ last → inc last l → (∀ r ∈ l, r.1 < b.length) → (∀ r ∈ l, b.getD r.1.toNat 0 = r.2.1 - 1 + min r.2.2 p) →
    ∃ b', procR b (passR p l) = some b' ∧ (∀ r ∈ l, b'.getD r.1.toNat 0 = r.2.1 - 1 + min r.2.2 ((p + 1 : Nat) : Int)) ∧ (∀ j, (∀ r ∈ l, r.1.toNat ≠ j) → b'.getD j 0 = b.getD j 0) ∧ b'.length = b.length
  | [], b, _, _, _, _, _ => ⟨b, rfl, fun r h => by simp at h, fun _ _ => rfl, rfl⟩
  | r :: l, b, last, hl, hi, hb, hst => by
    have h1 := hst r List.mem_cons_self
    have h2 := hb r List.mem_cons_self
    have h3 := hi.1
    have hne : ∀ x ∈ l, x.1.toNat ≠ r.1.toNat := fun x hx => by have := inc_mem hi.2 x hx; omega
    have hlt : r.1.toNat < b.length := by omega
    unfold passR
    by_cases hc : (p : Int) < r.2.2
    · rw [if_pos hc, procR, if_pos ⟨h2, by simp only; omega⟩]
      obtain ⟨b', k1, k2, k3, k4⟩ := pass_proc p l (b.set r.1.toNat (r.2.1 + p)) r.1 (by omega) hi.2 (fun x hx => by rw [List.length_set]; exact hb x (List.mem_cons_of_mem _ hx)) (fun x hx => by
        rw [← hst x (List.mem_cons_of_mem _ hx)]
        simp only [List.getD_eq_getElem?_getD, List.getElem?_set]
        rw [if_neg (fun q => hne x hx q.symm)])
      refine ⟨b', k1, fun x hx => ?_, fun j hj => ?_, by rw [k4, List.length_set]⟩
      · rcases List.mem_cons.1 hx with rfl | hx
        · rw [k3 _ hne]
          have e : (b.set x.1.toNat (x.2.1 + p)).getD x.1.toNat 0 = x.2.1 + p := by simp [hlt]
          rw [e]; omega
        · exact k2 x hx
      · rw [k3 j fun x hx => hj x (List.mem_cons_of_mem _ hx)]
        simp only [List.getD_eq_getElem?_getD, List.getElem?_set]
        rw [if_neg (hj r List.mem_cons_self)]
    · rw [if_neg hc]
      obtain ⟨b', k1, k2, k3, k4⟩ := pass_proc p l b r.1 (by omega) hi.2 (fun x hx => hb x (List.mem_cons_of_mem _ hx)) (fun x hx => hst x (List.mem_cons_of_mem _ hx))
      refine ⟨b', k1, fun x hx => ?_, fun j hj => k3 j fun x hx => hj x (List.mem_cons_of_mem _ hx), k4⟩
      rcases List.mem_cons.1 hx with rfl | hx
      · rw [k3 _ hne, h1]; omega
      · exact k2 x hx
theorem pre_proc (l : List Rn) (b : List Int) (hi : inc (-1) l) (hb : ∀ r ∈ l, r.1 < b.length) (hst : ∀ r ∈ l, b.getD r.1.toNat 0 = r.2.1 - 1) (hc : ∀ r ∈ l, 0 ≤ r.2.2) : ∀ p : Nat,
    ∃ b', procR b (ordPre p l) = some b' ∧ (∀ r ∈ l, b'.getD r.1.toNat 0 = r.2.1 - 1 + min r.2.2 p) ∧ (∀ j, (∀ r ∈ l, r.1.toNat ≠ j) → b'.getD j 0 = b.getD j 0) ∧ b'.length = b.length
  | 0 => ⟨b, rfl, fun r hr => by rw [hst r hr]; have := hc r hr; omega, fun _ _ => rfl, rfl⟩
  | p + 1 => by
    obtain ⟨b1, k1, k2, k3, k4⟩ := pre_proc l b hi hb hst hc p
    obtain ⟨b2, j1, j2, j3, j4⟩ := pass_proc p l b1 (-1) (by omega) hi (fun r hr => by rw [k4]; exact hb r hr) k2
    refine ⟨b2, ?_, j2, fun j hj => (j3 j hj).trans (k3 j hj), j4.trans k4⟩
    rw [ordPre, procR_app, k1]
    exact j1
theorem mayFrom_inc : ∀ {l : List Rn} {b : List Int} {last : Int}, mayFrom b last l = true → inc last l ∧ (∀ r ∈ l, r.1 < b.length) ∧ (∀ r ∈ l, b.getD r.1.toNat 0 = r.2.1 - 1) ∧ ∀ r ∈ l, runOk r = true
  | [], _, _, _ => ⟨trivial, fun r h => by simp at h, fun r h => by simp at h, fun r h => by simp at h⟩
  | r :: l, b, last, h => by
    unfold mayFrom at h
    simp only [Bool.and_eq_true, Bool.not_eq_true', decide_eq_true_eq, decide_eq_false_iff_not] at h
    obtain ⟨h1, h2, h3, h4, h5⟩ := h
    obtain ⟨k1, k2, k3, k4⟩ := mayFrom_inc h5
    refine ⟨⟨by omega, k1⟩, fun x hx => ?_, fun x hx => ?_, fun x hx => ?_⟩ <;> rcases List.mem_cons.1 hx with rfl | hx
    · omega
    · exact k2 x hx
    · exact h4
    · exact k3 x hx
    · exact h1
    · exact k4 x hx
theorem foldR_get : ∀ (l : List Rn) (b : List Int) (last : Int), -1 ≤ last → inc last l → (∀ r ∈ l, r.1 < b.length) → (∀ r ∈ l, (l.foldl setR b).getD r.1.toNat 0 = lastR r) ∧ ∀ j, (∀ r ∈ l, r.1.toNat ≠ j) → (l.foldl setR b).getD j 0 = b.getD j 0
  | [], _, _, _, _, _ => ⟨fun r h => by simp at h, fun _ _ => rfl⟩
  | r :: l, b, last, hl, hi, hb => by
    have h3 := hi.1
    have h2 := hb r List.mem_cons_self
    obtain ⟨k1, k2⟩ := foldR_get l (setR b r) r.1 (by omega) hi.2 (fun x hx => by rw [setR_len]; exact hb x (List.mem_cons_of_mem _ hx))
    have hne : ∀ x ∈ l, x.1.toNat ≠ r.1.toNat := fun x hx => by have := inc_mem hi.2 x hx; omega
    rw [List.foldl_cons]
    refine ⟨fun x hx => ?_, fun j hj => ?_⟩
    · rcases List.mem_cons.1 hx with rfl | hx
      · rw [k2 _ hne]
        have hlt : x.1.toNat < b.length := by omega
        simp [setR, hlt]
      · exact k1 x hx
    · rw [k2 j fun x hx => hj x (List.mem_cons_of_mem _ hx)]
      unfold setR
      simp only [List.getD_eq_getElem?_getD, List.getElem?_set]
      rw [if_neg (hj r List.mem_cons_self)]
theorem ext_getD {a b : List Int} (hl : a.length = b.length) (h : ∀ j, a.getD j 0 = b.getD j 0) : a = b := by
  apply List.ext_getElem hl
  intro i h1 h2
  have := h i
  simpa [h1, h2] using this

/-- The ids of a batch lead from its base to the base behind it. -/
theorem orders_pure {base : List Int} {l : List Rn} (hw : ∀ r ∈ l, WfR r) (hm : mayR base 4096 l = true) : procR base (orderR l) = some (afterR base l) := by
  have hmf := mayR_from hm
  obtain ⟨h1, h2, h3, h4⟩ := mayFrom_inc hmf
  have hc : ¬ 4096 < countR 0 l := by
    unfold mayR at hm
    split at hm
    · cases hm
    · rename_i h; omega
  have hany : ¬ l.any (fun r => !runOk r) = true := by
    intro q
    obtain ⟨r, hr, hq⟩ := List.any_eq_true.1 q
    simp [h4 r hr] at hq
  have ho : orderR l = ordPre 4096 l := by unfold orderR; rw [if_neg (fun q => q.elim hany hc)]
  have hsum := countR_sum l 0 h4 (by omega) (by omega)
  obtain ⟨b', k1, k2, k3, k4⟩ := pre_proc l base h1 h2 h3 (fun r hr => (hw r hr).2.2.1) 4096
  have ha : afterR base l = l.foldl setR base := by unfold afterR; rw [if_pos hm]
  obtain ⟨f1, f2⟩ := foldR_get l base (-1) (by omega) h1 h2
  rw [ho, k1, ha]
  refine congrArg some (ext_getD (by rw [k4, foldR_len]) fun j => ?_)
  by_cases hj : ∃ r ∈ l, r.1.toNat = j
  · obtain ⟨r, hr, rfl⟩ := hj
    have hmem := sumAll_mem hr
    have hbn := lastR_bnd (hw r hr) (h4 r hr)
    rw [k2 r hr, f1 r hr]; omega
  · rw [k3 j fun r hr q => hj ⟨r, hr, q⟩, f2 j fun r hr q => hj ⟨r, hr, q⟩]

theorem orders_loop (k : Nat) {x0 x1 v6 : AV} {ids : List Idn} {lo ido : Nat} (hio : ido < lo) (hids : ∀ x ∈ ids, (0 ≤ x.1 ∧ x.1 < 256) ∧ (0 ≤ x.2 ∧ x.2 < 18446744073709551616)) (hb : ids.length ≤ 1000000) : ∀ (n i : Nat) (s : Store) (now fin : List Int), U now → OwnL icells 2 s v6 ids lo → ido < s.next → s.get ido = .cells (now.map (.int .u64)) false → procR now (ids.drop i) = some fin → i ≤ ids.length → ids.length - i < n →
    ∃ s', unisonlaw05_BatchOrders.l0 k n x0 x1 (.sl ido 0 now.length 1 now.length) v6 (.int .i64 i) s = unisonlaw05_BatchOrders.p0 k x0 x1 (.sl ido 0 now.length 1 now.length) s' ∧ s'.get ido = .cells (fin.map (.int .u64)) false ∧ fin.length = now.length ∧ Keep ido s s' ∧ s'.next = s.next
  | 0, i, _, _, _, _, _, _, _, _, hi, hn => by omega
  | n + 1, i, s, now, fin, hu, ho, hid, hg, hp, hi, hn => by
    have hs : unisonlaw05_BatchOrders.l0 k (n + 1) = fun x0 x1 x5 x6 x7 s => unisonlaw05_BatchOrders.p5 k (unisonlaw05_BatchOrders.l0 k n) x0 x1 x5 x6 x7 s := rfl
    rw [hs]
    clear hs
    simp only
    unfold unisonlaw05_BatchOrders.p5
    rw [lenL ho.is, lss_i]
    by_cases h : i < ids.length
    · have hz : (i : Int) < (ids.length : Int) := by omega
      rw [decide_eq_true hz, if_t]
      unfold unisonlaw05_BatchOrders.p4 unisonlaw05_BatchOrders.p3 unisonlaw05_BatchOrders.p2 unisonlaw05_BatchOrders.p1
      have hw1 : IntKind.i64.wrap ((i : Int) + 1) = ((i + 1 : Nat) : Int) := by rw [w_i64 (by omega) (by omega)]; omega
      rw [List.drop_eq_getElem_cons h, procR] at hp
      split at hp
      case isFalse => cases hp
      rename_i hq
      obtain ⟨q1, q2⟩ := hq
      obtain ⟨⟨b1, b2⟩, b3, b4⟩ := hids _ (List.getElem_mem h)
      rcases ho with ⟨rfl, rfl⟩ | ⟨id, hv, hlo, hidn, hgi⟩
      · simp at h
      have f0 : ∀ {α : Type} (f : AV → Option α), aLoad1 (.ptr id (0 + i * 2 + 0) (ids.length * 2)) s f = f (.int .u8 ids[i].1) := fun f => fldL ic_len hgi h rfl f
      have f1 : ∀ {α : Type} (f : AV → Option α), aLoad1 (.ptr id (0 + i * 2 + 1) (ids.length * 2)) s f = f (.int .u64 ids[i].2) := fun f => fldL ic_len hgi h rfl f
      have ix : ∀ {α : Type} (f : AV → Option α), aIndexSl 2 (.sl id 0 ids.length 2 (ids.length * 2)) (.int .i64 (i : Int)) f = f (.ptr id (0 + i * 2) (ids.length * 2)) := fun f => idxL h f
      have hi0 : ids[i].1.toNat < now.length := by omega
      have hix : ∀ {α : Type} (f : AV → Option α), aIndexSl 1 (.sl ido 0 now.length 1 now.length) (.int .u8 ids[i].1) f = f (.ptr ido (0 + ids[i].1.toNat * 1) now.length) := fun f => index_sl b1 (by omega)
      have hge : ¬ ids[i].1 ≥ (now.length : Int) := by omega
      have hun := hu.at ids[i].1.toNat
      have hw2 : IntKind.u64.wrap (now.getD ids[i].1.toNat 0 + 1) = ids[i].2 := by rw [w_u64 (by omega) (by omega)]; omega
      have hne : (ids[i].2 != ids[i].2) = false := by simp
      have hst : ∀ {α : Type} (f : Store → Option α), aStore 1 (.ptr ido (0 + ids[i].1.toNat * 1) now.length) (.int .u64 ids[i].2) s f = f (s.set ido (.cells ((now.set ids[i].1.toNat ids[i].2).map (.int .u64)) false)) := fun f => store_i hg hi0 f
      rw [hv]
      simp only [bnd, guard_tt, guard_ff, guard_tf, guard_ft, pick_t, pick_f, if_t, if_f, add_i, sub_i, lss_i, leq_i, gtr_i, geq_i, eql_i, neq_i, min_i, max_i, conv_i, len_sl, len_nil, not_b, cells_agg, new_s, fld_p, nil_p, ix, f0, f1, w_i64 (show -9223372036854775808 ≤ ids[i].1 by omega) (show ids[i].1 < 9223372036854775808 by omega), decide_eq_false hge, hix, load_i hg hi0, hw2, hne, hst, hw1]
      rw [← hv]
      have ih := orders_loop k (x0 := x0) (x1 := x1) (v6 := v6) (ids := ids) (lo := lo) hio hids hb n (i + 1) (s.set ido (.cells ((now.set ids[i].1.toNat ids[i].2).map (.int .u64)) false)) (now.set ids[i].1.toNat ids[i].2) fin (fun x hx => by
        rcases List.mem_or_eq_of_mem_set hx with hx | hx
        · exact hu x hx
        · subst hx; omega) (.inr ⟨id, hv, hlo, hidn, by rw [get_set, if_neg (by omega)]; exact hgi⟩) hid (by rw [get_set, if_pos rfl]) hp (by omega) (by omega)
      rw [List.length_set] at ih
      obtain ⟨s', k1, k2, k3, k4, k5⟩ := ih
      exact ⟨s', k1, k2, k3, (Keep.set ido s _).trans k4, k5⟩
    · have hz : ¬ (i : Int) < (ids.length : Int) := by omega
      rw [decide_eq_false hz, if_f]
      rw [List.drop_eq_nil_of_le (by omega)] at hp
      obtain rfl := Option.some.inj hp
      exact ⟨s, rfl, hg, rfl, Keep.refl _ _, rfl⟩

theorem passR_wf (p : Nat) (hp : p ≤ 5000) : ∀ {l : List Rn}, (∀ r ∈ l, WfR r) → (∀ r ∈ l, runOk r = true) → ∀ x ∈ passR p l, (0 ≤ x.1 ∧ x.1 < 256) ∧ (0 ≤ x.2 ∧ x.2 < 18446744073709551616)
  | [], _, _, x, hx => by simp [passR] at hx
  | r :: l, hw, hok, x, hx => by
    have h1 := hw r List.mem_cons_self
    have h2 := of_decide_eq_true (hok r List.mem_cons_self)
    have ih := fun x hx => passR_wf p hp (l := l) (fun r hr => hw r (List.mem_cons_of_mem _ hr)) (fun r hr => hok r (List.mem_cons_of_mem _ hr)) x hx
    unfold passR at hx
    split at hx
    · rcases List.mem_cons.1 hx with rfl | hx
      · exact ⟨h1.1, by simp only; omega⟩
      · exact ih x hx
    · exact ih x hx
theorem ordPre_wf {l : List Rn} (hw : ∀ r ∈ l, WfR r) (hok : ∀ r ∈ l, runOk r = true) : ∀ (p : Nat), p ≤ 5000 → ∀ x ∈ ordPre p l, (0 ≤ x.1 ∧ x.1 < 256) ∧ (0 ≤ x.2 ∧ x.2 < 18446744073709551616)
  | 0, _, x, hx => by simp [ordPre] at hx
  | p + 1, hp, x, hx => by
    rcases List.mem_append.1 hx with hx | hx
    · exact ordPre_wf hw hok p (by omega) x hx
    · exact passR_wf p (by omega) hw hok x hx
theorem orderR_wf {l : List Rn} (hw : ∀ r ∈ l, WfR r) : ∀ x ∈ orderR l, (0 ≤ x.1 ∧ x.1 < 256) ∧ (0 ≤ x.2 ∧ x.2 < 18446744073709551616) := by
  unfold orderR
  split
  · intro x hx; simp at hx
  · rename_i h
    have h1 : ¬ l.any (fun r => !runOk r) = true := fun q => h (.inl q)
    have h1' : l.any (fun r => !runOk r) = false := by simpa using h1
    exact ordPre_wf hw (fun r hr => by have := List.any_eq_false.1 h1' r hr; simpa using this) 4096 (by omega)

theorem law_orders {s : Store} {x0 x1 : AV} {base : List Int} {l : List Rn} (h0 : IsSl s x0 .u64 base) (h1 : IsRuns s x1 l) (hu : U base) (hw : ∀ r ∈ l, WfR r) : ∃ s', run Try.prog 10001 4 [x0, x1] s = some (.bool true, s') := by
  rw [show 10001 = 10000 + 1 from rfl, unisonlaw05_BatchOrders.eq]
  unfold unisonlaw05_BatchOrders.f unisonlaw05_BatchOrders.p10 unisonlaw05_BatchOrders.p9
  simp only [len_is h0, bnd, guard_tt, guard_ff, guard_tf, guard_ft, pick_t, pick_f, if_t, if_f, add_i, sub_i, lss_i, leq_i, gtr_i, geq_i, eql_i, neq_i, min_i, max_i, conv_i, len_sl, len_nil, not_b, cells_agg, new_s, fld_p, nil_p]
  by_cases hb : (base.length : Int) > 64
  · obtain ⟨s', k1, _⟩ := awake05 (s := s)
    simp only [decide_eq_true hb, bnd, guard_tt, guard_ff, guard_tf, guard_ft, pick_t, pick_f, if_t, if_f, add_i, sub_i, lss_i, leq_i, gtr_i, geq_i, eql_i, neq_i, min_i, max_i, conv_i, len_sl, len_nil, not_b, cells_agg, new_s, fld_p, nil_p, k1]
    exact ⟨s', rfl⟩
  · simp only [decide_eq_false hb, bnd, guard_tt, guard_ff, guard_tf, guard_ft, pick_t, pick_f, if_t, if_f, add_i, sub_i, lss_i, leq_i, gtr_i, geq_i, eql_i, neq_i, min_i, max_i, conv_i, len_sl, len_nil, not_b, cells_agg, new_s, fld_p, nil_p, len_runs h1]
    by_cases hl : (l.length : Int) > 64
    · obtain ⟨s', k1, _⟩ := awake05 (s := s)
      simp only [decide_eq_true hl, bnd, guard_tt, guard_ff, guard_tf, guard_ft, pick_t, pick_f, if_t, if_f, add_i, sub_i, lss_i, leq_i, gtr_i, geq_i, eql_i, neq_i, min_i, max_i, conv_i, len_sl, len_nil, not_b, cells_agg, new_s, fld_p, nil_p, k1]
      exact ⟨s', rfl⟩
    · simp only [decide_eq_false hl, bnd, guard_tt, guard_ff, guard_tf, guard_ft, pick_t, pick_f, if_t, if_f, add_i, sub_i, lss_i, leq_i, gtr_i, geq_i, eql_i, neq_i, min_i, max_i, conv_i, len_sl, len_nil, not_b, cells_agg, new_s, fld_p, nil_p]
      obtain ⟨s1, k1, e1⟩ := ref_may (most := 4096) h0 h1 hu hw (by omega) 9996 (by omega) (by omega)
      simp only [Nat.reduceAdd] at k1
      simp only [k1, bnd, guard_tt, guard_ff, guard_tf, guard_ft, pick_t, pick_f, if_t, if_f, add_i, sub_i, lss_i, leq_i, gtr_i, geq_i, eql_i, neq_i, min_i, max_i, conv_i, len_sl, len_nil, not_b, cells_agg, new_s, fld_p, nil_p]
      by_cases hm : mayR base 4096 l = true
      · simp only [hm, Bool.not_true, bnd, guard_tt, guard_ff, guard_tf, guard_ft, pick_t, pick_f, if_t, if_f, add_i, sub_i, lss_i, leq_i, gtr_i, geq_i, eql_i, neq_i, min_i, max_i, conv_i, len_sl, len_nil, not_b, cells_agg, new_s, fld_p, nil_p]
        unfold unisonlaw05_BatchOrders.p8
        have e : ∀ f : List AV → Option (AV × Store), aBuild [] [] f = f [] := fun _ => rfl
        obtain ⟨s2, k2, g2, n2, e2⟩ := own_copy (h0.ext e1) (by omega)
        rw [e, k2]
        unfold unisonlaw05_BatchOrders.p7
        have e02 := e1.trans e2
        obtain ⟨v3, s3, k3, o3, e3⟩ := bat_order_own (h1.ext e02) hw 9995 (by omega) (by omega) (by omega)
        simp only [Nat.reduceAdd] at k3
        rw [k3, bnd]
        unfold unisonlaw05_BatchOrders.p6
        have hpr := orders_pure hw hm
        have hol := orderR_len (l := l)
        obtain ⟨s4, k4, g4, l4, kp4, n4⟩ := orders_loop 10000 (x0 := x0) (x1 := x1) (v6 := v3) (ids := orderR l) (lo := s2.next) (ido := s1.next) n2 (orderR_wf hw) (by omega) 10000 0 s3 base (afterR base l) hu o3 (Nat.lt_of_lt_of_le n2 e3.next) ((e3.get _ n2).trans g2) (by rw [List.drop_zero]; exact hpr) (by omega) (by omega)
        rw [Int.natCast_zero] at k4
        simp only
        rw [k4]
        unfold unisonlaw05_BatchOrders.p0
        have e04 : Ext s s4 := ⟨by rw [n4]; exact Nat.le_trans e02.next e3.next, fun j hj => by rw [kp4.get j (Nat.lt_of_lt_of_le hj (Nat.le_trans e02.next e3.next)) (by have := e1.next; omega)]; exact (e02.trans e3).get j hj⟩
        have own4 : IsSl s4 (.sl s1.next 0 base.length 1 base.length) .u64 (afterR base l) := .inr ⟨s1.next, false, by rw [afterR_len], by rw [n4]; exact Nat.lt_of_lt_of_le n2 e3.next, g4⟩
        obtain ⟨v5, s5, k5, r5, e5⟩ := bat_after (h0.ext e04) (h1.ext e04) hu hw 9995 (by omega) (by omega) (by omega)
        have k6 := equal_same (own4.ext e5) r5 9996 (by rw [afterR_len]; omega) (by omega)
        obtain ⟨s7, k7, _⟩ := awake05 (s := s5)
        simp only [Nat.reduceAdd] at k5 k6
        simp only [k5, k6, k7, bnd, guard_tt, guard_ff, guard_tf, guard_ft, pick_t, pick_f, if_t, if_f, add_i, sub_i, lss_i, leq_i, gtr_i, geq_i, eql_i, neq_i, min_i, max_i, conv_i, len_sl, len_nil, not_b, cells_agg, new_s, fld_p, nil_p]
        exact ⟨s7, rfl⟩
      · have hm' : mayR base 4096 l = false := by simpa using hm
        obtain ⟨s', k2, _⟩ := awake05 (s := s1)
        simp only [hm', Bool.not_false, bnd, guard_tt, guard_ff, guard_tf, guard_ft, pick_t, pick_f, if_t, if_f, add_i, sub_i, lss_i, leq_i, gtr_i, geq_i, eql_i, neq_i, min_i, max_i, conv_i, len_sl, len_nil, not_b, cells_agg, new_s, fld_p, nil_p, k2]
        exact ⟨s', rfl⟩

set_option linter.unusedVariables false in
theorem lawBatchOrders (a0 : _) (w0 : (shSlice (shInt .u64)).wf a0) (a1 : _) (w1 : (shSlice (shPair (shInt .u8) (shPair (shInt .u64) (shInt .u64)))).wf a1) : ∃ k s', run Try.prog k 4 ([] ++ ((shSlice (shInt .u64)).put a0 (Store.empty)).1 ++ ((shSlice (shPair (shInt .u8) (shPair (shInt .u64) (shInt .u64)))).put a1 (((shSlice (shInt .u64)).put a0 Store.empty).2)).1) ((shSlice (shPair (shInt .u8) (shPair (shInt .u64) (shInt .u64)))).put a1 ((shSlice (shInt .u64)).put a0 Store.empty).2).2 = some (.bool true, s') := by
  obtain ⟨v0, xs0, p0, h0, u0, _, _⟩ := put_u64 a0 Store.empty w0
  obtain ⟨v3, l, p3, h3, hw, e3⟩ := put_runs a1 ((shSlice (shInt .u64)).put a0 Store.empty).2 w1
  obtain ⟨s', k⟩ := law_orders (h0.ext e3) h3 u0 hw
  rw [p0, p3]
  exact ⟨10001, s', k⟩
end Go.Proofs.Yteaflagknacfoaa.Sim
