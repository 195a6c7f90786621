/- Layer 13: the document's Put: a part is added. No condition. -/
import Derived.Test.YtmkdpenpfkmfpaaDoorB13Ph
namespace Go.Proofs.YtmkdpenpfkmfpaaDoor.Sim
set_option linter.unusedSimpArgs false
set_option linter.unusedVariables false
variable {s s' : Store}

theorem under_1 (x : Nat) (s : Store) (F : Store → Option (AV × Store)) : underL [x] s F = (F (hideL [x] s)).map fun q => (q.1, backL [x] s q.2) := rfl
theorem hide_get {x l : Nat} (h : l ≠ x) (s : Store) : (hideL [x] s).get l = s.get l := by
  show (if l ∈ [x] then AObj.none else s.get l) = _
  rw [if_neg (by simp; exact h)]
theorem add_run {t : Store} {x2 x3 x4 x8 : Nat} {lv : AV} {a : AG} {L : List PE} {e : PE} (hm : t.get x2 = .cells (mcells a lv) false) (h8 : t.get x8 = .cells (pcl e) false) (hrg : RG t lv a L) (hL : L.length ≤ 900000) (hx2 : x2 < t.next) (hx8 : x8 < t.next) (fu : Nat) :
    ∃ lv' t', unisonref13_G_Put.p16 fu (.ptr x2 0 12) (.ptr x3 0 16) (.ptr x4 0 12) (.int .i64 (L.length : Nat)) (.ptr x8 0 5) t = unisonref13_G_Put.p15 fu (.ptr x2 0 12) (.ptr x3 0 16) (.ptr x4 0 12) (.int .i64 (L.length : Nat)) t' ∧
      t'.get x2 = .cells (mcells { a with L := a.L ++ [e.q] } lv') false ∧ IsL pcl 5 t' lv' (L ++ [e]) ∧ (∀ y b c d g, lv' = .sl y b c d g → t.next ≤ y) ∧ FrS [x2] t t' := by
  unfold unisonref13_G_Put.p16
  have hcn := hrg.cnt
  simp only [build_0, atRow, Option.map_some, bnd, Nat.add_zero]
  obtain ⟨u1, hu1⟩ : ∃ u : Store, u = ⟨(reserve 9 t).next, ((⟨t.next, (reserve 9 t).get⟩ : Store).push (.cells [] false)).get⟩ := ⟨_, rfl⟩
  have n1 : u1.next = t.next + 9 := by rw [hu1]; rfl
  have c1 : ∀ l, u1.get l = if l = t.next then .cells [] false else if l < t.next then t.get l else .none := fun l => by rw [hu1]; rfl
  have E1 : Ext t u1 := ⟨by omega, fun l hl => by rw [c1, if_neg (by omega), if_pos hl]⟩
  have g1 : u1.get t.next = .cells [] false := by rw [c1, if_pos rfl]
  rw [← hu1]
  clear hu1
  have hm1 : (hideL [t.next] u1).get x2 = .cells (mcells a lv) false := by rw [hide_get (by omega)]; exact (E1.get _ hx2).trans hm
  have ldl := fun {α : Type} (f : AV → Option α) => m_fld hm1 hcn (j := 3) (v := lv) rfl f
  have h81 : (hideL [t.next] u1).get x8 = .cells (pcl e) false := by rw [hide_get (by omega)]; exact (E1.get _ hx8).trans h8
  have ld8 := fun {α : Type} (f : AV → Option α) => p5_all h81 f
  simp only [under_1, fld_p, Option.map_some, back_hide, bnd, ldl]
  obtain ⟨u2, a1, a2, a3, a4⟩ := app_cells (bytes := 72) (es := 5) (n := 0) (xs := []) g1 rfl (fun f => cellsOfL pcl_len (hrg.l.ext E1) f) (flatL_len pcl_len L) (by decide) (by omega) (by decide)
  rw [Nat.zero_mul, Nat.zero_add] at a1
  rw [List.nil_append] at a2
  have k2 : ∀ l, l < t.next → u2.get l = t.get l := fun l hl => (a3.get l (by omega) (by omega)).trans (E1.get l hl)
  have h82 : (hideL [t.next] u2).get x8 = .cells (pcl e) false := by rw [hide_get (by omega)]; exact (k2 _ hx8).trans h8
  have ld82 := fun {α : Type} (f : AV → Option α) => p5_all h82 f
  have hbl : ∀ {α : Type} (f : List AV → Option α), aBuild [(0, 5, .agg (pcl e))] [AV.int .u8 0, AV.int .u64 0, AV.int .i64 0, AV.nilsl, AV.nilsl] f = f (pcl e) := fun f => rfl
  simp only [a1, bnd, ld82, Option.map_some, back_hide, ld8, aSame_self, hbl]
  obtain ⟨u3, hu3⟩ : ∃ u : Store, u = ⟨u2.next, ((⟨t.next + 5, u2.get⟩ : Store).push (.cells (pcl e) false)).get⟩ := ⟨_, rfl⟩
  have n3 : u3.next = t.next + 9 := by rw [hu3]; show u2.next = _; omega
  have c3 : ∀ l, u3.get l = if l = t.next + 5 then .cells (pcl e) false else u2.get l := fun l => by rw [hu3]; rfl
  rw [← hu3]
  clear hu3
  have r3 : u3.get t.next = .cells (L.map pcl).flatten false := by rw [c3, if_neg (by omega)]; exact a2
  have hco : ∀ {α : Type} (f : Nat → List AV → Option α), aCellsOf 5 (.sl (t.next + 5) 0 1 5 5) u3 f = f 1 (pcl e) := fun f => by
    have hg : u3.get (t.next + 5) = .cells (pcl e) false := by rw [c3, if_pos rfl]
    simp only [aCellsOf, aRow, hg, pcl_len, if_true]
    rfl
  obtain ⟨u4, b1, b2, b3, b4⟩ := app_cells (bytes := 72) (es := 5) (n := L.length) r3 (flatL_len pcl_len L) hco rfl (by decide) (by omega) (by decide)
  have hm4 : u4.get x2 = .cells (mcells a lv) false := by rw [b3.get x2 (by omega) (by omega), c3, if_neg (by omega), k2 _ hx2]; exact hm
  have hst := fun {α : Type} (f : Store → Option α) => g_st (ep := 12) (j := 0 + 3) (v := .sl t.next 0 (L.length + 1) 5 ((L.length + 1) * 5)) hm4 (mcells_len hcn) (by decide) rfl f
  have hset : (mcells a lv).set (0 + 3) (.sl t.next 0 (L.length + 1) 5 ((L.length + 1) * 5)) = mcells { a with L := a.L ++ [e.q] } (.sl t.next 0 (L.length + 1) 5 ((L.length + 1) * 5)) := rfl
  simp only [b1, bnd, hst, hset]
  refine ⟨_, _, rfl, by rw [get_set, if_pos rfl], .inr ⟨t.next, false, by simp, by show t.next < u4.next; omega, ?_⟩, fun y b c d g q => by injection q with q; omega, ⟨by show t.next ≤ u4.next; omega, fun l hl hn => ?_⟩⟩
  · rw [get_set, if_neg (by omega), b2]
    simp
  · have hn' : l ≠ x2 := fun q => hn (by simp [q])
    rw [get_set, if_neg hn', b3.get l (by omega) (by omega), c3, if_neg (by omega), k2 l hl]

/-- A thing more in a row of one's own, of which nobody else knows. -/
def OwnR (s : Store) (v : AV) (xs : List AV) (S : List Nat) : Prop := (v = .nilsl ∧ xs = [] ∧ S = []) ∨ ∃ id, v = .sl id 0 xs.length 1 xs.length ∧ id < s.next ∧ s.get id = .cells xs false ∧ S = [id]
theorem OwnR.frS {v : AV} {xs : List AV} {S B : List Nat} (h : OwnR s v xs S) (e : FrS B s s') (hb : ∀ x ∈ S, x ∉ B) : OwnR s' v xs S := by
  rcases h with h | ⟨id, h1, h2, h3, rfl⟩
  · exact .inl h
  · exact .inr ⟨id, h1, Nat.lt_of_lt_of_le h2 e.next, (e.get id h2 (hb id (by simp))).trans h3, rfl⟩
theorem OwnR.app {v : AV} {xs : List AV} {S : List Nat} {bytes : Nat} (h : OwnR s v xs S) (w : AV) (hb : (xs.length + 1) * bytes ≤ 140737488355328) (hb0 : 0 < bytes) :
    ∃ v' s' id, (∀ {α : Type} (f : AV → Store → Option α), aAppend 1 bytes v (.sl s.next 0 1 1 1) (s.push (.cells [w] false)) f = f v' s') ∧ OwnR s' v' (xs ++ [w]) [id] ∧ FrS S s s' ∧ (S = [id] ∨ s.next ≤ id) ∧ v'.one = true := by
  have hc : ∀ {α : Type} (f : Nat → List AV → Option α), aCellsOf 1 (.sl s.next 0 1 1 1) (s.push (.cells [w] false)) f = f 1 [w] := fun f => by
    simp only [aCellsOf, aRow, get_push, if_true, List.length_cons, List.length_nil]
    rfl
  rcases h with ⟨rfl, rfl, rfl⟩ | ⟨id, rfl, h2, h3, rfl⟩
  · refine ⟨.sl (s.next + 1) 0 1 1 (1 * 1), (s.push (.cells [w] false)).push (.cells [w] false), s.next + 1, fun f => ?_, .inr ⟨s.next + 1, rfl, Nat.lt_succ_self _, by rw [get_push, if_pos (show s.next + 1 = (s.push (.cells [w] false)).next from rfl)]; rfl, rfl⟩, ⟨by simp only [next_push]; omega, fun l hl _ => by rw [get_push, if_neg (by simp only [next_push]; omega), get_push, if_neg (by omega)]⟩, .inr (Nat.le_succ _), rfl⟩
    simp only [aAppend, hc]
    rw [if_neg (by decide), if_pos ⟨by simpa using hb, hb0⟩]
    rfl
  · have hg : (s.push (.cells [w] false)).get id = .cells xs false := by rw [get_push, if_neg (by omega)]; exact h3
    refine ⟨.sl id 0 (xs.length + 1) 1 (xs.length + 1 * 1), (s.push (.cells [w] false)).set id (.cells (xs ++ [w]) false), id, fun f => ?_, .inr ⟨id, by simp, by simp only [next_set, next_push]; omega, by rw [get_set, if_pos rfl], rfl⟩, ⟨by simp only [next_set, next_push]; omega, fun l hl hn => by rw [get_set, if_neg (by simpa using hn), get_push, if_neg (by omega)]⟩, .inl rfl, rfl⟩
    simp only [aAppend, hc, aOwn, hg, if_true]
    rw [if_neg (by decide), if_pos ⟨by omega, hb, by decide, hb0⟩]

theorem new_loop {t0 : Store} {x2 x3 x4 x8 : Nat} {f : Frm} {q : AP} {n : Nat} (hof : f.of = (n : Int)) (hn : n ≤ 1048576) (fu : Nat) : ∀ (m i : Nat) (s : Store) (hv cv : AV) (S1 S2 : List Nat), i ≤ n → n - i < m → s.get x3 = .cells f.cells false → x3 < x8 → x8 < s.next → s.get x8 = .cells (pcl ⟨q, hv, cv⟩) false →
    OwnR s hv (List.replicate i (.bool false)) S1 → OwnR s cv (List.replicate i (.str ⟨#[]⟩)) S2 → (∀ x ∈ S1, x8 < x ∧ x ∉ S2) → (∀ x ∈ S2, x8 < x) →
    ∃ hv' cv' s', unisonref13_G_Put.l1 fu m (.ptr x2 0 12) (.ptr x3 0 16) (.ptr x4 0 12) (.ptr x8 0 5) (.int .i64 (i : Int)) s = unisonref13_G_Put.p17 fu (.ptr x2 0 12) (.ptr x3 0 16) (.ptr x4 0 12) (.ptr x8 0 5) s' ∧ s'.get x8 = .cells (pcl ⟨q, hv', cv'⟩) false ∧ IsL bc 1 s' hv' (List.replicate n false) ∧ IsL sc 1 s' cv' (List.replicate n []) ∧ (∀ y b c d g, hv' = .sl y b c d g → x8 < y) ∧ (∀ y b c d g, cv' = .sl y b c d g → x8 < y) ∧ s.next ≤ s'.next ∧ ∀ l, l < x8 → s'.get l = s.get l
  | 0, i, s, hv, cv, S1, S2, _, hm, _, _, _, _, _, _, _, _ => by omega
  | m + 1, i, s, hv, cv, S1, S2, hi, hm, hf, hx38, hx8, h8, ho1, ho2, hd1, hd2 => by
    have hs' : unisonref13_G_Put.l1 fu (m + 1) = fun x2 x3 x4 x8 x9 s => unisonref13_G_Put.p20 fu (unisonref13_G_Put.l1 fu m) x2 x3 x4 x8 x9 s := rfl
    rw [hs']
    clear hs'
    simp only
    unfold unisonref13_G_Put.p20
    have lf : ∀ {α : Type} (c : AV → Option α), aLoad1 (.ptr x3 (0 + 7) 16) s c = c (.int .u32 f.of) := fun c => g_ld hf rfl rfl c
    have hw7 : IntKind.i64.wrap f.of = (n : Int) := by rw [hof, w_i64 (by omega) (by omega)]
    by_cases hlt : i < n
    · unfold unisonref13_G_Put.p19 unisonref13_G_Put.p18
      have l3 : ∀ {α : Type} (c : AV → Option α), aLoad1 (.ptr x8 (0 + 3) 5) s c = c hv := fun c => g_ld h8 rfl rfl c
      have hb1 : ∀ {α : Type} (c : List AV → Option α), aBuild [(0, 1, AV.bool false)] [AV.bool false] c = c [.bool false] := fun c => rfl
      obtain ⟨hv1, s1, id1, a1, a2, a3, a4, a5⟩ := ho1.app (bytes := 1) (.bool false) (by rw [List.length_replicate]; omega) (by decide)
      have n81 : x8 ∉ S1 := fun q => by have := (hd1 x8 q).1; omega
      have g81 := (a3.get x8 hx8 n81).trans h8
      have hst1 : ∀ {α : Type} (c : Store → Option α), aStore 1 (.ptr x8 (0 + 3) 5) hv1 s1 c = c (s1.set x8 (.cells (pcl ⟨q, hv1, cv⟩) false)) := fun {α} c => g_st (ep := 5) (j := 0 + 3) (v := hv1) g81 rfl (by decide) a5 c
      have hf2 : FrS (x8 :: S1) s (s1.set x8 (.cells (pcl ⟨q, hv1, cv⟩) false)) := ⟨a3.next, fun l hl hn => by
        simp only [List.mem_cons, not_or] at hn
        rw [get_set, if_neg hn.1]; exact a3.get l hl hn.2⟩
      have g82 : (s1.set x8 (.cells (pcl ⟨q, hv1, cv⟩) false)).get x8 = .cells (pcl ⟨q, hv1, cv⟩) false := by rw [get_set, if_pos rfl]
      have hi1 : x8 < id1 := by
        rcases a4 with e | e
        · exact (hd1 id1 (by rw [e]; simp)).1
        · omega
      have ho12 : OwnR (s1.set x8 (.cells (pcl ⟨q, hv1, cv⟩) false)) hv1 (List.replicate i (.bool false) ++ [.bool false]) [id1] := a2.frS (B := [x8]) ((Fr1.set _ _ _).frS (by simp)) fun x hx => by
        rw [List.mem_singleton.1 hx]; simp; omega
      have ho22 := ho2.frS hf2 fun x hx hx2 => by
        rcases List.mem_cons.1 hx2 with e | e
        · have := hd2 x hx; omega
        · exact (hd1 x e).2 hx
      have n2 : (s1.set x8 (.cells (pcl ⟨q, hv1, cv⟩) false)).next = s1.next := rfl
      generalize (s1.set x8 (.cells (pcl ⟨q, hv1, cv⟩) false)) = s2 at hf2 g82 ho12 ho22 n2 hst1
      have l4 : ∀ {α : Type} (c : AV → Option α), aLoad1 (.ptr x8 (0 + 4) 5) s2 c = c cv := fun c => g_ld g82 rfl rfl c
      have hb2 : ∀ {α : Type} (c : List AV → Option α), aBuild [(0, 1, AV.str ⟨#[]⟩)] [AV.str ⟨#[]⟩] c = c [.str ⟨#[]⟩] := fun c => rfl
      obtain ⟨cv1, s3, id2, b1, b2, b3, b4, b5⟩ := ho22.app (bytes := 16) (.str ⟨#[]⟩) (by rw [List.length_replicate]; omega) (by decide)
      have hx82 : x8 < s2.next := Nat.lt_of_lt_of_le hx8 hf2.next
      have n82 : x8 ∉ S2 := fun q => by have := hd2 x8 q; omega
      have g83 := (b3.get x8 hx82 n82).trans g82
      have hst2 : ∀ {α : Type} (c : Store → Option α), aStore 1 (.ptr x8 (0 + 4) 5) cv1 s3 c = c (s3.set x8 (.cells (pcl ⟨q, hv1, cv1⟩) false)) := fun {α} c => g_st (ep := 5) (j := 0 + 4) (v := cv1) g83 rfl (by decide) b5 c
      have hid1 : id1 < s2.next := by
        rcases ho12 with ⟨_, _, q⟩ | ⟨z, _, q2, _, q⟩
        · cases q
        · injection q with q; omega
      have hid1S : id1 ∉ S2 := by
        intro hq
        rcases a4 with e | e
        · exact (hd1 id1 (by rw [e]; simp)).2 hq
        · rcases ho2 with ⟨_, _, q⟩ | ⟨z, _, q2, _, q⟩
          · rw [q] at hq; cases hq
          · rw [q] at hq
            rw [List.mem_singleton.1 hq] at e
            omega
      have hi2 : x8 < id2 := by
        rcases b4 with e | e
        · exact hd2 id2 (by rw [e]; simp)
        · omega
      have hne12 : id1 ≠ id2 := by
        rcases b4 with e | e
        · exact fun q => hid1S (by rw [e, q]; simp)
        · omega
      have hf4 : FrS (x8 :: S2) s2 (s3.set x8 (.cells (pcl ⟨q, hv1, cv1⟩) false)) := ⟨b3.next, fun l hl hn => by
        simp only [List.mem_cons, not_or] at hn
        rw [get_set, if_neg hn.1]; exact b3.get l hl hn.2⟩
      have ho14 := ho12.frS hf4 fun x hx hx2 => by
        rw [List.mem_singleton.1 hx] at hx2
        rcases List.mem_cons.1 hx2 with e | e
        · omega
        · exact hid1S e
      have ho24 : OwnR (s3.set x8 (.cells (pcl ⟨q, hv1, cv1⟩) false)) cv1 (List.replicate i (.str ⟨#[]⟩) ++ [.str ⟨#[]⟩]) [id2] := b2.frS (B := [x8]) ((Fr1.set _ _ _).frS (by simp)) fun x hx => by
        rw [List.mem_singleton.1 hx]; simp; omega
      have hw : IntKind.i64.wrap ((i : Int) + 1) = ((i + 1 : Nat) : Int) := by rw [w_i64 (by omega) (by omega)]; omega
      have rep1 : ∀ (y : AV), List.replicate i y ++ [y] = List.replicate (i + 1) y := fun y => by rw [List.replicate_succ']
      rw [rep1] at ho14 ho24
      have hx3S : ∀ l, l < x8 → (s3.set x8 (.cells (pcl ⟨q, hv1, cv1⟩) false)).get l = s.get l := fun l hl => by
        rw [hf4.get l (by omega) (fun q => by
          rcases List.mem_cons.1 q with e | e
          · omega
          · have := hd2 l e; omega), hf2.get l (by omega) (fun q => by
          rcases List.mem_cons.1 q with e | e
          · omega
          · have := (hd1 l e).1; omega)]
      obtain ⟨hv', cv', s', k1, k2, k3, k4, k5, k6, k7, k8⟩ := new_loop (t0 := t0) (x2 := x2) (x4 := x4) (q := q) hof hn fu m (i + 1) _ hv1 cv1 [id1] [id2] (by omega) (by omega) ((hx3S x3 hx38).trans hf) hx38 (Nat.lt_of_lt_of_le hx82 hf4.next) (by rw [get_set, if_pos rfl]) ho14 ho24 (fun x hx => by
        rw [List.mem_singleton.1 hx]
        exact ⟨hi1, by simp; exact hne12⟩) (fun x hx => by rw [List.mem_singleton.1 hx]; exact hi2)
      simp only [bnd, guard_tt, guard_ff, guard_tf, guard_ft, pick_t, pick_f, if_t, if_f, add_i, sub_i, lss_i, leq_i, gtr_i, geq_i, eql_i, neq_i, min_i, max_i, conv_i, len_sl, len_nil, not_b, cells_agg, new_s, fld_p, nil_p, lf, hw7, decide_eq_true (show (i : Int) < (n : Int) by omega), l3, hb1, a1, hst1, l4, hb2, b1, hst2, hw]
      exact ⟨hv', cv', s', k1, k2, k3, k4, k5, k6, Nat.le_trans hf2.next (Nat.le_trans hf4.next k7), fun l hl => (k8 l hl).trans (hx3S l hl)⟩
    · have hin : i = n := by omega
      subst hin
      simp only [bnd, guard_tt, guard_ff, guard_tf, guard_ft, pick_t, pick_f, if_t, if_f, add_i, sub_i, lss_i, leq_i, gtr_i, geq_i, eql_i, neq_i, min_i, max_i, conv_i, len_sl, len_nil, not_b, cells_agg, new_s, fld_p, nil_p, lf, hw7, decide_eq_false (show ¬ (i : Int) < (i : Int) by omega)]
      refine ⟨hv, cv, s, rfl, h8, ?_, ?_, fun y b c d g e => ?_, fun y b c d g e => ?_, Nat.le_refl _, fun l _ => rfl⟩
      · rcases ho1 with ⟨q1, q2, _⟩ | ⟨id, q1, q2, q3, _⟩
        · have : i = 0 := by simpa using congrArg List.length q2
          subst this
          exact .inl ⟨q1, rfl⟩
        · refine .inr ⟨id, false, by simpa using q1, q2, ?_⟩
          rw [q3, flat_bc, List.map_replicate]
      · rcases ho2 with ⟨q1, q2, _⟩ | ⟨id, q1, q2, q3, _⟩
        · have : i = 0 := by simpa using congrArg List.length q2
          subst this
          exact .inl ⟨q1, rfl⟩
        · refine .inr ⟨id, false, by simpa using q1, q2, ?_⟩
          rw [q3, flat_sc, List.map_replicate]
          rfl
      · rcases ho1 with ⟨q1, _⟩ | ⟨id, q1, _, _, q4⟩
        · rw [q1] at e; cases e
        · rw [q1] at e
          injection e with e
          exact (hd1 y (by rw [q4, ← e]; simp)).1
      · rcases ho2 with ⟨q1, _⟩ | ⟨id, q1, _, _, q4⟩
        · rw [q1] at e; cases e
        · rw [q1] at e
          injection e with e
          exact hd2 y (by rw [q4, ← e]; simp)
end Go.Proofs.YtmkdpenpfkmfpaaDoor.Sim
