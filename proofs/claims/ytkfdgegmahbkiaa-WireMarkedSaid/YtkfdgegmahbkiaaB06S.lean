/- The texts B06I, B06J, B06K, B06L, B06M, B06N, B06O, B06P, B06Q, B06R, B06S, one behind the other. No condition. -/
import Derived.Test.YtkfdgegmahbkiaaB06H
namespace Go.Proofs.Ytkfdgegmahbkiaa.Sim
set_option linter.unusedSimpArgs false
set_option linter.unusedVariables false

/-! ### guards -/
/-- What is worked out only if a guard lets it. -/
def gv (w b : Bool) (v : AV) : AV := bif b == w then v else .tuple []
section
variable {α : Type} {s : Store} {b c e w : Bool} {v x y p : AV}
theorem gn_some : aGuard (.bool b) w (some (v, s)) (some (.tuple [], s)) = some (gv w b v, s) := by cases b <;> cases w <;> rfl
theorem gn_same {z : Option α} : aGuard (.bool b) w z z = z := by cases b <;> cases w <;> rfl
theorem gv_gv : gv w b (gv w b v) = gv w b v := by cases b <;> cases w <;> rfl
theorem gn_v {z : Option (AV × Store)} : aGuard (.bool b) w (some (gv w b v, s)) z = aGuard (.bool b) w (some (v, s)) z := by cases b <;> cases w <;> rfl
theorem gn_fa {off : Nat} {κ : AV → Option α} {z : Option α} : aGuard (.bool b) w (aFieldAddr off (gv w b p) κ) z = aGuard (.bool b) w (aFieldAddr off p κ) z := by cases b <;> cases w <;> rfl
theorem gn_ld {t : Store} {κ : AV → Option α} {z : Option α} : aGuard (.bool b) w (aLoad1 (gv w b p) t κ) z = aGuard (.bool b) w (aLoad1 p t κ) z := by cases b <;> cases w <;> rfl
theorem gn_ldn {n : Nat} {t : Store} {κ : AV → Option α} {z : Option α} : aGuard (.bool b) w (aLoadN n (gv w b p) t κ) z = aGuard (.bool b) w (aLoadN n p t κ) z := by cases b <;> cases w <;> rfl
theorem gn_len {κ : AV → Option α} {z : Option α} : aGuard (.bool b) w (aLen (gv w b p) κ) z = aGuard (.bool b) w (aLen p κ) z := by cases b <;> cases w <;> rfl
theorem gn_b1 {op : BinOp} {κ : AV → Option α} {z : Option α} : aGuard (.bool b) w (aBin op (gv w b x) y κ) z = aGuard (.bool b) w (aBin op x y κ) z := by cases b <;> cases w <;> rfl
theorem gn_b2 {op : BinOp} {κ : AV → Option α} {z : Option α} : aGuard (.bool b) w (aBin op x (gv w b y) κ) z = aGuard (.bool b) w (aBin op x y κ) z := by cases b <;> cases w <;> rfl
theorem gn_un {op : UnOp} {κ : AV → Option α} {z : Option α} : aGuard (.bool b) w (aUn op (gv w b x) κ) z = aGuard (.bool b) w (aUn op x κ) z := by cases b <;> cases w <;> rfl
theorem gn_pk {κ : AV → Option α} {z : Option α} : aGuard (.bool b) w (aPick (gv w b v) x y κ) z = aGuard (.bool b) w (aPick v x y κ) z := by cases b <;> cases w <;> rfl
theorem gn_ct {x z : Option α} : aGuard (gv true b (.bool c)) true x z = aGuard (.bool (b && c)) true x z := by cases b <;> cases c <;> rfl
theorem gn_cf {x z : Option α} : aGuard (gv true b (.bool c)) false x z = aGuard (.bool (!b || c)) false x z := by cases b <;> cases c <;> rfl
theorem gn_dt {x z : Option α} : aGuard (gv false b (.bool c)) true x z = aGuard (.bool (!b && c)) true x z := by cases b <;> cases c <;> rfl
theorem gn_df {x z : Option α} : aGuard (gv false b (.bool c)) false x z = aGuard (.bool (b || c)) false x z := by cases b <;> cases c <;> rfl
theorem pn_and {κ : AV → Option α} : aPick (.bool b) (gv true b (.bool c)) (.bool false) κ = κ (.bool (b && c)) := by cases b <;> cases c <;> rfl
theorem pn_or {κ : AV → Option α} : aPick (.bool b) (.bool true) (gv false b (.bool c)) κ = κ (.bool (b || c)) := by cases b <;> cases c <;> rfl
theorem pn_tt {κ : AV → Option α} {z : Option α} : aGuard (.bool b) true (aPick (.bool c) (gv true (b && c) (.bool e)) (.bool false) κ) z = aGuard (.bool b) true (κ (.bool (c && e))) z := by cases b <;> cases c <;> cases e <;> rfl
theorem pn_tf {κ : AV → Option α} {z : Option α} : aGuard (.bool b) true (aPick (.bool c) (.bool true) (gv false (!b || c) (.bool e)) κ) z = aGuard (.bool b) true (κ (.bool (c || e))) z := by cases b <;> cases c <;> cases e <;> rfl
theorem pn_ft {κ : AV → Option α} {z : Option α} : aGuard (.bool b) false (aPick (.bool c) (gv true (!b && c) (.bool e)) (.bool false) κ) z = aGuard (.bool b) false (κ (.bool (c && e))) z := by cases b <;> cases c <;> cases e <;> rfl
theorem pn_ff {κ : AV → Option α} {z : Option α} : aGuard (.bool b) false (aPick (.bool c) (.bool true) (gv false (b || c) (.bool e)) κ) z = aGuard (.bool b) false (κ (.bool (c || e))) z := by cases b <;> cases c <;> cases e <;> rfl
theorem gn_cl {k n : Nat} {l : List AV} {t : Store} {κ : AV × Store → Option α} {z : Option α} : aGuard (.bool b) w ((rn k n (gv w b x :: l) t).bind κ) z = aGuard (.bool b) w ((rn k n (x :: l) t).bind κ) z := by cases b <;> cases w <;> rfl
theorem if_fin : aIf (AV.bool b) (some (AV.bool false, s)) (some (AV.bool c, s)) = some (AV.bool (!b && c), s) := by cases b <;> cases c <;> rfl
end

/-- Does a byte stand in a text? -/
def inS (h : ByteArray) (c : Int) : Bool := h.data.toList.any fun x => (x.toNat : Int) == c
theorem in_loop (k : Nat) {h : ByteArray} (hb : h.size ≤ 1000) (c : Int) (s : Store) : ∀ (n i : Nat), i ≤ h.size → h.size - i < n → F37.l0 k n (.str h) (.int .u8 c) (.int .i64 (i : Int)) s = some (.bool ((h.data.toList.drop i).any fun x => (x.toNat : Int) == c), s)
  | 0, i, _, hn => by omega
  | n + 1, i, hi, hn => by
    have hs : F37.l0 k (n + 1) = fun x0 x1 x5 s => F37.p3 k (F37.l0 k n) x0 x1 x5 s := rfl
    rw [hs]
    clear hs
    simp only
    unfold F37.p3
    have hl : ∀ {α : Type} (f : AV → Option α), aLenStr (.str h) f = f (.int .i64 h.size) := fun f => rfl
    rw [hl, lss_i]
    by_cases q : i < h.size
    · rw [decide_eq_true (show (i : Int) < (h.size : Int) by omega), if_t]
      unfold F37.p2 F37.p1
      have hi2 : i < h.data.toList.length := q
      have hix : ∀ {α : Type} (f : AV → Option α), aIndexStr (.str h) (.int .i64 (i : Int)) f = f (.int .u8 (h.data.toList[i].toNat : Int)) := fun f => by
        simp only [aIndexStr]
        rw [if_pos (by omega), dif_pos (by rw [Int.toNat_natCast]; exact q)]
        rfl
      rw [hix, eql_i, List.drop_eq_getElem_cons hi2, List.any_cons]
      cases ((h.data.toList[i].toNat : Int) == c) with
      | true => rw [if_t]; rfl
      | false =>
        rw [if_f, add_i, w_i64 (by omega) (by omega), show (i : Int) + 1 = ((i + 1 : Nat) : Int) by omega, in_loop k hb c s n (i + 1) (by omega) (by omega), Bool.false_or]
    · rw [decide_eq_false (show ¬ (i : Int) < (h.size : Int) by omega), if_f, List.drop_eq_nil_of_le (show h.data.toList.length ≤ i by rw [ba_len]; omega)]
      rfl
theorem in_run {h : ByteArray} (hb : h.size ≤ 100) (c : Int) (s : Store) (k : Nat) (hk : 200 ≤ k) : rn (k + 1) 37 [.str h, .int .u8 c] s = some (.bool (inS h c), s) := by
  rw [F37.eq]
  unfold F37.f F37.p5 F37.p4
  have := in_loop k (h := h) (by omega) c s k 0 (by omega) (by omega)
  rw [Int.natCast_zero] at this
  exact this

def absB (x : FI) (h : ByteArray) : Bool :=
  !((((((!inS h 113 && x.seq != 0) || (!inS h 100 && (x.idf != 0 || x.ids != 0))) || (!inS h 97 && x.at_ != 0)) || (!inS h 111 && x.of_ != 0)) || (!inS h 122 && x.size != 0))) &&
  (!((((!inS h 105 && x.inst != 0) || (!inS h 114 && x.round != 0)) || (!inS h 101 && decide ((x.est.length : Int) > 0))) || (!inS h 120 && decide ((x.aux.length : Int) > 0))) &&
  (((inS h 110 || (x.done.length : Int) == 0) && (inS h 104 || (x.held.length : Int) == 0)) && (inS h 98 || (x.data.length : Int) == 0)))
theorem absent_run {s : Store} {x : FI} {c : AVs} {h : ByteArray} (hc : IsFc s c x) (hb : h.size ≤ 100) (k : Nat) (hk : 200 ≤ k) : rn (k + 2) 36 [.agg (fcs x c), .str h] s = some (.bool (absB x h), s.push (.cells (fcs x c) false)) := by
  rw [F36.eq]
  unfold F36.f F36.p0
  rw [cells_agg, new_s, show (fcs x c).length = 16 from rfl]
  have L := FLd.mk' (s := s.push (.cells (fcs x c) false)) (F := s.next) (x := x) (c := c) (ro := false) (by rw [get_push, if_pos rfl]; rfl)
  generalize s.push (.cells (fcs x c) false) = t at *
  simp only [bnd, in_run hb _ _ k hk, not_b, fld_p, Nat.zero_add, Nat.add_zero, gn_some, gn_same, gn_v, gv_gv, gn_fa, gn_ld, gn_ldn, gn_len, gn_b1, gn_b2, gn_un, gn_pk, gn_cl, gn_ct, gn_cf, gn_dt, gn_df, pn_and, pn_or, pn_tt, pn_tf, pn_ft, pn_ff, if_fin, L.l5, L.l3, L.l4, L.l6, L.l7, L.l8, L.l9, L.l10, L.l11, L.l12, L.l13, L.l14, L.l15, neq_i, eql_i, gtr_i, len_runs hc.est, len_runs hc.aux, lenV hc.done, lenV hc.held, lenV hc.data]
  rfl
end Go.Proofs.Ytkfdgegmahbkiaa.Sim
namespace Go.Proofs.Ytkfdgegmahbkiaa.Sim
set_option linter.unusedSimpArgs false
set_option linter.unusedVariables false

theorem kp_lists : ∀ (l : List WOp) (x : FI), (l.foldl (fun st op => kpStep op st) x).est = x.est ∧ (l.foldl (fun st op => kpStep op st) x).aux = x.aux ∧ (l.foldl (fun st op => kpStep op st) x).done = x.done ∧ (l.foldl (fun st op => kpStep op st) x).held = x.held ∧ (l.foldl (fun st op => kpStep op st) x).data.length ≤ x.data.length
  | [], _ => ⟨rfl, rfl, rfl, rfl, Nat.le_refl _⟩
  | o :: l, x => by
    obtain ⟨h1, h2, h3, h4, h5⟩ := kp_lists l (kpStep o x)
    simp only [List.foldl_cons]
    rw [h1, h2, h3, h4]
    have : (kpStep o x).est = x.est ∧ (kpStep o x).aux = x.aux ∧ (kpStep o x).done = x.done ∧ (kpStep o x).held = x.held ∧ (kpStep o x).data.length ≤ x.data.length := by
      cases o <;> simp only [kpStep, setF] <;> repeat' split
      all_goals simp
    exact ⟨this.1, this.2.1, this.2.2.1, this.2.2.2.1, Nat.le_trans h5 this.2.2.2.2⟩
theorem bare_run {s : Store} {x : FI} {c : AVs} (hc : IsFc s c x) (hw : WfF x) (k : Nat) (h1 : 1200 ≤ k) (h2 : k ≤ 79990) : ∃ s', rn (k + 4) 32 [.agg (fcs x c)] s = some (.bool (bareB x), s') ∧ Ext s s' := by
  rw [F32.eq]
  unfold F32.f F32.p5
  rw [cells_agg, new_s, show (fcs x c).length = 16 from rfl]
  unfold F32.p4
  rw [build_0]
  have e1 := Ext.push s (.cells (fcs x c) false)
  obtain ⟨s1, k1, c1, K⟩ := kp_visit (F := s.next) (s0 := s) (s := s.push (.cells (fcs x c) false)) (kd := x.kd) (x := x) k h1 h2 ⟨c, by rw [get_push, if_pos rfl], Nat.lt_succ_self _, rfl, fun e => hc.ext e, (wopsOf_good _).1, e1.fr1 _⟩
  rw [k1, bnd]
  have hkd := K.kd
  obtain ⟨z1, z2, z3, z4, z5⟩ := kp_lists (wopsOf x.kd) x
  have hb : bareB x = (let z := clrF ((wopsOf x.kd).foldl (fun st op => kpStep op st) x)
    decide (z.idf = 0 ∧ z.ids = 0) && (z.seq == 0) && (z.at_ == 0) && (z.of_ == 0) && (z.size == 0) && (z.inst == 0) && (z.round == 0) && ((z.est.length : Int) + z.aux.length + z.done.length + z.held.length + z.data.length == 0)) := rfl
  generalize (wopsOf x.kd).foldl (fun st op => kpStep op st) x = z at *
  have ee : Ext s s1 := ⟨K.fr.next, fun l hl => K.fr.get l hl (by omega)⟩
  have q1 := hw.estL
  have q2 := hw.auxL
  have q3 := hw.doneL
  have q4 := hw.heldL
  have q5 := hw.dataL
  have fin : ∀ (z' : FI) (c' : AVs) (s2 : Store), s2.get s.next = .cells (fcs z' c') false → Ext s s2 → IsFc s2 c' z' → clrF z = z' → z'.est.length ≤ 100 ∧ z'.aux.length ≤ 100 ∧ z'.done.length ≤ 100 ∧ z'.held.length ≤ 100 ∧ z'.data.length ≤ 65536 → ∃ s', F32.p0 (k + 3) (.ptr s.next 0 16) s2 = some (.bool (bareB x), s') ∧ Ext s s' := by
    intro z' c' s2 a1 a2 a3 a4 a5
    rw [bare_end _ a1 a3 a5, hb, a4]
    exact ⟨s2, rfl, a2⟩
  have hrow := K.row
  have hst : ∀ {cs : List AV} {t : Store} (j : Nat), t.get s.next = .cells cs false → cs.length = 16 → j < 16 → ∀ f : Store → Rz, aStore 1 (.ptr s.next j 16) .nilsl t f = f (t.set s.next (.cells (cs.set j .nilsl) false)) := fun j a1 a2 a3 f => st_cell a1 a2 a3 (fun f => rfl) f
  have es : ∀ {t : Store} {o : AObj}, Ext s t → Ext s (t.set s.next o) := fun e => ⟨e.next, fun l hl => by rw [get_set, if_neg (by omega)]; exact e.get l hl⟩
  unfold F32.p3
  have L := FLd.mk' (s := s1) (F := s.next) (x := z) (c := c1) (ro := false) hrow
  simp only [fld_p, Nat.add_zero, L.l0, hkd]
  unfold F32.p2
  have hlen : z.est.length ≤ 100 ∧ z.aux.length ≤ 100 ∧ z.done.length ≤ 100 ∧ z.held.length ≤ 100 ∧ z.data.length ≤ 65536 := ⟨by rw [z1]; exact q1, by rw [z2]; exact q2, by rw [z3]; exact q3, by rw [z4]; exact q4, by omega⟩
  have six : x.kd = 6 ∨ x.kd = 8 → ∃ s', F32.p1 (k + 3) (.ptr s.next 0 16) (.int .u8 x.kd) (.bool true) s1 = some (.bool (bareB x), s') ∧ Ext s s' := by
    intro h
    unfold F32.p1
    rw [if_t, fld_p, Nat.zero_add, hst 11 hrow rfl (by omega)]
    refine fin { z with est := [] } { c1 with e := .nilsl } _ (by rw [get_set, if_pos rfl]; rfl) (es ee) ?_ (by unfold clrF; rw [if_pos (by omega)]) ⟨by simp, hlen.2⟩
    have := K.fc (es (o := .cells ((fcs z c1).set 11 .nilsl) false) ee)
    exact ⟨.inl ⟨rfl, rfl⟩, this.aux, this.done, this.held, this.data⟩
  rw [eql_i]
  by_cases c6 : x.kd = 6
  · rw [show (x.kd == 6) = true from by simpa using c6, if_t]
    exact six (.inl c6)
  rw [show (x.kd == 6) = false from by simpa using c6, if_f, eql_i]
  by_cases c8 : x.kd = 8
  · rw [show (x.kd == 8) = true from by simpa using c8]
    exact six (.inr c8)
  rw [show (x.kd == 8) = false from by simpa using c8]
  unfold F32.p1
  rw [if_f, eql_i]
  by_cases c7 : x.kd = 7
  · rw [show (x.kd == 7) = true from by simpa using c7, if_t, fld_p, Nat.zero_add, hst 11 hrow rfl (by omega)]
    rw [fld_p, Nat.zero_add, hst (cs := (fcs z c1).set 11 .nilsl) 12 (by rw [get_set, if_pos rfl]) rfl (by omega)]
    refine fin { z with est := [], aux := [] } { c1 with e := .nilsl, a := .nilsl } _ (by rw [get_set, if_pos rfl]; rfl) (es (es ee)) ?_ (by unfold clrF; rw [if_neg (by omega), if_pos (by omega)]) ⟨by simp, by simp, hlen.2.2⟩
    have := K.fc (es (o := .cells (((fcs z c1).set 11 .nilsl).set 12 .nilsl) false) (es (o := .cells ((fcs z c1).set 11 .nilsl) false) ee))
    exact ⟨.inl ⟨rfl, rfl⟩, .inl ⟨rfl, rfl⟩, this.done, this.held, this.data⟩
  rw [show (x.kd == 7) = false from by simpa using c7, if_f, eql_i]
  by_cases c9 : x.kd = 9
  · rw [show (x.kd == 9) = true from by simpa using c9, if_t, fld_p, Nat.zero_add, hst 13 hrow rfl (by omega)]
    rw [fld_p, Nat.zero_add, hst (cs := (fcs z c1).set 13 .nilsl) 14 (by rw [get_set, if_pos rfl]) rfl (by omega)]
    refine fin { z with done := [], held := [] } { c1 with d := .nilsl, h := .nilsl } _ (by rw [get_set, if_pos rfl]; rfl) (es (es ee)) ?_ (by unfold clrF; rw [if_neg (by omega), if_neg (by omega), if_pos (by omega)]) ⟨hlen.1, hlen.2.1, by simp, by simp, hlen.2.2.2.2⟩
    have := K.fc (es (o := .cells (((fcs z c1).set 13 .nilsl).set 14 .nilsl) false) (es (o := .cells ((fcs z c1).set 13 .nilsl) false) ee))
    exact ⟨this.est, this.aux, .inl ⟨rfl, rfl⟩, .inl ⟨rfl, rfl⟩, this.data⟩
  rw [show (x.kd == 9) = false from by simpa using c9, if_f]
  exact fin z c1 s1 hrow ee (K.fc ee) (by unfold clrF; rw [if_neg (by omega), if_neg (by omega), if_neg (by omega)]) hlen

/-! ### lists that may stand in a frame -/
def cntsB (l : List Int) : Bool := l.all (fun n => !decide (n > 4611686018427387904)) && decide ((l.length : Int) ≤ 64)
def runsB (l : List Rn) : Bool := decide ((l.length : Int) ≤ 64) && (rowsG none l && decide (countR 0 l ≤ 4096))
theorem rows_run6 {s : Store} {v : AV} {l : List Rn} (hl : IsRuns s v l) (hw : ∀ r ∈ l, WfR r) (hb : l.length ≤ 100) (k : Nat) (hk : 200 ≤ k) (hk2 : k ≤ 100000) : ∃ s', rn (k + 6) 34 [v] s = some (.bool (runsB l), s') ∧ Ext s s' := by
  rw [F34.eq]
  unfold F34.f F34.p0 runsB
  rw [len_runs hl, leq_i]
  cases decide ((l.length : Int) ≤ 64) with
  | false => exact ⟨s, by simp only [bnd, guard_tt, guard_ff, guard_tf, guard_ft, pick_t, pick_f, if_t, if_f, add_i, sub_i, lss_i, leq_i, gtr_i, geq_i, eql_i, neq_i, min_i, max_i, conv_i, len_sl, len_nil, not_b, cells_agg, new_s, fld_p, nil_p, guard_skip, Bool.false_and], Ext.refl s⟩
  | true =>
    obtain ⟨s1, k1, e1⟩ := ident_rows hl hw k (by omega) (by omega) (by omega)
    simp only [bnd, guard_tt, guard_ff, guard_tf, guard_ft, pick_t, pick_f, if_t, if_f, add_i, sub_i, lss_i, leq_i, gtr_i, geq_i, eql_i, neq_i, min_i, max_i, conv_i, len_sl, len_nil, not_b, cells_agg, new_s, fld_p, nil_p, k1, Bool.true_and]
    cases rowsG none l with
    | false => exact ⟨s1, by simp only [bnd, guard_tt, guard_ff, guard_tf, guard_ft, pick_t, pick_f, if_t, if_f, add_i, sub_i, lss_i, leq_i, gtr_i, geq_i, eql_i, neq_i, min_i, max_i, conv_i, len_sl, len_nil, not_b, cells_agg, new_s, fld_p, nil_p, guard_skip, Bool.false_and], e1⟩
    | true =>
      obtain ⟨s2, k2, e2⟩ := ident_count (hl.ext e1) hw (k + 3) (by omega) (by omega)
      exact ⟨s2, by simp only [bnd, guard_tt, guard_ff, guard_tf, guard_ft, pick_t, pick_f, if_t, if_f, add_i, sub_i, lss_i, leq_i, gtr_i, geq_i, eql_i, neq_i, min_i, max_i, conv_i, len_sl, len_nil, not_b, cells_agg, new_s, fld_p, nil_p, k2, Bool.true_and], e1.trans e2⟩
theorem rrows_run6 {s : Store} {v : AV} {l : List Rn} (hl : IsRuns s v l) (hw : ∀ r ∈ l, WfR r) (hb : l.length ≤ 100) (k : Nat) (hk : 200 ≤ k) (hk2 : k ≤ 100000) : ∃ s', rn (k + 6) 39 [v] s = some (.bool (runsB l), s') ∧ Ext s s' := by
  rw [F39.eq]
  unfold F39.f F39.p0 runsB
  rw [len_runs hl, leq_i]
  cases decide ((l.length : Int) ≤ 64) with
  | false => exact ⟨s, by simp only [bnd, guard_tt, guard_ff, guard_tf, guard_ft, pick_t, pick_f, if_t, if_f, add_i, sub_i, lss_i, leq_i, gtr_i, geq_i, eql_i, neq_i, min_i, max_i, conv_i, len_sl, len_nil, not_b, cells_agg, new_s, fld_p, nil_p, guard_skip, Bool.false_and], Ext.refl s⟩
  | true =>
    obtain ⟨s1, k1, e1⟩ := ref_rows hl hw k (by omega) (by omega) (by omega)
    simp only [bnd, guard_tt, guard_ff, guard_tf, guard_ft, pick_t, pick_f, if_t, if_f, add_i, sub_i, lss_i, leq_i, gtr_i, geq_i, eql_i, neq_i, min_i, max_i, conv_i, len_sl, len_nil, not_b, cells_agg, new_s, fld_p, nil_p, k1, Bool.true_and]
    cases rowsG none l with
    | false => exact ⟨s1, by simp only [bnd, guard_tt, guard_ff, guard_tf, guard_ft, pick_t, pick_f, if_t, if_f, add_i, sub_i, lss_i, leq_i, gtr_i, geq_i, eql_i, neq_i, min_i, max_i, conv_i, len_sl, len_nil, not_b, cells_agg, new_s, fld_p, nil_p, guard_skip, Bool.false_and], e1⟩
    | true =>
      obtain ⟨s2, k2, e2⟩ := ref_count (hl.ext e1) hw (k + 3) (by omega) (by omega)
      exact ⟨s2, by simp only [bnd, guard_tt, guard_ff, guard_tf, guard_ft, pick_t, pick_f, if_t, if_f, add_i, sub_i, lss_i, leq_i, gtr_i, geq_i, eql_i, neq_i, min_i, max_i, conv_i, len_sl, len_nil, not_b, cells_agg, new_s, fld_p, nil_p, k2, Bool.true_and], e1.trans e2⟩
theorem cnts_loop (k : Nat) {s : Store} {v : AV} {l : List Int} (hv : IsV s v .u64 l) (hb : l.length ≤ 1000) : ∀ (n i : Nat), i ≤ l.length → l.length - i < n → F35.l0 k n v v (.int .i64 l.length) (.int .i64 (i : Int)) s = some (.bool ((l.drop i).all (fun n => !decide (n > 4611686018427387904)) && decide ((l.length : Int) ≤ 64)), s)
  | 0, i, _, hn => by omega
  | n + 1, i, hi, hn => by
    have hs : F35.l0 k (n + 1) = fun x0 x5 x6 x7 s => F35.p4 k (F35.l0 k n) x0 x5 x6 x7 s := rfl
    rw [hs]
    clear hs
    simp only
    unfold F35.p4 F35.p3
    rw [lss_i]
    by_cases h : i < l.length
    · rw [decide_eq_true (show (i : Int) < (l.length : Int) by omega), if_t]
      unfold F35.p2 F35.p1
      obtain ⟨p, p1, p2⟩ := atV hv (i := (i : Int)) (by omega) (by omega)
      have hd : l.getD ((i : Int)).toNat 0 = l[i] := by simp [h]
      rw [p1, p2, hd, gtr_i, List.drop_eq_getElem_cons h, List.all_cons]
      cases decide (l[i] > 4611686018427387904) with
      | true => rw [if_t]; rfl
      | false => rw [if_f, add_i, w_i64 (by omega) (by omega), show (i : Int) + 1 = ((i + 1 : Nat) : Int) by omega, cnts_loop k hv hb n (i + 1) (by omega) (by omega), Bool.not_false, Bool.true_and]
    · rw [decide_eq_false (show ¬ (i : Int) < (l.length : Int) by omega), if_f, List.drop_eq_nil_of_le (by omega)]
      unfold F35.p0
      rw [lenV hv, leq_i]; rfl
theorem cnts_run {s : Store} {v : AV} {l : List Int} (hv : IsV s v .u64 l) (hb : l.length ≤ 100) (k : Nat) (hk : 200 ≤ k) : rn (k + 1) 35 [v] s = some (.bool (cntsB l), s) := by
  rw [F35.eq]
  unfold F35.f F35.p6 F35.p5
  rw [lenV hv]
  have := cnts_loop k hv (by omega) k 0 (by omega) (by omega)
  rw [Int.natCast_zero] at this
  exact this
theorem rcnts_loop (k : Nat) {s : Store} {v : AV} {l : List Int} (hv : IsV s v .u64 l) (hb : l.length ≤ 1000) : ∀ (n i : Nat), i ≤ l.length → l.length - i < n → F40.l0 k n v (.int .i64 l.length) (.int .i64 (i : Int)) s = some (.bool ((l.drop i).all (fun n => !decide (n > 4611686018427387904)) && decide ((l.length : Int) ≤ 64)), s)
  | 0, i, _, hn => by omega
  | n + 1, i, hi, hn => by
    have hs : F40.l0 k (n + 1) = fun x0 x5 x6 s => F40.p4 k (F40.l0 k n) x0 x5 x6 s := rfl
    rw [hs]
    clear hs
    simp only
    unfold F40.p4 F40.p3
    rw [lss_i]
    by_cases h : i < l.length
    · rw [decide_eq_true (show (i : Int) < (l.length : Int) by omega), if_t]
      unfold F40.p2 F40.p1
      obtain ⟨p, p1, p2⟩ := atV hv (i := (i : Int)) (by omega) (by omega)
      have hd : l.getD ((i : Int)).toNat 0 = l[i] := by simp [h]
      rw [p1, p2, hd, gtr_i, List.drop_eq_getElem_cons h, List.all_cons]
      cases decide (l[i] > 4611686018427387904) with
      | true => rw [if_t]; rfl
      | false => rw [if_f, add_i, w_i64 (by omega) (by omega), show (i : Int) + 1 = ((i + 1 : Nat) : Int) by omega, rcnts_loop k hv hb n (i + 1) (by omega) (by omega), Bool.not_false, Bool.true_and]
    · rw [decide_eq_false (show ¬ (i : Int) < (l.length : Int) by omega), if_f, List.drop_eq_nil_of_le (by omega)]
      unfold F40.p0
      rw [lenV hv, leq_i]; rfl
theorem rcnts_run {s : Store} {v : AV} {l : List Int} (hv : IsV s v .u64 l) (hb : l.length ≤ 100) (k : Nat) (hk : 200 ≤ k) : rn (k + 1) 40 [v] s = some (.bool (cntsB l), s) := by
  rw [F40.eq]
  unfold F40.f F40.p6 F40.p5
  rw [lenV hv]
  have := rcnts_loop k hv (by omega) k 0 (by omega) (by omega)
  rw [Int.natCast_zero] at this
  exact this

def shapedB (x : FI) : Bool :=
  if x.kd = 1 ∨ x.kd = 4 then ((((idOk x.idf x.ids && decide (x.at_ < x.of_)) && decide (x.of_ ≤ 1048576)) && decide (x.size ≤ 1048576)) && decide ((x.data.length : Int) ≤ 65536))
  else if x.kd = 3 then idOk x.idf x.ids && decide (x.at_ < 1048576) else true
theorem shaped_run {s : Store} {x : FI} {c : AVs} (hc : IsFc s c x) (hw : WfF x) (k : Nat) : ∃ s', rn (k + 2) 33 [.agg (fcs x c)] s = some (.bool (shapedB x), s') ∧ Ext s s' := by
  rw [F33.eq]
  unfold F33.f F33.p4
  rw [cells_agg, new_s, show (fcs x c).length = 16 from rfl]
  have hg : (s.push (.cells (fcs x c) false)).get s.next = .cells (fcs x c) false := by rw [get_push, if_pos rfl]
  have e1 := Ext.push s (.cells (fcs x c) false)
  have hlt : s.next < (s.push (.cells (fcs x c) false)).next := Nat.lt_succ_self _
  generalize s.push (.cells (fcs x c) false) = t at *
  have L := FLd.mk' (s := t) (F := s.next) (x := x) (c := c) (ro := false) hg
  have hi := ident_may (s := t) (a := x.idf) (b := x.ids) hw.idf k
  have e2 := Ext.push t (.cells [.int .u8 x.idf, .int .u64 x.ids] false)
  have L2 := FLd.mk' (s := t.push (.cells [.int .u8 x.idf, .int .u64 x.ids] false)) (F := s.next) (x := x) (c := c) (ro := false) ((e2.get _ hlt).trans hg)
  generalize t.push (.cells [.int .u8 x.idf, .int .u64 x.ids] false) = u at *
  unfold F33.p3 F33.p2 F33.p1 F33.p0 shapedB
  by_cases c1 : x.kd = 1
  · refine ⟨u, ?_, e1.trans e2⟩
    simp only [bnd, not_b, fld_p, Nat.zero_add, Nat.add_zero, gn_some, gn_same, gn_v, gv_gv, gn_fa, gn_ld, gn_ldn, gn_len, gn_b1, gn_b2, gn_un, gn_pk, gn_cl, gn_ct, gn_cf, gn_dt, gn_df, pn_and, pn_or, pn_tt, pn_tf, pn_ft, pn_ff, neq_i, eql_i, gtr_i, geq_i, lss_i, leq_i, L.l0, L.l1, L.l2, L.l3, L.l4, L.l5, L.l6, L.l7, L.l8, L.l9, L.l10, L.l11, L.l12, L.l13, L.l14, L.l15, L.n3, L.n16, L2.l0, L2.l1, L2.l2, L2.l3, L2.l4, L2.l5, L2.l6, L2.l7, L2.l8, L2.l9, L2.l10, L2.l11, L2.l12, L2.l13, L2.l14, L2.l15, L2.n3, L2.n16, c1, show ((1 : Int) == 1) = true from rfl, if_t, hi, lenV hc.data, true_or, if_true]
  · by_cases c4 : x.kd = 4
    · refine ⟨u, ?_, e1.trans e2⟩
      simp only [bnd, not_b, fld_p, Nat.zero_add, Nat.add_zero, gn_some, gn_same, gn_v, gv_gv, gn_fa, gn_ld, gn_ldn, gn_len, gn_b1, gn_b2, gn_un, gn_pk, gn_cl, gn_ct, gn_cf, gn_dt, gn_df, pn_and, pn_or, pn_tt, pn_tf, pn_ft, pn_ff, neq_i, eql_i, gtr_i, geq_i, lss_i, leq_i, L.l0, L.l1, L.l2, L.l3, L.l4, L.l5, L.l6, L.l7, L.l8, L.l9, L.l10, L.l11, L.l12, L.l13, L.l14, L.l15, L.n3, L.n16, L2.l0, L2.l1, L2.l2, L2.l3, L2.l4, L2.l5, L2.l6, L2.l7, L2.l8, L2.l9, L2.l10, L2.l11, L2.l12, L2.l13, L2.l14, L2.l15, L2.n3, L2.n16, c4, show ((4 : Int) == 1) = false from rfl, show ((4 : Int) == 4) = true from rfl, if_t, if_f, hi, lenV hc.data, or_true, if_true]
    · by_cases c3 : x.kd = 3
      · refine ⟨u, ?_, e1.trans e2⟩
        simp only [bnd, not_b, fld_p, Nat.zero_add, Nat.add_zero, gn_some, gn_same, gn_v, gv_gv, gn_fa, gn_ld, gn_ldn, gn_len, gn_b1, gn_b2, gn_un, gn_pk, gn_cl, gn_ct, gn_cf, gn_dt, gn_df, pn_and, pn_or, pn_tt, pn_tf, pn_ft, pn_ff, neq_i, eql_i, gtr_i, geq_i, lss_i, leq_i, L.l0, L.l1, L.l2, L.l3, L.l4, L.l5, L.l6, L.l7, L.l8, L.l9, L.l10, L.l11, L.l12, L.l13, L.l14, L.l15, L.n3, L.n16, L2.l0, L2.l1, L2.l2, L2.l3, L2.l4, L2.l5, L2.l6, L2.l7, L2.l8, L2.l9, L2.l10, L2.l11, L2.l12, L2.l13, L2.l14, L2.l15, L2.n3, L2.n16, c3, show ((3 : Int) == 1) = false from rfl, show ((3 : Int) == 4) = false from rfl, show ((3 : Int) == 3) = true from rfl, if_t, if_f, hi]
        simp
      · refine ⟨t, ?_, e1⟩
        simp only [bnd, not_b, fld_p, Nat.zero_add, Nat.add_zero, gn_some, gn_same, gn_v, gv_gv, gn_fa, gn_ld, gn_ldn, gn_len, gn_b1, gn_b2, gn_un, gn_pk, gn_cl, gn_ct, gn_cf, gn_dt, gn_df, pn_and, pn_or, pn_tt, pn_tf, pn_ft, pn_ff, neq_i, eql_i, gtr_i, geq_i, lss_i, leq_i, L.l0, L.l1, L.l2, L.l3, L.l4, L.l5, L.l6, L.l7, L.l8, L.l9, L.l10, L.l11, L.l12, L.l13, L.l14, L.l15, L.n3, L.n16, show (x.kd == 1) = false from by simpa using c1, show (x.kd == 4) = false from by simpa using c4, show (x.kd == 3) = false from by simpa using c3, if_f]
        simp [c1, c4, c3]

/-- May a frame be? -/
def mayC (x : FI) : Bool :=
  !(decide (x.kd < 1) || decide (x.kd > 10)) && (!((decide (x.src ≥ 64) || decide (x.dst ≥ 64)) || (x.src == x.dst)) && (bareB x &&
  (!(decide (x.seq > 4611686018427387904 ∨ x.inst > 4611686018427387904 ∨ x.round > 4611686018427387904)) && (shapedB x && (runsB x.est && (runsB x.aux && (cntsB x.done && (cntsB x.held &&
  ((!(decide (x.kd ≥ 6) && decide (x.kd ≤ 8)) || decide (x.inst > 0)) && (x.kd != 8 || decide ((x.est.length : Int) > 0)))))))))))
theorem max_3 (a b c : Int) {α : Type} (f : AV → Option α) : ∃ m, aMaxL (.int .u64 a) [.int .u64 b, .int .u64 c] f = f (.int .u64 m) ∧ decide (m > 4611686018427387904) = decide (a > 4611686018427387904 ∨ b > 4611686018427387904 ∨ c > 4611686018427387904) := by
  refine ⟨_, rfl, decide_eq_decide.2 ?_⟩
  split <;> split <;> omega
theorem may_run6 {s : Store} {x : FI} {c : AVs} (hc : IsFc s c x) (hw : WfF x) (k : Nat) (h1 : 1200 ≤ k) (h2 : k ≤ 79980) : ∃ s', rn (k + 10) 14 [.agg (fcs x c)] s = some (.bool (mayC x), s') ∧ Ext s s' := by
  rw [F14.eq]
  unfold F14.f F14.p6
  rw [cells_agg, new_s, show (fcs x c).length = 16 from rfl]
  have hg : (s.push (.cells (fcs x c) false)).get s.next = .cells (fcs x c) false := by rw [get_push, if_pos rfl]
  have e1 := Ext.push s (.cells (fcs x c) false)
  have hlt : s.next < (s.push (.cells (fcs x c) false)).next := Nat.lt_succ_self _
  generalize s.push (.cells (fcs x c) false) = t at *
  have L := FLd.mk' (s := t) (F := s.next) (x := x) (c := c) (ro := false) hg
  unfold F14.p5 mayC
  simp only [bnd, not_b, fld_p, Nat.zero_add, Nat.add_zero, gn_some, gn_same, gn_v, gv_gv, gn_fa, gn_ld, gn_ldn, gn_len, gn_b1, gn_b2, gn_un, gn_pk, gn_cl, gn_ct, gn_cf, gn_dt, gn_df, pn_and, pn_or, pn_tt, pn_tf, pn_ft, pn_ff, neq_i, eql_i, gtr_i, geq_i, lss_i, leq_i, L.l0, L.l1, L.l2, L.l3, L.l4, L.l5, L.l6, L.l7, L.l8, L.l9, L.l10, L.l11, L.l12, L.l13, L.l14, L.l15, L.n3, L.n16]
  cases (decide (x.kd < 1) || decide (x.kd > 10)) with
  | true => exact ⟨t, rfl, e1⟩
  | false =>
  rw [if_f]
  cases ((decide (x.src ≥ 64) || decide (x.dst ≥ 64)) || (x.src == x.dst)) with
  | true => exact ⟨t, rfl, e1⟩
  | false =>
  rw [if_f]
  obtain ⟨t2, k2, e2⟩ := bare_run (hc.ext e1) hw (k + 5) (by omega) (by omega)
  rw [show k + 9 = k + 5 + 4 from rfl, show (AV.agg (fcl x c.e c.a c.d c.h c.b)) = .agg (fcs x c) from rfl, k2]
  simp only [bnd, not_b]
  unfold F14.p4
  have ee := e1.trans e2
  have L := FLd.mk' (s := t2) (F := s.next) (x := x) (c := c) (ro := false) ((e2.get _ hlt).trans hg)
  have hg2 := (e2.get _ hlt).trans hg
  have hlt2 := Nat.lt_of_lt_of_le hlt e2.next
  cases bareB x with
  | false => exact ⟨t2, rfl, ee⟩
  | true =>
  rw [Bool.not_true, if_f]
  unfold F14.p3
  simp only [fld_p, Nat.zero_add, L.l5, L.l9, L.l10]
  obtain ⟨m, hm1, hm2⟩ := max_3 x.seq x.inst x.round (α := AV × Store) (f := fun v7 => aBin .gtr v7 (AV.int .u64 4611686018427387904) fun v8 => some (v8, t2))
  have hmx : ∀ f : AV → Rz, aMaxL (.int .u64 x.seq) [.int .u64 x.inst, .int .u64 x.round] f = f (.int .u64 (if x.round > (if x.inst > x.seq then x.inst else x.seq) then x.round else (if x.inst > x.seq then x.inst else x.seq))) := fun f => rfl
  have hmd : decide ((if x.round > (if x.inst > x.seq then x.inst else x.seq) then x.round else (if x.inst > x.seq then x.inst else x.seq)) > 4611686018427387904) = decide (x.seq > 4611686018427387904 ∨ x.inst > 4611686018427387904 ∨ x.round > 4611686018427387904) := decide_eq_decide.2 (by split <;> split <;> omega)
  rw [hmx, gtr_i, hmd]
  have no : ∀ (st : Store), Ext s st → ∃ s', F14.p2 (k + 9) (.ptr s.next 0 16) (.bool true) st = some (.bool false, s') ∧ Ext s s' := fun st e => ⟨st, rfl, e⟩
  cases decide (x.seq > 4611686018427387904 ∨ x.inst > 4611686018427387904 ∨ x.round > 4611686018427387904) with
  | true => rw [if_t]; exact no t2 ee
  | false =>
  rw [if_f, L.n16]
  obtain ⟨t3, k3, e3⟩ := shaped_run (hc.ext ee) hw (k + 7)
  rw [show (AV.agg (fcl x c.e c.a c.d c.h c.b)) = .agg (fcs x c) from rfl, show k + 9 = k + 7 + 2 from rfl, k3]
  simp only [bnd, not_b]
  have ee3 := ee.trans e3
  have hg3 := (e3.get _ hlt2).trans hg2
  have hlt3 := Nat.lt_of_lt_of_le hlt2 e3.next
  have L := FLd.mk' (s := t3) (F := s.next) (x := x) (c := c) (ro := false) hg3
  cases shapedB x with
  | false => rw [Bool.not_false, if_t]; exact no t3 ee3
  | true =>
  rw [Bool.not_true, if_f, L.l11]
  obtain ⟨t4, k4, e4⟩ := rows_run6 ((hc.ext ee3).est) hw.est hw.estL (k + 3) (by omega) (by omega)
  rw [show k + 7 + 2 = k + 3 + 6 from rfl, k4]
  simp only [bnd, not_b]
  have ee4 := ee3.trans e4
  have hg4 := (e4.get _ hlt3).trans hg3
  have hlt4 := Nat.lt_of_lt_of_le hlt3 e4.next
  have L := FLd.mk' (s := t4) (F := s.next) (x := x) (c := c) (ro := false) hg4
  cases runsB x.est with
  | false => simp only [bnd, guard_tt, guard_ff, guard_tf, guard_ft, pick_t, pick_f, if_t, if_f, add_i, sub_i, lss_i, leq_i, gtr_i, geq_i, eql_i, neq_i, min_i, max_i, conv_i, len_sl, len_nil, not_b, cells_agg, new_s, fld_p, nil_p, guard_skip, Bool.not_false]; exact no t4 ee4
  | true =>
  obtain ⟨t5, k5, e5⟩ := rows_run6 ((hc.ext ee4).aux) hw.aux hw.auxL (k + 3) (by omega) (by omega)
  simp only [bnd, guard_tt, guard_ff, guard_tf, guard_ft, pick_t, pick_f, if_t, if_f, add_i, sub_i, lss_i, leq_i, gtr_i, geq_i, eql_i, neq_i, min_i, max_i, conv_i, len_sl, len_nil, not_b, cells_agg, new_s, fld_p, nil_p, Bool.not_true, L.l12, k5]
  have ee5 := ee4.trans e5
  have hg5 := (e5.get _ hlt4).trans hg4
  have L := FLd.mk' (s := t5) (F := s.next) (x := x) (c := c) (ro := false) hg5
  have hk9 : k + 3 + 6 = k + 8 + 1 := rfl
  cases runsB x.aux with
  | false => rw [Bool.not_false, if_t]; exact no t5 ee5
  | true =>
  rw [Bool.not_true, if_f, L.l13, hk9, cnts_run (hc.ext ee5).done hw.doneL (k + 8) (by omega)]
  simp only [bnd, not_b]
  cases cntsB x.done with
  | false => simp only [bnd, guard_tt, guard_ff, guard_tf, guard_ft, pick_t, pick_f, if_t, if_f, add_i, sub_i, lss_i, leq_i, gtr_i, geq_i, eql_i, neq_i, min_i, max_i, conv_i, len_sl, len_nil, not_b, cells_agg, new_s, fld_p, nil_p, guard_skip, Bool.not_false]; exact no t5 ee5
  | true =>
  simp only [bnd, guard_tt, guard_ff, guard_tf, guard_ft, pick_t, pick_f, if_t, if_f, add_i, sub_i, lss_i, leq_i, gtr_i, geq_i, eql_i, neq_i, min_i, max_i, conv_i, len_sl, len_nil, not_b, cells_agg, new_s, fld_p, nil_p, Bool.not_true, L.l14, cnts_run (hc.ext ee5).held hw.heldL (k + 8) (by omega)]
  unfold F14.p2
  cases cntsB x.held with
  | false => exact ⟨t5, rfl, ee5⟩
  | true =>
  rw [Bool.not_true, if_f]
  unfold F14.p0
  refine ⟨t5, ?_, ee5⟩
  simp only [bnd, not_b, fld_p, Nat.zero_add, Nat.add_zero, gn_some, gn_same, gn_v, gv_gv, gn_fa, gn_ld, gn_ldn, gn_len, gn_b1, gn_b2, gn_un, gn_pk, gn_cl, gn_ct, gn_cf, gn_dt, gn_df, pn_and, pn_or, pn_tt, pn_tf, pn_ft, pn_ff, neq_i, eql_i, gtr_i, geq_i, lss_i, leq_i, L.l0, L.l1, L.l2, L.l3, L.l4, L.l5, L.l6, L.l7, L.l8, L.l9, L.l10, L.l11, L.l12, L.l13, L.l14, L.l15, L.n3, L.n16, len_runs hc.est, Bool.true_and, Bool.not_false]
end Go.Proofs.Ytkfdgegmahbkiaa.Sim
namespace Go.Proofs.Ytkfdgegmahbkiaa.Sim
set_option linter.unusedSimpArgs false
set_option linter.unusedVariables false

theorem numR_suffix {b : List Int} (hu : ∀ x ∈ b, 0 ≤ x ∧ x < 256) {most : Int} (h : (numR b most).2.2 = 0) : b.drop (b.length - (numR b most).2.1.length) = (numR b most).2.1 := by
  obtain ⟨_, _, h3⟩ := numR_one hu h
  generalize (numR b most).2.1 = r at *
  rw [h3, List.length_append, Nat.add_sub_cancel, List.drop_left]
theorem rdNum_0 {b : List Int} {most : Int} (h : (rdNum b 0 most).2.2 = 0) : rdNum b 0 most = numR b most := by
  unfold rdNum at h ⊢
  rw [if_neg (by simp)] at h ⊢
  split
  · rename_i q
    rw [if_pos q] at h
    exact absurd h q
  · rfl
def bodyI (xs : List Int) : List Int × Int :=
  if (fitsI xs).2 ≠ 0 then ([], (fitsI xs).2)
  else if (rdNum (fitsI xs).1 0 18446744073709551615).2.2 ≠ 0 then ([], (rdNum (fitsI xs).1 0 18446744073709551615).2.2)
  else if ((rdNum (fitsI xs).1 0 18446744073709551615).2.1.length : Int) + 4 < (rdNum (fitsI xs).1 0 18446744073709551615).1 then ([], 2)
  else if ((rdNum (fitsI xs).1 0 18446744073709551615).2.1.length : Int) + 4 > (rdNum (fitsI xs).1 0 18446744073709551615).1 then ([], 4)
  else if ((rdNum (fitsI xs).1 0 18446744073709551615).2.1.length : Int) + 4 < 8 then ([], 2)
  else ((rdNum (fitsI xs).1 0 18446744073709551615).2.1, 0)
theorem fitsI_u8 {xs : List Int} (hu : ∀ x ∈ xs, 0 ≤ x ∧ x < 256) : (∀ x ∈ (fitsI xs).1, 0 ≤ x ∧ x < 256) ∧ (fitsI xs).1.length ≤ xs.length := by
  unfold fitsI
  split
  · exact ⟨fun x h => (nomatch h), Nat.zero_le _⟩
  · split
    · exact ⟨fun x h => hu x (List.mem_of_mem_take h), by simp only [List.length_take]; omega⟩
    · exact ⟨fun x h => (nomatch h), Nat.zero_le _⟩
theorem body_run {s : Store} {bv : AV} {xs : List Int} (hv : IsV s bv .u8 xs) (hu : ∀ x ∈ xs, 0 ≤ x ∧ x < 256) (k : Nat) (hk : 110 ≤ k) (hb : xs.length < k) (hk2 : k ≤ 100000) : ∃ v s', rn (k + 4) 17 [bv] s = some (.tuple [v, .int .i64 (bodyI xs).2], s') ∧ IsV s' v .u8 (bodyI xs).1 ∧ Ext s s' := by
  rw [F17.eq]
  unfold F17.f F17.p7 F17.p6 bodyI
  obtain ⟨v1, s1, k1, v1s, e1, _⟩ := fits_run hv hu k hk hb (by omega)
  obtain ⟨fu, fl⟩ := fitsI_u8 hu
  have x0 : ∀ (a b : AV) (f : AV → Rz), aExtract 0 (.tuple [a, b]) f = f a := fun a b f => rfl
  have x1 : ∀ (a b : AV) (f : AV → Rz), aExtract 1 (.tuple [a, b]) f = f b := fun a b f => rfl
  rw [k1, bnd]
  simp only [x0, x1]
  unfold F17.p5
  rw [neq_i]
  by_cases c1 : (fitsI xs).2 = 0
  · rw [show ((fitsI xs).2 != 0) = false from by simp [c1], if_f, if_neg (by simp [c1])]
    unfold F17.p4
    obtain ⟨rd, s2, k2, r2, e2⟩ := new_run v1s (by omega) (k + 1)
    rw [show k + 3 = k + 1 + 2 from rfl, k2, bnd]
    simp only
    unfold F17.p3
    obtain ⟨s3, k3, r3, f3⟩ := num_run r2 fu (by omega) 18446744073709551615 (k + 1) (by omega)
    rw [k3, bnd]
    simp only
    unfold F17.p2
    have hrdlt : s1.next ≤ rd := by
      obtain ⟨_, _, _, q, _⟩ := r2
      exact q.1
    have e3 : Ext s1 s3 := f3.ext e2 hrdlt
    have hl3 := rdNum_len (b := (fitsI xs).1) (e := 0) (most := 18446744073709551615)
    have hbn := rdNum_bnd fu 0 (most := 18446744073709551615) (by omega)
    have hc1 : IntKind.u64.wrap ((rdNum (fitsI xs).1 0 18446744073709551615).2.1.length : Int) = ((rdNum (fitsI xs).1 0 18446744073709551615).2.1.length : Int) := w_u64 (by omega) (by omega)
    have hc2 : IntKind.u64.wrap (((rdNum (fitsI xs).1 0 18446744073709551615).2.1.length : Int) + 4) = ((rdNum (fitsI xs).1 0 18446744073709551615).2.1.length : Int) + 4 := w_u64 (by omega) (by omega)
    rw [left_run r3, bnd]
    simp only [conv_i, hc1, add_i, hc2]
    unfold F17.p1
    simp only [err_run r3, bnd, neq_i]
    have ee := e1.trans e3
    by_cases c2 : (rdNum (fitsI xs).1 0 18446744073709551615).2.2 = 0
    · rw [show ((rdNum (fitsI xs).1 0 18446744073709551615).2.2 != 0) = false from by simp [c2], if_f, if_neg (by simp [c2]), lss_i]
      by_cases c3 : ((rdNum (fitsI xs).1 0 18446744073709551615).2.1.length : Int) + 4 < (rdNum (fitsI xs).1 0 18446744073709551615).1
      · rw [decide_eq_true c3, if_t, if_pos c3]
        exact ⟨_, s3, rfl, .inl ⟨rfl, rfl⟩, ee⟩
      · rw [decide_eq_false c3, if_f, if_neg c3, gtr_i]
        by_cases c4 : ((rdNum (fitsI xs).1 0 18446744073709551615).2.1.length : Int) + 4 > (rdNum (fitsI xs).1 0 18446744073709551615).1
        · rw [decide_eq_true c4, if_t, if_pos c4]
          exact ⟨_, s3, rfl, .inl ⟨rfl, rfl⟩, ee⟩
        · rw [decide_eq_false c4, if_f, if_neg c4, lss_i]
          by_cases c5 : ((rdNum (fitsI xs).1 0 18446744073709551615).2.1.length : Int) + 4 < 8
          · rw [decide_eq_true c5, if_t, if_pos c5]
            exact ⟨_, s3, rfl, .inl ⟨rfl, rfl⟩, ee⟩
          · rw [decide_eq_false c5, if_f, if_neg c5]
            unfold F17.p0
            have v3 := v1s.ext e3
            have hsub : IntKind.i64.wrap (((fitsI xs).1.length : Int) - ((rdNum (fitsI xs).1 0 18446744073709551615).2.1.length : Int)) = (((fitsI xs).1.length - (rdNum (fitsI xs).1 0 18446744073709551615).2.1.length : Nat) : Int) := by rw [w_i64 (by omega) (by omega)]; omega
            rw [lenV v3, left_run r3, bnd]
            simp only [sub_i, hsub]
            obtain ⟨w, w1, _, _, _, w2⟩ := sliceV v3 (a := (fitsI xs).1.length - (rdNum (fitsI xs).1 0 18446744073709551615).2.1.length) (b := (fitsI xs).1.length) (by omega) (by omega)
            rw [w2 rfl]
            refine ⟨w, s3, rfl, ?_, ee⟩
            have hs := numR_suffix fu (most := 18446744073709551615) (by rw [← rdNum_0 c2]; exact c2)
            rw [← rdNum_0 c2] at hs
            rw [List.take_of_length_le (by simp), hs] at w1
            exact w1
    · rw [show ((rdNum (fitsI xs).1 0 18446744073709551615).2.2 != 0) = true from by simpa using c2, if_t, if_pos c2]
      exact ⟨_, s3, rfl, .inl ⟨rfl, rfl⟩, ee⟩
  · rw [show ((fitsI xs).2 != 0) = true from by simpa using c1, if_t, if_pos c1]
    exact ⟨_, s1, rfl, .inl ⟨rfl, rfl⟩, e1⟩
theorem bodyI_u8 {xs : List Int} (hu : ∀ x ∈ xs, 0 ≤ x ∧ x < 256) : (∀ x ∈ (bodyI xs).1, 0 ≤ x ∧ x < 256) ∧ (bodyI xs).1.length ≤ xs.length ∧ ((bodyI xs).2 = 0 → 4 ≤ (bodyI xs).1.length) := by
  obtain ⟨fu, fl⟩ := fitsI_u8 hu
  have h1 := rdNum_u8 (e := 0) (most := 18446744073709551615) fu
  have h2 := rdNum_len (b := (fitsI xs).1) (e := 0) (most := 18446744073709551615)
  have no : ∀ e : Int, e ≠ 0 → (∀ x ∈ (([] : List Int), e).1, 0 ≤ x ∧ x < 256) ∧ (([] : List Int), e).1.length ≤ xs.length ∧ ((([] : List Int), e).2 = 0 → 4 ≤ (([] : List Int), e).1.length) := fun e he => ⟨fun x h => (nomatch h), Nat.zero_le _, fun h => absurd h he⟩
  unfold bodyI
  split
  · rename_i q; exact no _ q
  · split
    · rename_i q; exact no _ q
    · split
      · exact no 2 (by omega)
      · split
        · exact no 4 (by omega)
        · split
          · exact no 2 (by omega)
          · exact ⟨h1, Nat.le_trans h2 fl, fun _ => by simp only; omega⟩

/-- A frame's row is no list's. -/
theorem isfc_set {s : Store} {c : AVs} {x : FI} (h : IsFc s c x) {i : Nat} {z : FI} {c' : AVs} {ro : Bool} (hg : s.get i = .cells (fcs z c') ro) (o : AObj) : IsFc (s.set i o) c x := by
  have hV : ∀ {v : AV} {k : IntKind} {xs : List Int}, IsV s v k xs → k = .u64 ∨ k = .u8 → IsV (s.set i o) v k xs := by
    intro v k xs hv hk
    rcases hv with q | ⟨l, off, ys, ro', q1, q2, q3, q4⟩
    · exact .inl q
    · refine .inr ⟨l, off, ys, ro', q1, q2, ?_, q4⟩
      rw [get_set, if_neg, q3]
      intro e
      subst e
      rw [hg] at q3
      injection q3 with q3
      have z0 : (fcs z c')[0]? = (ys.map (AV.int k))[0]? := by rw [q3]
      have z4 : (fcs z c')[4]? = (ys.map (AV.int k))[4]? := by rw [q3]
      rw [List.getElem?_map] at z0 z4
      have y0 : (fcs z c')[0]? = some (AV.int .u8 z.kd) := rfl
      have y4 : (fcs z c')[4]? = some (AV.int .u64 z.ids) := rfl
      rw [y0] at z0
      rw [y4] at z4
      rcases hk with rfl | rfl
      · cases hy : ys[0]? with
        | none => rw [hy] at z0; cases z0
        | some y => rw [hy] at z0; injection z0 with z0; injection z0 with z0; cases z0
      · cases hy : ys[4]? with
        | none => rw [hy] at z4; cases z4
        | some y => rw [hy] at z4; injection z4 with z4; injection z4 with z4; cases z4
  have hR : ∀ {v : AV} {xs : List Rn}, IsRuns s v xs → IsRuns (s.set i o) v xs := by
    intro v xs hv
    rcases hv with q | ⟨l, ro', q1, q2, q3⟩
    · exact .inl q
    · refine .inr ⟨l, ro', q1, q2, ?_⟩
      rw [get_set, if_neg, q3]
      intro e
      subst e
      rw [hg] at q3
      injection q3 with q3
      cases xs with
      | nil => cases q3
      | cons r t =>
        have z1 : (fcs z c')[1]? = (((r :: t).map rcells).flatten)[1]? := by rw [q3]
        have y1 : (fcs z c')[1]? = some (AV.int .u8 z.src) := rfl
        rw [y1] at z1
        injection z1 with z1
        injection z1 with z1
        cases z1
  exact ⟨hR h.est, hR h.aux, hV h.done (.inl rfl), hV h.held (.inl rfl), hV h.data (.inr rfl)⟩

def cN : AVs := ⟨.nilsl, .nilsl, .nilsl, .nilsl, .nilsl⟩
theorem isfc_nil {s : Store} {x : FI} (h1 : x.est = []) (h2 : x.aux = []) (h3 : x.done = []) (h4 : x.held = []) (h5 : x.data = []) : IsFc s cN x := ⟨.inl ⟨rfl, h1⟩, .inl ⟨rfl, h2⟩, .inl ⟨rfl, h3⟩, .inl ⟨rfl, h4⟩, .inl ⟨rfl, h5⟩⟩
theorem wf_zero : WfF FI.zero := by constructor <;> simp [FI.zero]
/-- The frame of some bytes; the error's number. -/
def frame0 (b : List Int) : FI := { FI.zero with kd := b.getD 1 0, src := b.getD 2 0, dst := b.getD 3 0 }
def readI (b : List Int) : FI × List Int × Int := (wopsOf (b.getD 1 0)).foldl (fun st op => rdStep op st) (frame0 b, b.drop 4, 0)
def getI (xs : List Int) : FI × Int :=
  if (bodyI xs).2 ≠ 0 then (FI.zero, (bodyI xs).2)
  else if (bodyI xs).1.getD 0 0 ≠ 1 then (FI.zero, 3)
  else if (bodyI xs).1.getD 1 0 < 1 ∨ (bodyI xs).1.getD 1 0 > 10 then (FI.zero, 10)
  else if endR (readI (bodyI xs).1).2.1 (readI (bodyI xs).1).2.2 ≠ 0 then (FI.zero, endR (readI (bodyI xs).1).2.1 (readI (bodyI xs).1).2.2)
  else if mayC (readI (bodyI xs).1).1 = false then (FI.zero, 3)
  else ((readI (bodyI xs).1).1, 0)
theorem getD_u8 {b : List Int} (hu : ∀ x ∈ b, 0 ≤ x ∧ x < 256) (i : Nat) : 0 ≤ b.getD i 0 ∧ b.getD i 0 < 256 := by
  by_cases h : i < b.length
  · rw [List.getD_eq_getElem?_getD, List.getElem?_eq_getElem h]
    exact hu _ (List.getElem_mem h)
  · rw [List.getD_eq_getElem?_getD, List.getElem?_eq_none (by omega)]
    exact ⟨Int.le_refl _, by decide⟩
theorem get_run6 {s : Store} {bv : AV} {xs : List Int} (hv : IsV s bv .u8 xs) (hu : ∀ x ∈ xs, 0 ≤ x ∧ x < 256) (k : Nat) (hk : 1300 ≤ k) (hb : xs.length < k) (hk2 : k ≤ 70000) : ∃ c s', rn (k + 12) 8 [bv] s = some (.tuple [.agg (fcs (getI xs).1 c), .int .i64 (getI xs).2], s') ∧ IsFc s' c (getI xs).1 ∧ WfF (getI xs).1 ∧ Ext s s' := by
  rw [F8.eq]
  unfold F8.f F8.p4
  have hz : ([AV.int .u8 0, AV.int .u8 0, AV.int .u8 0, AV.int .u8 0, AV.int .u64 0, AV.int .u64 0, AV.int .u32 0, AV.int .u32 0, AV.int .u32 0, AV.int .u64 0, AV.int .u64 0, AV.nilsl, AV.nilsl, AV.nilsl, AV.nilsl, AV.nilsl] : List AV) = fcs FI.zero cN := rfl
  have hbz : ∀ f : List AV → Rz, aBuild [] (fcs FI.zero cN) f = f (fcs FI.zero cN) := fun f => rfl
  rw [hz, new_s, show (fcs FI.zero cN).length = 16 from rfl]
  have e0 := Ext.push s (.cells (fcs FI.zero cN) false)
  have g0 : (s.push (.cells (fcs FI.zero cN) false)).get s.next = .cells (fcs FI.zero cN) false := by rw [get_push, if_pos rfl]
  have l0 : s.next < (s.push (.cells (fcs FI.zero cN) false)).next := Nat.lt_succ_self _
  generalize s.push (.cells (fcs FI.zero cN) false) = t at *
  unfold F8.p3
  obtain ⟨v1, s1, k1, w1, e1⟩ := body_run (hv.ext e0) hu (k + 7) (by omega) (by omega) (by omega)
  obtain ⟨bu, bl, b4⟩ := bodyI_u8 hu
  have x0 : ∀ (a b : AV) (f : AV → Rz), aExtract 0 (.tuple [a, b]) f = f a := fun a b f => rfl
  have x1 : ∀ (a b : AV) (f : AV → Rz), aExtract 1 (.tuple [a, b]) f = f b := fun a b f => rfl
  rw [k1, bnd]
  simp only [x0, x1]
  have g1 := (e1.get _ l0).trans g0
  have l1 := Nat.lt_of_lt_of_le l0 e1.next
  have ee1 := e0.trans e1
  -- how it ends where there is an error
  have bad : ∀ (e : AV) (st : Store) (z : FI) (c : AVs), st.get s.next = .cells (fcs z c) false → Ext s st → ∃ c' s', (aStore 16 (.ptr s.next 0 16) (.agg (fcs FI.zero cN)) st fun s3 => aLoadN 16 (.ptr s.next 0 16) s3 fun v4 => (some (AV.tuple [v4, e], s3) : Rz)) = some (.tuple [.agg (fcs FI.zero c'), e], s') ∧ IsFc s' c' FI.zero ∧ WfF FI.zero ∧ Ext s s' := by
    intro e st z c q1 q2
    rw [rst_all (n := 16) q1 rfl rfl, rld_all (n := 16) (s := st.set s.next _) (cs := fcs FI.zero cN) (ro := false) (by rw [get_set, if_pos rfl]) rfl]
    exact ⟨cN, _, rfl, isfc_nil rfl rfl rfl rfl rfl, wf_zero, ⟨q2.next, fun l hl => by rw [get_set, if_neg (by omega)]; exact q2.get l hl⟩⟩
  unfold F8.p2 getI
  rw [neq_i, hz]
  by_cases c1 : (bodyI xs).2 = 0
  · rw [show ((bodyI xs).2 != 0) = false from by simp [c1], if_f, if_neg (by simp [c1])]
    have b4 := b4 c1
    generalize hB : (bodyI xs).1 = B at *
    have at_ : ∀ (i : Nat), i < B.length → ∃ p, (∀ f : AV → Rz, aIndexSl 1 v1 (.int .i64 (i : Int)) f = f p) ∧ (∀ {st : Store}, Ext s1 st → ∀ f : AV → Rz, aLoad1 p st f = f (.int .u8 (B.getD i 0))) := by
      intro i hi
      obtain ⟨p, p1, p2⟩ := atV w1 (i := (i : Int)) (by omega) (by omega)
      refine ⟨p, fun f => p1 .i64 f, fun {st} e f => ?_⟩
      obtain ⟨p', p1', p2'⟩ := atV (w1.ext e) (i := (i : Int)) (by omega) (by omega)
      have : p = p' := by
        have a := p1 .i64 (α := AV) some
        have b := p1' .i64 (α := AV) some
        rw [a] at b
        exact Option.some.inj b
      rw [this, p2', Int.toNat_natCast]
    obtain ⟨p0, i0, d0⟩ := at_ 0 (by omega)
    obtain ⟨p1, i1, d1⟩ := at_ 1 (by omega)
    obtain ⟨p2, i2, d2⟩ := at_ 2 (by omega)
    obtain ⟨p3, i3, d3⟩ := at_ 3 (by omega)
    have i0' : ∀ f : AV → Rz, aIndexSl 1 v1 (.int .i64 0) f = f p0 := i0
    rw [i0', d0 (Ext.refl s1), neq_i]
    by_cases c2 : B.getD 0 0 = 1
    · rw [show (B.getD 0 0 != 1) = false from by rw [c2]; rfl, if_f, if_neg (fun q => q c2)]
      have i1' : ∀ f : AV → Rz, aIndexSl 1 v1 (.int .i64 1) f = f p1 := i1
      have i2' : ∀ f : AV → Rz, aIndexSl 1 v1 (.int .i64 2) f = f p2 := i2
      have i3' : ∀ f : AV → Rz, aIndexSl 1 v1 (.int .i64 3) f = f p3 := i3
      simp only [i1', d1 (Ext.refl s1), lss_i, gtr_i, bnd, gn_some, gn_same, gn_v, gv_gv, gn_ld, gn_b1, pn_or]
      have hgi : ∀ {κ : AV → Rz} {z : Rz} {b w : Bool} {y : AV}, aGuard (.bool b) w (aIndexSl 1 (gv w b v1) y κ) z = aGuard (.bool b) w (aIndexSl 1 v1 y κ) z := by
        intro κ z b w y
        cases b <;> cases w <;> rfl
      simp only [hgi, i1', d1 (Ext.refl s1), lss_i, gtr_i, bnd, gn_some, gn_same, gn_v, gv_gv, gn_ld, gn_b1, pn_or]
      by_cases c3 : B.getD 1 0 < 1 ∨ B.getD 1 0 > 10
      · have hc : (decide (B.getD 1 0 < 1) || decide (B.getD 1 0 > 10)) = true := by
          rcases c3 with q | q
          · rw [decide_eq_true q]; rfl
          · rw [decide_eq_true q, Bool.or_true]
        rw [hc, if_t, if_pos c3, hbz]
        exact bad _ s1 _ _ g1 ee1
      · have hc : (decide (B.getD 1 0 < 1) || decide (B.getD 1 0 > 10)) = false := by
          rw [decide_eq_false (fun q => c3 (.inl q)), decide_eq_false (fun q => c3 (.inr q))]; rfl
        rw [hc, if_f, if_neg c3]
        -- the frame's row
        unfold F8.p1
        have hb3 : ∀ (a b c : Int) (f : List AV → Rz), aBuild [(0, 1, .int .u8 a), (1, 1, .int .u8 b), (2, 1, .int .u8 c)] [AV.int .u8 0, AV.int .u8 0, AV.int .u8 0] f = f [.int .u8 a, .int .u8 b, .int .u8 c] := fun a b c f => rfl
        have hbf : ∀ (a b c : Int) (f : List AV → Rz), aBuild [(0, 3, .agg [.int .u8 a, .int .u8 b, .int .u8 c])] (fcs FI.zero cN) f = f (fcs { FI.zero with kd := a, src := b, dst := c } cN) := fun a b c f => rfl
        have e2 := Ext.push s1 (.cells (fcs FI.zero cN) false)
        have g2 : (s1.push (.cells (fcs FI.zero cN) false)).get s1.next = .cells (fcs FI.zero cN) false := by rw [get_push, if_pos rfl]
        simp only [hz, bnd, i1', i2', i3', d1 (Ext.refl s1), d2 (Ext.refl s1), d3 (Ext.refl s1), d1 e2, d2 e2, d3 e2, hb3, hbf, new_s, show (fcs FI.zero cN).length = 16 from rfl, aSame_self, rst_all (n := 16) (vs := fcs { FI.zero with kd := B.getD 1 0, src := B.getD 2 0, dst := B.getD 3 0 } cN) g2 rfl rfl]
        have hf0 : ({ FI.zero with kd := B.getD 1 0, src := B.getD 2 0, dst := B.getD 3 0 } : FI) = frame0 B := rfl
        rw [hf0]
        have e3 : Ext s1 ((s1.push (.cells (fcs FI.zero cN) false)).set s1.next (.cells (fcs (frame0 B) cN) false)) := ⟨Nat.le_succ _, fun l hl => by rw [get_set, if_neg (by omega), get_push, if_neg (by omega)]⟩
        have g3 : ((s1.push (.cells (fcs FI.zero cN) false)).set s1.next (.cells (fcs (frame0 B) cN) false)).get s1.next = .cells (fcs (frame0 B) cN) false := by rw [get_set, if_pos rfl]
        have l3 : s1.next < ((s1.push (.cells (fcs FI.zero cN) false)).set s1.next (.cells (fcs (frame0 B) cN) false)).next := Nat.lt_succ_self _
        generalize (s1.push (.cells (fcs FI.zero cN) false)).set s1.next (.cells (fcs (frame0 B) cN) false) = t3 at *
        unfold F8.p0
        obtain ⟨w, w2, _, _, _, w3⟩ := sliceV (w1.ext e3) (a := 4) (b := B.length) (by omega) (by omega)
        have w3' : ∀ f : AV → Rz, aSliceSl 1 v1 (some (.int .i64 4)) none f = f w := fun f => w3 rfl .i64 f
        have hw4 : (B.drop 4).take (B.length - 4) = B.drop 4 := List.take_of_length_le (by simp)
        rw [hw4] at w2
        have hdu : ∀ x ∈ B.drop 4, 0 ≤ x ∧ x < 256 := fun x hx => bu x (List.mem_of_mem_drop hx)
        obtain ⟨rd, s4, k4, r4, e4⟩ := new_run w2 (by simp; omega) (k + 9)
        have hbr : ∀ f : List AV → Rz, aBuild [(0, 1, .ptr rd 0 2)] [AV.nilptr] f = f [.ptr rd 0 2] := fun f => rfl
        rw [w3', show k + 11 = k + 9 + 2 from rfl, k4, bnd]
        simp only [hbr]
        rw [new_all (n := 1) (s := s4) rfl rfl]
        have e5 := Ext.push s4 (.cells [.ptr rd 0 2] false)
        have g5 : (s4.push (.cells [.ptr rd 0 2] false)).get s4.next = .cells [.ptr rd 0 2] false := by rw [get_push, if_pos rfl]
        have l5 : s4.next < (s4.push (.cells [.ptr rd 0 2] false)).next := Nat.lt_succ_self _
        have hrd3 : t3.next ≤ rd ∧ rd < s4.next := by
          obtain ⟨_, _, q, q2, _⟩ := r4
          exact ⟨q2.1, q⟩
        have r5 := (r4.ext e5).mono (lo' := fun i => i ≠ s1.next) (fun i q => by have := q.1; omega)
        generalize s4.push (.cells [.ptr rd 0 2] false) = t5 at *
        rw [rld_all (n := 1) g5 rfl]
        have e35 := e4.trans e5
        have g35 := (e35.get _ l3).trans g3
        have l35 := Nat.lt_of_lt_of_le l3 e35.next
        have hkd : (frame0 B).kd = B.getD 1 0 := rfl
        have b1 := getD_u8 bu 1
        have b2 := getD_u8 bu 2
        have b3 := getD_u8 bu 3
        have hwf : WfF (frame0 B) := { wf_zero with kd := b1, src := b2, dst := b3 }
        have offn : offP s1.next rd .nilsl := fun i b n d f q => by cases q
        obtain ⟨s6, k6, c6, R⟩ := rd_visit (F := s1.next) (rd := rd) (s0 := t5) (s := t5) (kd := B.getD 1 0) (q := (frame0 B, B.drop 4, 0)) (k + 8) (by omega) (by omega) ⟨cN, g35, l35, rfl, .inl ⟨rfl, rfl⟩, .inl ⟨rfl, rfl⟩, .inl ⟨rfl, rfl⟩, .inl ⟨rfl, rfl⟩, .inl ⟨rfl, rfl⟩, ⟨offn, offn, offn, offn, offn⟩, r5, hdu, by simp; omega, (wopsOf_good _).1, (wopsOf_good _).2, fun _ => rfl, fun _ => rfl, fun _ => rfl, fun _ => rfl, FrP.refl _ _ _, hwf⟩
        rw [show k + 9 + 2 = k + 8 + 3 from rfl, k6, bnd]
        have hri : (wopsOf (B.getD 1 0)).foldl (fun st op => rdStep op st) (frame0 B, B.drop 4, 0) = readI B := rfl
        rw [hri] at R
        simp only [fld_p, Nat.add_zero]
        have hne1 : s4.next ≠ s1.next := by have := Nat.le_trans e3.next e4.next; have := Nat.lt_of_lt_of_le l3 e4.next; omega
        have g6 : s6.get s4.next = .cells [.ptr rd 0 2] false := by rw [R.fr.get s4.next l5 hne1 (by omega)]; exact g5
        have ld6 : ∀ f : AV → Rz, aLoad1 (.ptr s4.next 0 1) s6 f = f (.ptr rd 0 2) := fun f => load_1 g6 rfl rfl
        have l13 : s1.next ≤ t3.next := e3.next
        have ee3 := ee1.trans e3
        have hsn : s.next < s1.next := l1
        have ee6 : Ext s s6 := R.fr.ext (ee3.trans e35) (by omega) (by have := ee3.next; omega)
        have gx : s6.get s.next = .cells (fcs FI.zero cN) false := by
          rw [R.fr.get s.next (Nat.lt_of_lt_of_le l1 (Nat.le_trans e3.next e35.next)) (by omega) (by have := ee3.next; omega), (e3.trans e35).get _ l1]; exact g1
        rw [ld6, end_run R.rdr, bnd, neq_i]
        by_cases c4 : endR (readI B).2.1 (readI B).2.2 = 0
        · rw [show (endR (readI B).2.1 (readI B).2.2 != 0) = false from by simp [c4], if_f, if_neg (by simp [c4])]
          rw [rld_all (n := 16) R.row rfl]
          have fc6 : IsFc s6 c6 (readI B).1 := ⟨R.est, R.aux, R.done, R.held, R.data⟩
          obtain ⟨s7, k7, e7⟩ := may_run6 fc6 R.wf (k + 1) (by omega) (by omega)
          have g7 := (e7.get _ R.lt).trans R.row
          have gx7 := (e7.get _ (Nat.lt_of_lt_of_le l1 (Nat.le_trans e3.next (Nat.le_trans e35.next R.fr.next)))).trans gx
          have ee7 := ee6.trans e7
          rw [show (AV.agg (fcl (readI B).1 c6.e c6.a c6.d c6.h c6.b)) = .agg (fcs (readI B).1 c6) from rfl, show k + 8 + 3 = k + 1 + 10 from rfl, k7]
          simp only [bnd, not_b]
          cases hm : mayC (readI B).1 with
          | false =>
            rw [Bool.not_false, if_t, if_pos rfl]
            first | rw [hbz] | rw [hz, hbz]
            exact bad _ s7 _ _ gx7 ee7
          | true =>
            rw [Bool.not_true, if_f, if_neg (by simp)]
            rw [rld_all (n := 16) g7 rfl, rst_all (n := 16) gx7 rfl rfl, rld_all (n := 16) (s := s7.set s.next _) (cs := fcl (readI B).1 c6.e c6.a c6.d c6.h c6.b) (ro := false) (by rw [get_set, if_pos rfl]) rfl]
            exact ⟨c6, _, rfl, isfc_set (fc6.ext e7) gx7 _, R.wf, ⟨ee7.next, fun l hl => by rw [get_set, if_neg (by omega)]; exact ee7.get l hl⟩⟩
        · rw [show (endR (readI B).2.1 (readI B).2.2 != 0) = true from by simpa using c4, if_t, if_pos c4]
          first | rw [hbz] | rw [hz, hbz]
          exact bad _ s6 _ _ gx ee6
    · rw [show (B.getD 0 0 != 1) = true from bne_iff_ne.2 c2, if_t, if_pos c2, hbz]
      exact bad _ s1 _ _ g1 ee1
  · rw [show ((bodyI xs).2 != 0) = true from by simpa using c1, if_t, if_pos c1, hbz]
    exact bad _ s1 _ _ g1 ee1
end Go.Proofs.Ytkfdgegmahbkiaa.Sim
namespace Go.Proofs.Ytkfdgegmahbkiaa.Sim
set_option linter.unusedSimpArgs false
set_option linter.unusedVariables false

/-- A row that is no list's. -/
def FRw (s : Store) (i : Nat) : Prop := (∃ z c ro, s.get i = .cells (fcs z c) ro) ∨ (∃ v e ro, s.get i = .cells [v, .int .i64 e] ro)
theorem IsV.fr {s : Store} {v : AV} {k : IntKind} {xs : List Int} {i : Nat} (hv : IsV s v k xs) (hk : k = .u64 ∨ k = .u8) (hf : FRw s i) (o : AObj) : IsV (s.set i o) v k xs := by
  rcases hv with q | ⟨l, off, ys, ro', q1, q2, q3, q4⟩
  · exact .inl q
  · refine .inr ⟨l, off, ys, ro', q1, q2, ?_, q4⟩
    rw [get_set, if_neg, q3]
    intro e
    subst e
    rcases hf with ⟨z, c, ro, hg⟩ | ⟨w, e, ro, hg⟩
    · rw [hg] at q3
      injection q3 with q3
      have z0 : (fcs z c)[0]? = (ys.map (AV.int k))[0]? := by rw [q3]
      have z4 : (fcs z c)[4]? = (ys.map (AV.int k))[4]? := by rw [q3]
      rw [List.getElem?_map] at z0 z4
      have y0 : (fcs z c)[0]? = some (AV.int .u8 z.kd) := rfl
      have y4 : (fcs z c)[4]? = some (AV.int .u64 z.ids) := rfl
      rw [y0] at z0
      rw [y4] at z4
      rcases hk with rfl | rfl
      · cases hy : ys[0]? with
        | none => rw [hy] at z0; cases z0
        | some y => rw [hy] at z0; injection z0 with z0; injection z0 with z0; cases z0
      · cases hy : ys[4]? with
        | none => rw [hy] at z4; cases z4
        | some y => rw [hy] at z4; injection z4 with z4; injection z4 with z4; cases z4
    · rw [hg] at q3
      injection q3 with q3
      have z1 : [w, AV.int .i64 e][1]? = (ys.map (AV.int k))[1]? := by rw [q3]
      rw [List.getElem?_map] at z1
      cases hy : ys[1]? with
      | none => rw [hy] at z1; cases z1
      | some y =>
        rw [hy] at z1
        have z1 : some (AV.int .i64 e) = some (AV.int k y) := z1
        injection z1 with z1
        injection z1 with z1
        rcases hk with rfl | rfl <;> cases z1
theorem IsRuns.fr {s : Store} {v : AV} {xs : List Rn} {i : Nat} (hv : IsRuns s v xs) (hf : FRw s i) (o : AObj) : IsRuns (s.set i o) v xs := by
  rcases hv with q | ⟨l, ro', q1, q2, q3⟩
  · exact .inl q
  · refine .inr ⟨l, ro', q1, q2, ?_⟩
    rw [get_set, if_neg, q3]
    intro e
    subst e
    rcases hf with ⟨z, c, ro, hg⟩ | ⟨w, e, ro, hg⟩
    · rw [hg] at q3
      injection q3 with q3
      cases xs with
      | nil => cases q3
      | cons r t =>
        have z1 : (fcs z c)[1]? = (((r :: t).map rcells).flatten)[1]? := by rw [q3]
        have y1 : (fcs z c)[1]? = some (AV.int .u8 z.src) := rfl
        rw [y1] at z1
        injection z1 with z1
        injection z1 with z1
        cases z1
    · rw [hg] at q3
      injection q3 with q3
      cases xs with
      | nil => cases q3
      | cons r t =>
        have z1 : [w, AV.int .i64 e][1]? = (((r :: t).map rcells).flatten)[1]? := by rw [q3]
        have z1 : some (AV.int .i64 e) = some (AV.int .u64 r.2.1) := z1
        injection z1 with z1
        injection z1 with z1
        cases z1
theorem IsFc.fr {s : Store} {c : AVs} {x : FI} {i : Nat} (h : IsFc s c x) (hf : FRw s i) (o : AObj) : IsFc (s.set i o) c x := ⟨h.est.fr hf o, h.aux.fr hf o, h.done.fr (.inl rfl) hf o, h.held.fr (.inl rfl) hf o, h.data.fr (.inr rfl) hf o⟩
theorem set_comm {s : Store} {i j : Nat} (h : i ≠ j) (o p : AObj) : (s.set i o).set j p = (s.set j p).set i o := by
  unfold Store.set
  congr 1
  funext l
  by_cases h1 : l = i
  · subst h1; simp [h]
  · simp [h1]
theorem OwnL.keep {β : Type} {c : β → List AV} {es : Nat} {s s' : Store} {v : AV} {l : List β} {lo : Nat} (h : OwnL c es s v l lo) (n : s.next ≤ s'.next) (e : ∀ i, lo ≤ i → i < s.next → s'.get i = s.get i) : OwnL c es s' v l lo := by
  rcases h with h | ⟨id, h1, h2, h3, h4⟩
  · exact .inl h
  · exact .inr ⟨id, h1, h2, Nat.lt_of_lt_of_le h3 n, (e id h2 h3).trans h4⟩
theorem OwnV.keep {s s' : Store} {v : AV} {k : IntKind} {l : List Int} {lo : Nat} (h : OwnV s v k l lo) (n : s.next ≤ s'.next) (e : ∀ i, lo ≤ i → i < s.next → s'.get i = s.get i) : OwnV s' v k l lo := by
  rcases h with h | ⟨id, h1, h2, h3, h4⟩
  · exact .inl h
  · exact .inr ⟨id, h1, h2, Nat.lt_of_lt_of_le h3 n, (e id h2 h3).trans h4⟩

theorem app_at {β : Type} {c : β → List AV} {es bytes : Nat} (hc : ∀ x, (c x).length = es) (he : 0 < es) (hby : 0 < bytes) {s : Store} {id : Nat} {l : List β} (hg : s.get id = .cells (l.map c).flatten false) (hid : id < s.next) (r : β) (hb : (l.length + 1) * bytes ≤ 140737488355328) {α : Type} (f : AV → Store → Option α) :
    aAppend es bytes (.sl id 0 l.length es (l.length * es)) (.sl s.next 0 1 es es) (s.push (.cells (c r) false)) f = f (.sl id 0 (l.length + 1) es ((l.length + 1) * es)) ((s.push (.cells (c r) false)).set id (.cells ((l ++ [r]).map c).flatten false)) := by
  have hr := hc r
  have hfl := flatL_len hc l
  have hne : id ≠ s.next := by omega
  have hg2 : (s.push (.cells (c r) false)).get id = .cells (l.map c).flatten false := by rw [get_push, if_neg hne]; exact hg
  have ht : (s.push (.cells (c r) false)).get s.next = .cells (c r) false := by rw [get_push, if_pos rfl]
  have hb' : l.length * bytes + bytes ≤ 140737488355328 := by rw [← Nat.succ_mul]; exact hb
  have hm : (l.length + 1) * es = l.length * es + es := Nat.succ_mul _ _
  simp [aAppend, aCellsOf, aRow, ht, hr, aOwn, hg2, hfl, hb, hb', he, hby, List.take_of_length_le, hm]
theorem app1_at {k : IntKind} {bytes : Nat} (hby : 0 < bytes) {s : Store} {id : Nat} {l : List Int} (hg : s.get id = .cells (l.map (.int k)) false) (hid : id < s.next) (r : Int) (hb : (l.length + 1) * bytes ≤ 140737488355328) {α : Type} (f : AV → Store → Option α) :
    aAppend 1 bytes (.sl id 0 l.length 1 l.length) (.sl s.next 0 1 1 1) (s.push (.cells [.int k r] false)) f = f (.sl id 0 (l.length + 1) 1 (l.length + 1)) ((s.push (.cells [.int k r] false)).set id (.cells ((l ++ [r]).map (.int k)) false)) := by
  have hne : id ≠ s.next := by omega
  have hg2 : (s.push (.cells [.int k r] false)).get id = .cells (l.map (.int k)) false := by rw [get_push, if_neg hne]; exact hg
  have ht : (s.push (.cells [.int k r] false)).get s.next = .cells [.int k r] false := by rw [get_push, if_pos rfl]
  simp [aAppend, aCellsOf, aRow, ht, aOwn, hg2, hb, hby]

/-- Runs are read till something is wrong. -/
def rtRuns : Nat → List Int → Int → List Rn × List Int × Int
  | 0, b, e => ([], b, e)
  | n + 1, b, e => if e = 0 then ((rdRun b e).1 :: (rtRuns n (rdRun b e).2.1 (rdRun b e).2.2).1, (rtRuns n (rdRun b e).2.1 (rdRun b e).2.2).2) else ([], b, e)
def rtNums : Nat → List Int → Int → List Int × List Int × Int
  | 0, b, e => ([], b, e)
  | n + 1, b, e => if e = 0 then ((rdNum b e 18446744073709551615).1 :: (rtNums n (rdNum b e 18446744073709551615).2.1 (rdNum b e 18446744073709551615).2.2).1, (rtNums n (rdNum b e 18446744073709551615).2.1 (rdNum b e 18446744073709551615).2.2).2) else ([], b, e)

section
variable {s : Store} {d a id : Nat}
/-- A number is read at a reader that lies in a row. -/
theorem rr_at {lv : AV} {b : List Int} {e : Int} (hg : s.get d = .cells [lv, .int .i64 e] false) (hv : IsV s lv .u8 b) (hu : ∀ x ∈ b, 0 ≤ x ∧ x < 256) (hb : b.length ≤ 1000000) (most : Int) (k : Nat) (hk : 50 ≤ k) (hk2 : k ≤ 90000) : ∃ lv' s', rn (k + 2) 22 [.agg [lv, .int .i64 e], .int .u64 most] s = some (.tuple [.int .u64 (rdNum b e most).1, .agg [lv', .int .i64 (rdNum b e most).2.2]], s') ∧ IsV s' lv' .u8 (rdNum b e most).2.1 ∧ Ext s s' ∧ (∀ a b c d f, lv' = .sl a b c d f → ∃ b c d f, lv = .sl a b c d f) := by
  obtain ⟨lv', s', k1, k2, k4, k3⟩ := rr_num (e := e) (most := most) hv hu hb k hk hk2
  exact ⟨lv', s', k1, k2.ext k3, k3, k4⟩
theorem x2_0 (a b : AV) (f : AV → Rz) : aExtract 0 (.tuple [a, b]) f = f a := rfl
theorem x2_1 (a b : AV) (f : AV → Rz) : aExtract 1 (.tuple [a, b]) f = f b := rfl

theorem truns_loop (k : Nat) (hk : 50 ≤ k) (hk2 : k ≤ 80000) {s0 : Store} {xr : Nat} (hd : d ≠ id) (hxr : xr ≠ id) (hdx : d ≠ xr) (h0d : s0.next ≤ d) (h0x : s0.next ≤ xr) (h0i : s0.next ≤ id) {m : Nat} (hm : m ≤ 64) : ∀ (n i : Nat) (s : Store) (lv : AV) (l : List Rn) (b : List Int) (e : Int), id < s.next ∧ d < s.next ∧ xr < s.next → Ext s0 s → s.get d = .cells [lv, .int .i64 e] false → s.get xr = .cells [.nilsl, .int .i64 0] false → IsV s lv .u8 b → (∀ i o n d f, lv = .sl i o n d f → i ≠ id) → s.get id = .cells (l.map rcells).flatten false → (∀ x ∈ b, 0 ≤ x ∧ x < 256) → b.length ≤ 1000000 → l.length = i → i ≤ m → m - i < n →
    ∃ ov' lv' s', F50.l0 (k + 2) n (.ptr xr 0 2) (.sl id 0 l.length 3 (l.length * 3)) (.int .u64 (m : Int)) (.ptr d 0 2) (.int .u64 (i : Int)) s = some (.tuple [ov', .agg [lv', .int .i64 (rtRuns (m - i) b e).2.2]], s') ∧ IsRuns s' ov' (l ++ (rtRuns (m - i) b e).1) ∧ IsV s' lv' .u8 (rtRuns (m - i) b e).2.1 ∧ Ext s0 s'
  | 0, i, s, lv, l, b, e, _, _, _, _, _, _, _, _, _, _, _, hn => by omega
  | n + 1, i, s, lv, l, b, e, ⟨his, hds, hxs⟩, e0, hg, hgx, hv, hvl, ho, hu, hb, hl, hi, hn => by
    have hs : F50.l0 (k + 2) (n + 1) = fun x3 x4 x5 x6 x7 s => F50.p4 (k + 2) (F50.l0 (k + 2) n) x3 x4 x5 x6 x7 s := rfl
    rw [hs]
    clear hs
    simp only
    unfold F50.p4
    have ld1 : ∀ f : AV → Rz, aLoad1 (.ptr d 1 2) s f = f (.int .i64 e) := fun f => load_1 hg rfl rfl
    simp only [lss_i, fld_p, Nat.zero_add, bnd, gn_some, gn_v, gn_ld, ld1, gn_b1, eql_i, pn_and]
    -- how it ends
    have stop : m - i = 0 ∨ e ≠ 0 → ∃ ov' lv' s', F50.p1 (k + 2) (.ptr xr 0 2) (.sl id 0 l.length 3 (l.length * 3)) (.ptr d 0 2) s = some (.tuple [ov', .agg [lv', .int .i64 (rtRuns (m - i) b e).2.2]], s') ∧ IsRuns s' ov' (l ++ (rtRuns (m - i) b e).1) ∧ IsV s' lv' .u8 (rtRuns (m - i) b e).2.1 ∧ Ext s0 s' := by
      intro h
      have hr : rtRuns (m - i) b e = ([], b, e) := by
        rcases h with h | h
        · rw [h]; rfl
        · cases hmi : m - i with
          | zero => rfl
          | succ z => simp only [rtRuns]; rw [if_neg h]
      unfold F50.p1 F50.p0
      simp only [bnd]
      rw [rld_all (n := 2) hg rfl]
      simp only [bnd]
      rw [rst_all (n := 2) hgx rfl rfl]
      simp only [bnd]
      rw [rld_all (n := 2) (s := s.set xr _) (cs := [lv, .int .i64 e]) (ro := false) (by rw [get_set, if_pos rfl]) rfl, hr, List.append_nil]
      have hfr : FRw s xr := .inr ⟨_, _, _, hgx⟩
      exact ⟨_, lv, _, rfl, (show IsRuns s (.sl id 0 l.length 3 (l.length * 3)) l from .inr ⟨id, false, rfl, his, ho⟩).fr hfr _, hv.fr (.inr rfl) hfr _, ⟨e0.next, fun j hj => by rw [get_set, if_neg (by omega)]; exact e0.get j hj⟩⟩
    by_cases h : i < m
    · rw [decide_eq_true (show (i : Int) < (m : Int) by omega), Bool.true_and]
      by_cases he : e = 0
      · rw [show (e == 0) = true from by simp [he], if_t]
        unfold F50.p3
        have hbz : ∀ f : List AV → Rz, aBuild [] [AV.int .u8 0, AV.int .u64 0, AV.int .u64 0] f = f [AV.int .u8 0, AV.int .u64 0, AV.int .u64 0] := fun f => rfl
        rw [hbz, new_all (n := 3) (s := s) rfl rfl]
        have e1 := Ext.push s (.cells [AV.int .u8 0, AV.int .u64 0, AV.int .u64 0] false)
        have gr1 : (s.push (.cells [AV.int .u8 0, AV.int .u64 0, AV.int .u64 0] false)).get s.next = .cells [AV.int .u8 0, AV.int .u64 0, AV.int .u64 0] false := by rw [get_push, if_pos rfl]
        have lr1 : s.next < (s.push (.cells [AV.int .u8 0, AV.int .u64 0, AV.int .u64 0] false)).next := Nat.lt_succ_self _
        generalize s.push (.cells [AV.int .u8 0, AV.int .u64 0, AV.int .u64 0] false) = s1 at *
        have gd1 := (e1.get d hds).trans hg
        rw [rld_all (n := 2) gd1 rfl]
        -- one number: it, and where it goes
        have one : ∀ (t : Store) (w : AV) (bb : List Int) (ee : Int) (cs : List AV) (most : Int), t.get d = .cells [w, .int .i64 ee] false → t.get s.next = .cells cs false → s.next < t.next → IsV t w .u8 bb → (∀ x ∈ bb, 0 ≤ x ∧ x < 256) → bb.length ≤ 1000000 → cs.length = 3 → (∀ j : Nat, cs[0]? = some (.int .u8 j) → True) →
            ∃ w' t', rn (k + 2) 22 [.agg [w, .int .i64 ee], .int .u64 most] t = some (.tuple [.int .u64 (rdNum bb ee most).1, .agg [w', .int .i64 (rdNum bb ee most).2.2]], t') ∧ IsV t' w' .u8 (rdNum bb ee most).2.1 ∧ Ext t t' ∧ t'.get d = .cells [w, .int .i64 ee] false ∧ t'.get s.next = .cells cs false ∧ (∀ a b c d f, w' = .sl a b c d f → ∃ b c d f, w = .sl a b c d f) := by
          intro t w bb ee cs most q1 q2 q3 q4 q5 q6 q7 _
          obtain ⟨w', t', r1, r2, r3, r4⟩ := rr_at q1 q4 q5 q6 most k hk (by omega)
          exact ⟨w', t', r1, r2, r3, (r3.get d (by omega)).trans q1, (r3.get s.next q3).trans q2, r4⟩
        have u1 := rdNum_u8 (e := e) (most := 255) hu
        have n1 := Nat.le_trans (rdNum_len (b := b) (e := e) (most := 255)) hb
        have u2 := rdNum_u8 (e := (rdNum b e 255).2.2) (most := 18446744073709551615) u1
        have n2 := Nat.le_trans (rdNum_len (b := (rdNum b e 255).2.1) (e := (rdNum b e 255).2.2) (most := 18446744073709551615)) n1
        have u3 := rdNum_u8 (e := (rdNum (rdNum b e 255).2.1 (rdNum b e 255).2.2 18446744073709551615).2.2) (most := 18446744073709551615) u2
        have n3 := Nat.le_trans (rdNum_len (b := (rdNum (rdNum b e 255).2.1 (rdNum b e 255).2.2 18446744073709551615).2.1) (e := (rdNum (rdNum b e 255).2.1 (rdNum b e 255).2.2 18446744073709551615).2.2) (most := 18446744073709551615)) n2
        have bn1 := rdNum_bnd hu e (most := 255) (by omega)
        -- a list of bytes is not the run's row
        have notr : ∀ {t : Store} {w : AV} {bb : List Int} {x : Int} {y z : AV}, IsV t w .u8 bb → t.get s.next = .cells [.int .u8 x, y, z] false → (∃ q, y = .int .u64 q) → ∀ o, IsV (t.set s.next o) w .u8 bb := by
          intro t w bb x y z hw q hq o
          rcases hw with hw | ⟨l', off, ys, ro', q1, q2, q3, q4⟩
          · exact .inl hw
          · refine .inr ⟨l', off, ys, ro', q1, q2, ?_, q4⟩
            rw [get_set, if_neg, q3]
            intro ee
            subst ee
            rw [q] at q3
            injection q3 with q3
            obtain ⟨qq, rfl⟩ := hq
            have z1 : [AV.int .u8 x, .int .u64 qq, z][1]? = (ys.map (AV.int .u8))[1]? := by rw [q3]
            rw [List.getElem?_map] at z1
            cases hy : ys[1]? with
            | none => rw [hy] at z1; cases z1
            | some y =>
              rw [hy] at z1
              have z1 : some (AV.int .u64 qq) = some (AV.int .u8 y) := z1
              injection z1 with z1
              injection z1 with z1
              cases z1
        obtain ⟨w1, t1, r1, r2, r3, r4, r5, m1⟩ := one s1 lv b e _ 255 gd1 gr1 lr1 (hv.ext e1) hu hb rfl (fun _ _ => trivial)
        have hne : s.next ≠ d := by omega
        rw [r1, bnd]
        simp only [x2_0, x2_1]
        rw [rst_all (n := 2) r4 rfl rfl, conv_i, w_u8 bn1.1 (by omega), fld_p, Nat.zero_add]
        have f1 : FRw t1 d := .inr ⟨_, _, _, r4⟩
        have a1 := r2.fr (.inr rfl) f1 (.cells [w1, .int .i64 (rdNum b e 255).2.2] false)
        have g1d : (t1.set d (.cells [w1, .int .i64 (rdNum b e 255).2.2] false)).get d = .cells [w1, .int .i64 (rdNum b e 255).2.2] false := by rw [get_set, if_pos rfl]
        have g1r : (t1.set d (.cells [w1, .int .i64 (rdNum b e 255).2.2] false)).get s.next = .cells [AV.int .u8 0, AV.int .u64 0, AV.int .u64 0] false := by rw [get_set, if_neg hne]; exact r5
        rw [st_cell (off := 0) (ep := 3) (v := .int .u8 (rdNum b e 255).1) g1r rfl (by omega) (fun f => rfl)]
        have b1 := notr a1 g1r ⟨0, rfl⟩ (.cells [.int .u8 (rdNum b e 255).1, .int .u64 0, .int .u64 0] false)
        have hc1 : ([AV.int .u8 0, AV.int .u64 0, AV.int .u64 0].set 0 (.int .u8 (rdNum b e 255).1)) = [.int .u8 (rdNum b e 255).1, .int .u64 0, .int .u64 0] := rfl
        rw [hc1]
        have fr1 : ∀ j, j < s.next → j ≠ d → ((t1.set d (.cells [w1, .int .i64 (rdNum b e 255).2.2] false)).set s.next (.cells [.int .u8 (rdNum b e 255).1, .int .u64 0, .int .u64 0] false)).get j = s.get j := fun j hj hjd => by
          rw [get_set, if_neg (by omega), get_set, if_neg hjd, r3.get j (Nat.lt_of_lt_of_le hj e1.next), e1.get j hj]
        have g2d : ((t1.set d (.cells [w1, .int .i64 (rdNum b e 255).2.2] false)).set s.next (.cells [.int .u8 (rdNum b e 255).1, .int .u64 0, .int .u64 0] false)).get d = .cells [w1, .int .i64 (rdNum b e 255).2.2] false := by rw [get_set, if_neg (Ne.symm hne)]; exact g1d
        have g2r : ((t1.set d (.cells [w1, .int .i64 (rdNum b e 255).2.2] false)).set s.next (.cells [.int .u8 (rdNum b e 255).1, .int .u64 0, .int .u64 0] false)).get s.next = .cells [.int .u8 (rdNum b e 255).1, .int .u64 0, .int .u64 0] false := by rw [get_set, if_pos rfl]
        have l2 : s.next < ((t1.set d (.cells [w1, .int .i64 (rdNum b e 255).2.2] false)).set s.next (.cells [.int .u8 (rdNum b e 255).1, .int .u64 0, .int .u64 0] false)).next := Nat.lt_of_lt_of_le lr1 r3.next
        generalize (t1.set d (.cells [w1, .int .i64 (rdNum b e 255).2.2] false)).set s.next (.cells [.int .u8 (rdNum b e 255).1, .int .u64 0, .int .u64 0] false) = s2 at *
        rw [rld_all (n := 2) g2d rfl]
        obtain ⟨w2, t2, r1, r2, r3, r4, r5, m2⟩ := one s2 w1 _ _ _ 18446744073709551615 g2d g2r l2 b1 u1 n1 rfl (fun _ _ => trivial)
        rw [r1, bnd]
        simp only [x2_0, x2_1, fld_p, Nat.zero_add]
        rw [st_cell (off := 1) (ep := 3) (v := .int .u64 (rdNum (rdNum b e 255).2.1 (rdNum b e 255).2.2 18446744073709551615).1) r5 rfl (by omega) (fun f => rfl)]
        have hc2 : ([AV.int .u8 (rdNum b e 255).1, AV.int .u64 0, AV.int .u64 0].set 1 (.int .u64 (rdNum (rdNum b e 255).2.1 (rdNum b e 255).2.2 18446744073709551615).1)) = [.int .u8 (rdNum b e 255).1, .int .u64 (rdNum (rdNum b e 255).2.1 (rdNum b e 255).2.2 18446744073709551615).1, .int .u64 0] := rfl
        rw [hc2]
        have a2 := notr r2 r5 ⟨0, rfl⟩ (.cells [.int .u8 (rdNum b e 255).1, .int .u64 (rdNum (rdNum b e 255).2.1 (rdNum b e 255).2.2 18446744073709551615).1, .int .u64 0] false)
        have g3d : (t2.set s.next (.cells [.int .u8 (rdNum b e 255).1, .int .u64 (rdNum (rdNum b e 255).2.1 (rdNum b e 255).2.2 18446744073709551615).1, .int .u64 0] false)).get d = .cells [w1, .int .i64 (rdNum b e 255).2.2] false := by rw [get_set, if_neg (Ne.symm hne)]; exact r4
        rw [rst_all (n := 2) g3d rfl rfl]
        have f2 : FRw (t2.set s.next (.cells [.int .u8 (rdNum b e 255).1, .int .u64 (rdNum (rdNum b e 255).2.1 (rdNum b e 255).2.2 18446744073709551615).1, .int .u64 0] false)) d := .inr ⟨_, _, _, g3d⟩
        have b2 := a2.fr (.inr rfl) f2 (.cells [w2, .int .i64 (rdNum (rdNum b e 255).2.1 (rdNum b e 255).2.2 18446744073709551615).2.2] false)
        generalize hD2 : rdNum (rdNum b e 255).2.1 (rdNum b e 255).2.2 18446744073709551615 = D2 at *
        have fr2 : ∀ j, j < s.next → j ≠ d → ((t2.set s.next (.cells [.int .u8 (rdNum b e 255).1, .int .u64 D2.1, .int .u64 0] false)).set d (.cells [w2, .int .i64 D2.2.2] false)).get j = s.get j := fun j hj hjd => by
          rw [get_set, if_neg hjd, get_set, if_neg (by omega), r3.get j (by omega), fr1 j hj hjd]
        have g4d : ((t2.set s.next (.cells [.int .u8 (rdNum b e 255).1, .int .u64 D2.1, .int .u64 0] false)).set d (.cells [w2, .int .i64 D2.2.2] false)).get d = .cells [w2, .int .i64 D2.2.2] false := by rw [get_set, if_pos rfl]
        have g4r : ((t2.set s.next (.cells [.int .u8 (rdNum b e 255).1, .int .u64 D2.1, .int .u64 0] false)).set d (.cells [w2, .int .i64 D2.2.2] false)).get s.next = .cells [.int .u8 (rdNum b e 255).1, .int .u64 D2.1, .int .u64 0] false := by rw [get_set, if_neg hne, get_set, if_pos rfl]
        have l4 : s.next < ((t2.set s.next (.cells [.int .u8 (rdNum b e 255).1, .int .u64 D2.1, .int .u64 0] false)).set d (.cells [w2, .int .i64 D2.2.2] false)).next := Nat.lt_of_lt_of_le l2 r3.next
        generalize (t2.set s.next (.cells [.int .u8 (rdNum b e 255).1, .int .u64 D2.1, .int .u64 0] false)).set d (.cells [w2, .int .i64 D2.2.2] false) = s3 at *
        rw [rld_all (n := 2) g4d rfl]
        obtain ⟨w3, t3, r1, r2, r3, r4, r5, m3⟩ := one s3 w2 _ _ _ 18446744073709551615 g4d g4r l4 b2 u2 n2 rfl (fun _ _ => trivial)
        rw [r1, bnd]
        simp only [x2_0, x2_1, fld_p, Nat.zero_add]
        generalize hD3 : rdNum D2.2.1 D2.2.2 18446744073709551615 = D3 at *
        rw [st_cell (off := 2) (ep := 3) (v := .int .u64 D3.1) r5 rfl (by omega) (fun f => rfl)]
        have hc3 : ([AV.int .u8 (rdNum b e 255).1, AV.int .u64 D2.1, AV.int .u64 0].set 2 (.int .u64 D3.1)) = rcells ((rdNum b e 255).1, D2.1, D3.1) := rfl
        rw [hc3]
        have a3 := notr r2 r5 ⟨_, rfl⟩ (.cells (rcells ((rdNum b e 255).1, D2.1, D3.1)) false)
        have g5d : (t3.set s.next (.cells (rcells ((rdNum b e 255).1, D2.1, D3.1)) false)).get d = .cells [w2, .int .i64 D2.2.2] false := by rw [get_set, if_neg (Ne.symm hne)]; exact r4
        rw [rst_all (n := 2) g5d rfl rfl]
        have f3 : FRw (t3.set s.next (.cells (rcells ((rdNum b e 255).1, D2.1, D3.1)) false)) d := .inr ⟨_, _, _, g5d⟩
        have b3 := a3.fr (.inr rfl) f3 (.cells [w3, .int .i64 D3.2.2] false)
        have fr3 : ∀ j, j < s.next → j ≠ d → ((t3.set s.next (.cells (rcells ((rdNum b e 255).1, D2.1, D3.1)) false)).set d (.cells [w3, .int .i64 D3.2.2] false)).get j = s.get j := fun j hj hjd => by
          rw [get_set, if_neg hjd, get_set, if_neg (by omega), r3.get j (by omega), fr2 j hj hjd]
        have g6d : ((t3.set s.next (.cells (rcells ((rdNum b e 255).1, D2.1, D3.1)) false)).set d (.cells [w3, .int .i64 D3.2.2] false)).get d = .cells [w3, .int .i64 D3.2.2] false := by rw [get_set, if_pos rfl]
        have g6r : ((t3.set s.next (.cells (rcells ((rdNum b e 255).1, D2.1, D3.1)) false)).set d (.cells [w3, .int .i64 D3.2.2] false)).get s.next = .cells (rcells ((rdNum b e 255).1, D2.1, D3.1)) false := by rw [get_set, if_neg hne, get_set, if_pos rfl]
        have l6 : s.next < ((t3.set s.next (.cells (rcells ((rdNum b e 255).1, D2.1, D3.1)) false)).set d (.cells [w3, .int .i64 D3.2.2] false)).next := Nat.lt_of_lt_of_le l4 r3.next
        generalize (t3.set s.next (.cells (rcells ((rdNum b e 255).1, D2.1, D3.1)) false)).set d (.cells [w3, .int .i64 D3.2.2] false) = s4 at *
        rw [rld_all (n := 3) g6r rfl]
        have hbr : ∀ f : List AV → Rz, aBuild [(0, 3, AV.agg (rcells ((rdNum b e 255).1, D2.1, D3.1)))] [AV.int .u8 0, AV.int .u64 0, AV.int .u64 0] f = f (rcells ((rdNum b e 255).1, D2.1, D3.1)) := fun f => rfl
        rw [hbr]
        have gi4 : s4.get id = .cells (l.map rcells).flatten false := by rw [fr3 id his (Ne.symm hd)]; exact ho
        have li4 : id < s4.next := by omega
        rw [app_at (bytes := 24) (c := rcells) (es := 3) (fun x => rfl) (by omega) (by omega) gi4 li4 ((rdNum b e 255).1, D2.1, D3.1) (by omega)]
        have p3 : ∀ j, j < s4.next → j ≠ id → ((s4.push (.cells (rcells ((rdNum b e 255).1, D2.1, D3.1)) false)).set id (.cells ((l ++ [((rdNum b e 255).1, D2.1, D3.1)]).map rcells).flatten false)).get j = s4.get j := fun j h1 h2 => by rw [get_set, if_neg h2, get_push, if_neg (by omega)]
        have p3n : s4.next ≤ ((s4.push (.cells (rcells ((rdNum b e 255).1, D2.1, D3.1)) false)).set id (.cells ((l ++ [((rdNum b e 255).1, D2.1, D3.1)]).map rcells).flatten false)).next := Nat.le_succ _
        have p2 : ((s4.push (.cells (rcells ((rdNum b e 255).1, D2.1, D3.1)) false)).set id (.cells ((l ++ [((rdNum b e 255).1, D2.1, D3.1)]).map rcells).flatten false)).get id = .cells ((l ++ [((rdNum b e 255).1, D2.1, D3.1)]).map rcells).flatten false := by rw [get_set, if_pos rfl]
        generalize (s4.push (.cells (rcells ((rdNum b e 255).1, D2.1, D3.1)) false)).set id (.cells ((l ++ [((rdNum b e 255).1, D2.1, D3.1)]).map rcells).flatten false) = s5 at *
        unfold F50.p2
        have hwi : IntKind.u64.wrap ((i : Int) + 1) = ((i + 1 : Nat) : Int) := by rw [w_u64 (by omega) (by omega)]; omega
        rw [add_i, hwi]
        have hrun : rdRun b e = (((rdNum b e 255).1, D2.1, D3.1), D3.2.1, D3.2.2) := by
          show (((rdNum b e 255).1, (rdNum (rdNum b e 255).2.1 (rdNum b e 255).2.2 18446744073709551615).1, (rdNum (rdNum (rdNum b e 255).2.1 (rdNum b e 255).2.2 18446744073709551615).2.1 (rdNum (rdNum b e 255).2.1 (rdNum b e 255).2.2 18446744073709551615).2.2 18446744073709551615).1), _, _) = _
          rw [hD2, hD3]
        -- the rest
        have e05 : Ext s0 s5 := ⟨by have := e0.next; omega, fun j hj => by have := e0.next; rw [p3 j (by omega) (by omega), fr3 j (by omega) (by omega)]; exact e0.get j hj⟩
        have hvl3 : ∀ i o n d f, w3 = .sl i o n d f → i ≠ id := fun i o n d f q => by
          obtain ⟨_, _, _, _, q⟩ := m3 _ _ _ _ _ q
          obtain ⟨_, _, _, _, q⟩ := m2 _ _ _ _ _ q
          obtain ⟨_, _, _, _, q⟩ := m1 _ _ _ _ _ q
          exact hvl _ _ _ _ _ q
        have vb : IsV s5 w3 .u8 D3.2.1 := by
          rcases b3 with b3 | ⟨l', off, ys, ro', q1, q2, q3, q4⟩
          · exact .inl b3
          · exact .inr ⟨l', off, ys, ro', q1, Nat.lt_of_lt_of_le q2 p3n, (p3 l' q2 (hvl3 _ _ _ _ _ q1)).trans q3, q4⟩
        have gd5 := (p3 d (by omega) hd).trans g6d
        have gx5 : s5.get xr = .cells [.nilsl, .int .i64 0] false := by rw [p3 xr (by omega) hxr, fr3 xr hxs (Ne.symm hdx)]; exact hgx
        obtain ⟨ov', lv', s', z1, z2, z3, z4⟩ := truns_loop k hk hk2 hd hxr hdx h0d h0x h0i hm n (i + 1) s5 w3 (l ++ [((rdNum b e 255).1, D2.1, D3.1)]) D3.2.1 D3.2.2 ⟨by omega, by omega, by omega⟩ e05 gd5 gx5 vb hvl3 p2 u3 n3 (by simp; omega) (by omega) (by omega)
        have hsplit : rtRuns (m - i) b e = ((rdRun b e).1 :: (rtRuns (m - (i + 1)) (rdRun b e).2.1 (rdRun b e).2.2).1, (rtRuns (m - (i + 1)) (rdRun b e).2.1 (rdRun b e).2.2).2) := by
          rw [show m - i = (m - (i + 1)) + 1 by omega]
          simp only [rtRuns]
          rw [if_pos he]
        rw [hsplit, hrun, List.append_cons]
        rw [List.length_append, List.length_singleton] at z1
        exact ⟨ov', lv', s', z1, z2, z3, z4⟩
      · rw [show (e == 0) = false from by simpa using he, if_f]
        exact stop (.inr he)
    · rw [decide_eq_false (show ¬ (i : Int) < (m : Int) by omega), Bool.false_and, if_f]
      exact stop (.inl (by omega))
end
end Go.Proofs.Ytkfdgegmahbkiaa.Sim
namespace Go.Proofs.Ytkfdgegmahbkiaa.Sim
set_option linter.unusedSimpArgs false
set_option linter.unusedVariables false

section
variable {s : Store} {d a id : Nat}
theorem tnums_loop (k : Nat) (hk : 50 ≤ k) (hk2 : k ≤ 80000) {s0 : Store} {xr : Nat} (hd : d ≠ id) (hxr : xr ≠ id) (hdx : d ≠ xr) (h0d : s0.next ≤ d) (h0x : s0.next ≤ xr) (h0i : s0.next ≤ id) {m : Nat} (hm : m ≤ 64) : ∀ (n i : Nat) (s : Store) (lv : AV) (l : List Int) (b : List Int) (e : Int), id < s.next ∧ d < s.next ∧ xr < s.next → Ext s0 s → s.get d = .cells [lv, .int .i64 e] false → s.get xr = .cells [.nilsl, .int .i64 0] false → IsV s lv .u8 b → (∀ i o n d f, lv = .sl i o n d f → i ≠ id) → s.get id = .cells (l.map (.int .u64)) false → (∀ x ∈ b, 0 ≤ x ∧ x < 256) → b.length ≤ 1000000 → l.length = i → i ≤ m → m - i < n →
    ∃ ov' lv' s', F51.l0 (k + 2) n (.ptr xr 0 2) (.sl id 0 l.length 1 l.length) (.int .u64 (m : Int)) (.ptr d 0 2) (.int .u64 (i : Int)) s = some (.tuple [ov', .agg [lv', .int .i64 (rtNums (m - i) b e).2.2]], s') ∧ IsV s' ov' .u64 (l ++ (rtNums (m - i) b e).1) ∧ IsV s' lv' .u8 (rtNums (m - i) b e).2.1 ∧ Ext s0 s'
  | 0, i, s, lv, l, b, e, _, _, _, _, _, _, _, _, _, _, _, hn => by omega
  | n + 1, i, s, lv, l, b, e, ⟨his, hds, hxs⟩, e0, hg, hgx, hv, hvl, ho, hu, hb, hl, hi, hn => by
    have hs : F51.l0 (k + 2) (n + 1) = fun x3 x4 x5 x6 x7 s => F51.p4 (k + 2) (F51.l0 (k + 2) n) x3 x4 x5 x6 x7 s := rfl
    rw [hs]
    clear hs
    simp only
    unfold F51.p4
    have ld1 : ∀ f : AV → Rz, aLoad1 (.ptr d 1 2) s f = f (.int .i64 e) := fun f => load_1 hg rfl rfl
    simp only [lss_i, fld_p, Nat.zero_add, bnd, gn_some, gn_v, gn_ld, ld1, gn_b1, eql_i, pn_and]
    have stop : m - i = 0 ∨ e ≠ 0 → ∃ ov' lv' s', F51.p1 (k + 2) (.ptr xr 0 2) (.sl id 0 l.length 1 l.length) (.ptr d 0 2) s = some (.tuple [ov', .agg [lv', .int .i64 (rtNums (m - i) b e).2.2]], s') ∧ IsV s' ov' .u64 (l ++ (rtNums (m - i) b e).1) ∧ IsV s' lv' .u8 (rtNums (m - i) b e).2.1 ∧ Ext s0 s' := by
      intro h
      have hr : rtNums (m - i) b e = ([], b, e) := by
        rcases h with h | h
        · rw [h]; rfl
        · cases hmi : m - i with
          | zero => rfl
          | succ z => simp only [rtNums]; rw [if_neg h]
      unfold F51.p1 F51.p0
      simp only [bnd]
      rw [rld_all (n := 2) hg rfl]
      simp only [bnd]
      rw [rst_all (n := 2) hgx rfl rfl]
      simp only [bnd]
      rw [rld_all (n := 2) (s := s.set xr _) (cs := [lv, .int .i64 e]) (ro := false) (by rw [get_set, if_pos rfl]) rfl, hr, List.append_nil]
      have hfr : FRw s xr := .inr ⟨_, _, _, hgx⟩
      exact ⟨_, lv, _, rfl, (show IsV s (.sl id 0 l.length 1 l.length) .u64 l from .inr ⟨id, 0, l, false, rfl, his, ho, by omega, by simp⟩).fr (.inl rfl) hfr _, hv.fr (.inr rfl) hfr _, ⟨e0.next, fun j hj => by rw [get_set, if_neg (by omega)]; exact e0.get j hj⟩⟩
    by_cases h : i < m
    · rw [decide_eq_true (show (i : Int) < (m : Int) by omega), Bool.true_and]
      by_cases he : e = 0
      · rw [show (e == 0) = true from by simp [he], if_t]
        unfold F51.p3
        rw [rld_all (n := 2) hg rfl]
        obtain ⟨w1, t1, r1, r2, r3, m1⟩ := rr_at hg hv hu hb 18446744073709551615 k hk (by omega)
        have r4 := (r3.get d hds).trans hg
        have u1 := rdNum_u8 (e := e) (most := 18446744073709551615) hu
        have n1 := Nat.le_trans (rdNum_len (b := b) (e := e) (most := 18446744073709551615)) hb
        rw [r1, bnd]
        simp only [x2_0, x2_1]
        rw [rst_all (n := 2) r4 rfl rfl, build_1]
        have f1 : FRw t1 d := .inr ⟨_, _, _, r4⟩
        have a1 := r2.fr (.inr rfl) f1 (.cells [w1, .int .i64 (rdNum b e 18446744073709551615).2.2] false)
        have g1d : (t1.set d (.cells [w1, .int .i64 (rdNum b e 18446744073709551615).2.2] false)).get d = .cells [w1, .int .i64 (rdNum b e 18446744073709551615).2.2] false := by rw [get_set, if_pos rfl]
        have fr1 : ∀ j, j < s.next → j ≠ d → (t1.set d (.cells [w1, .int .i64 (rdNum b e 18446744073709551615).2.2] false)).get j = s.get j := fun j hj hjd => by rw [get_set, if_neg hjd, r3.get j hj]
        have nx : s.next ≤ (t1.set d (.cells [w1, .int .i64 (rdNum b e 18446744073709551615).2.2] false)).next := r3.next
        generalize t1.set d (.cells [w1, .int .i64 (rdNum b e 18446744073709551615).2.2] false) = s4 at *
        have gi4 : s4.get id = .cells (l.map (.int .u64)) false := by rw [fr1 id his (Ne.symm hd)]; exact ho
        have li4 : id < s4.next := by omega
        rw [app1_at (bytes := 8) (by omega) gi4 li4 (rdNum b e 18446744073709551615).1 (by omega)]
        have p3 : ∀ j, j < s4.next → j ≠ id → ((s4.push (.cells [.int .u64 (rdNum b e 18446744073709551615).1] false)).set id (.cells ((l ++ [(rdNum b e 18446744073709551615).1]).map (.int .u64)) false)).get j = s4.get j := fun j h1 h2 => by rw [get_set, if_neg h2, get_push, if_neg (by omega)]
        have p3n : s4.next ≤ ((s4.push (.cells [.int .u64 (rdNum b e 18446744073709551615).1] false)).set id (.cells ((l ++ [(rdNum b e 18446744073709551615).1]).map (.int .u64)) false)).next := Nat.le_succ _
        have p2 : ((s4.push (.cells [.int .u64 (rdNum b e 18446744073709551615).1] false)).set id (.cells ((l ++ [(rdNum b e 18446744073709551615).1]).map (.int .u64)) false)).get id = .cells ((l ++ [(rdNum b e 18446744073709551615).1]).map (.int .u64)) false := by rw [get_set, if_pos rfl]
        generalize (s4.push (.cells [.int .u64 (rdNum b e 18446744073709551615).1] false)).set id (.cells ((l ++ [(rdNum b e 18446744073709551615).1]).map (.int .u64)) false) = s5 at *
        unfold F51.p2
        have hwi : IntKind.u64.wrap ((i : Int) + 1) = ((i + 1 : Nat) : Int) := by rw [w_u64 (by omega) (by omega)]; omega
        rw [add_i, hwi]
        have e05 : Ext s0 s5 := ⟨by have := e0.next; omega, fun j hj => by have := e0.next; rw [p3 j (by omega) (by omega), fr1 j (by omega) (by omega)]; exact e0.get j hj⟩
        have hvl3 : ∀ i o n d f, w1 = .sl i o n d f → i ≠ id := fun i o n d f q => by
          obtain ⟨_, _, _, _, q⟩ := m1 _ _ _ _ _ q
          exact hvl _ _ _ _ _ q
        have vb : IsV s5 w1 .u8 (rdNum b e 18446744073709551615).2.1 := by
          rcases a1 with b3 | ⟨l', off, ys, ro', q1, q2, q3, q4⟩
          · exact .inl b3
          · exact .inr ⟨l', off, ys, ro', q1, Nat.lt_of_lt_of_le q2 p3n, (p3 l' q2 (hvl3 _ _ _ _ _ q1)).trans q3, q4⟩
        have gd5 := (p3 d (by omega) hd).trans g1d
        have gx5 : s5.get xr = .cells [.nilsl, .int .i64 0] false := by rw [p3 xr (by omega) hxr, fr1 xr hxs (Ne.symm hdx)]; exact hgx
        obtain ⟨ov', lv', s', z1, z2, z3, z4⟩ := tnums_loop k hk hk2 hd hxr hdx h0d h0x h0i hm n (i + 1) s5 w1 (l ++ [(rdNum b e 18446744073709551615).1]) (rdNum b e 18446744073709551615).2.1 (rdNum b e 18446744073709551615).2.2 ⟨by omega, by omega, by omega⟩ e05 gd5 gx5 vb hvl3 p2 u1 n1 (by simp; omega) (by omega) (by omega)
        have hsplit : rtNums (m - i) b e = ((rdNum b e 18446744073709551615).1 :: (rtNums (m - (i + 1)) (rdNum b e 18446744073709551615).2.1 (rdNum b e 18446744073709551615).2.2).1, (rtNums (m - (i + 1)) (rdNum b e 18446744073709551615).2.1 (rdNum b e 18446744073709551615).2.2).2) := by
          rw [show m - i = (m - (i + 1)) + 1 by omega]
          simp only [rtNums]
          rw [if_pos he]
        rw [hsplit, List.append_cons]
        rw [List.length_append, List.length_singleton] at z1
        exact ⟨ov', lv', s', z1, z2, z3, z4⟩
      · rw [show (e == 0) = false from by simpa using he, if_f]
        exact stop (.inr he)
    · rw [decide_eq_false (show ¬ (i : Int) < (m : Int) by omega), Bool.false_and, if_f]
      exact stop (.inl (by omega))
theorem isv_lt {s : Store} {v : AV} {k : IntKind} {xs : List Int} (h : IsV s v k xs) : ∀ i o n d f, v = .sl i o n d f → i < s.next := fun i o n d f q => by
  rcases h with ⟨q2, _⟩ | ⟨l, of, ys, ro, q2, q3, _⟩
  · rw [q2] at q; cases q
  · rw [q2] at q; cases q; exact q3
theorem takeRuns_run6 {bv : AV} {b : List Int} {e : Int} (hv : IsV s bv .u8 b) (hu : ∀ x ∈ b, 0 ≤ x ∧ x < 256) (hb : b.length ≤ 1000000) (k : Nat) (hk : 70 ≤ k) (hk2 : k ≤ 80000) : ∃ ov lv s', rn (k + 3) 50 [.agg [bv, .int .i64 e]] s = some (.tuple [ov, .agg [lv, .int .i64 (rtRuns (rdNum b e 64).1.toNat (rdNum b e 64).2.1 (rdNum b e 64).2.2).2.2]], s') ∧ IsRuns s' ov (rtRuns (rdNum b e 64).1.toNat (rdNum b e 64).2.1 (rdNum b e 64).2.2).1 ∧ IsV s' lv .u8 (rtRuns (rdNum b e 64).1.toNat (rdNum b e 64).2.1 (rdNum b e 64).2.2).2.1 ∧ Ext s s' := by
  rw [F50.eq]
  unfold F50.f F50.p8
  rw [cells_agg, new_s, new_s]
  simp only [List.length_cons, List.length_nil, Nat.zero_add, Nat.reduceAdd, next_push]
  have e1 := Ext.push s (.cells [bv, .int .i64 e] false)
  have e2 := Ext.push (s.push (.cells [bv, .int .i64 e] false)) (.cells [AV.nilsl, AV.int .i64 0] false)
  unfold F50.p7
  rw [build_0]
  have e3 := Ext.push ((s.push (.cells [bv, .int .i64 e] false)).push (.cells [AV.nilsl, AV.int .i64 0] false)) (.cells [] false)
  have ga : (((s.push (.cells [bv, .int .i64 e] false)).push (.cells [AV.nilsl, AV.int .i64 0] false)).push (.cells [] false)).get s.next = .cells [bv, .int .i64 e] false := by
    rw [e3.get _ (by simp only [next_push]; omega), e2.get _ (Nat.lt_succ_self _), get_push, if_pos rfl]
  have gx : (((s.push (.cells [bv, .int .i64 e] false)).push (.cells [AV.nilsl, AV.int .i64 0] false)).push (.cells [] false)).get (s.next + 1) = .cells [AV.nilsl, AV.int .i64 0] false := by
    rw [e3.get (s.next + 1) (Nat.lt_succ_self _)]
    simp only [get_push, next_push, if_true]
  have go : (((s.push (.cells [bv, .int .i64 e] false)).push (.cells [AV.nilsl, AV.int .i64 0] false)).push (.cells [] false)).get (s.next + 2) = .cells [] false := by
    simp only [get_push, next_push, if_true]
  have hnx : (((s.push (.cells [bv, .int .i64 e] false)).push (.cells [AV.nilsl, AV.int .i64 0] false)).push (.cells [] false)).next = s.next + 3 := rfl
  have ee := (e1.trans e2).trans e3
  have hn2 : ((s.push (.cells [bv, .int .i64 e] false)).push (.cells [AV.nilsl, AV.int .i64 0] false)).next = s.next + 2 := rfl
  rw [hn2]
  generalize ((s.push (.cells [bv, .int .i64 e] false)).push (.cells [AV.nilsl, AV.int .i64 0] false)).push (.cells [] false) = t at *
  unfold F50.p6
  rw [rld_all (n := 2) ga rfl]
  obtain ⟨w1, t1, r1, r2, r3, m1⟩ := rr_at ga (hv.ext ee) hu hb 64 k (by omega) (by omega)
  rw [r1, bnd]
  simp only [x2_0, x2_1]
  rw [new_all (n := 2) (s := t1) rfl rfl]
  have e4 := Ext.push t1 (.cells [w1, .int .i64 (rdNum b e 64).2.2] false)
  have gd : (t1.push (.cells [w1, .int .i64 (rdNum b e 64).2.2] false)).get t1.next = .cells [w1, .int .i64 (rdNum b e 64).2.2] false := by rw [get_push, if_pos rfl]
  have ld : t1.next < (t1.push (.cells [w1, .int .i64 (rdNum b e 64).2.2] false)).next := Nat.lt_succ_self _
  have hnt : (t1.push (.cells [w1, .int .i64 (rdNum b e 64).2.2] false)).next = t1.next + 1 := rfl
  unfold F50.p5
  have hn := rdNum_bnd hu e (most := 64) (by omega)
  have hni : (rdNum b e 64).1 = (((rdNum b e 64).1.toNat : Nat) : Int) := by omega
  have tn := r3.next
  have e34 := r3.trans e4
  have gx4 := (e34.get (s.next + 1) (by omega)).trans gx
  have go4 := (e34.get (s.next + 2) (by omega)).trans go
  have v4 := r2.ext e4
  have u1 := rdNum_u8 (e := e) (most := 64) hu
  have n1 := Nat.le_trans (rdNum_len (b := b) (e := e) (most := 64)) hb
  generalize t1.push (.cells [w1, .int .i64 (rdNum b e 64).2.2] false) = u at *
  have hvl : ∀ i o n d f, w1 = .sl i o n d f → i ≠ s.next + 2 := fun i o n d f q => by
    obtain ⟨_, _, _, _, q⟩ := m1 _ _ _ _ _ q
    have := isv_lt hv _ _ _ _ _ q
    omega
  obtain ⟨ov, lv, s', z1, z2, z3, z4⟩ := truns_loop (s0 := s) (d := t1.next) (xr := s.next + 1) (id := s.next + 2) k (by omega) hk2 (by omega) (by omega) (by omega) (by omega) (by omega) (by omega) (m := (rdNum b e 64).1.toNat) (by omega) (k + 2) 0 u w1 [] _ _ ⟨by omega, by omega, by omega⟩ (ee.trans e34) gd gx4 v4 hvl go4 u1 n1 rfl (by omega) (by omega)
  rw [Int.natCast_zero, ← hni] at z1
  rw [Nat.sub_zero] at z1 z2 z3
  rw [List.nil_append] at z2
  exact ⟨ov, lv, s', z1, z2, z3, z4⟩
theorem takeNums_run6 {bv : AV} {b : List Int} {e : Int} (hv : IsV s bv .u8 b) (hu : ∀ x ∈ b, 0 ≤ x ∧ x < 256) (hb : b.length ≤ 1000000) (k : Nat) (hk : 70 ≤ k) (hk2 : k ≤ 80000) : ∃ ov lv s', rn (k + 3) 51 [.agg [bv, .int .i64 e]] s = some (.tuple [ov, .agg [lv, .int .i64 (rtNums (rdNum b e 64).1.toNat (rdNum b e 64).2.1 (rdNum b e 64).2.2).2.2]], s') ∧ IsV s' ov .u64 (rtNums (rdNum b e 64).1.toNat (rdNum b e 64).2.1 (rdNum b e 64).2.2).1 ∧ IsV s' lv .u8 (rtNums (rdNum b e 64).1.toNat (rdNum b e 64).2.1 (rdNum b e 64).2.2).2.1 ∧ Ext s s' := by
  rw [F51.eq]
  unfold F51.f F51.p8
  rw [cells_agg, new_s, new_s]
  simp only [List.length_cons, List.length_nil, Nat.zero_add, Nat.reduceAdd, next_push]
  have e1 := Ext.push s (.cells [bv, .int .i64 e] false)
  have e2 := Ext.push (s.push (.cells [bv, .int .i64 e] false)) (.cells [AV.nilsl, AV.int .i64 0] false)
  unfold F51.p7
  rw [build_0]
  have e3 := Ext.push ((s.push (.cells [bv, .int .i64 e] false)).push (.cells [AV.nilsl, AV.int .i64 0] false)) (.cells [] false)
  have ga : (((s.push (.cells [bv, .int .i64 e] false)).push (.cells [AV.nilsl, AV.int .i64 0] false)).push (.cells [] false)).get s.next = .cells [bv, .int .i64 e] false := by
    rw [e3.get _ (by simp only [next_push]; omega), e2.get _ (Nat.lt_succ_self _), get_push, if_pos rfl]
  have gx : (((s.push (.cells [bv, .int .i64 e] false)).push (.cells [AV.nilsl, AV.int .i64 0] false)).push (.cells [] false)).get (s.next + 1) = .cells [AV.nilsl, AV.int .i64 0] false := by
    rw [e3.get (s.next + 1) (Nat.lt_succ_self _)]
    simp only [get_push, next_push, if_true]
  have go : (((s.push (.cells [bv, .int .i64 e] false)).push (.cells [AV.nilsl, AV.int .i64 0] false)).push (.cells [] false)).get (s.next + 2) = .cells [] false := by
    simp only [get_push, next_push, if_true]
  have hnx : (((s.push (.cells [bv, .int .i64 e] false)).push (.cells [AV.nilsl, AV.int .i64 0] false)).push (.cells [] false)).next = s.next + 3 := rfl
  have ee := (e1.trans e2).trans e3
  have hn2 : ((s.push (.cells [bv, .int .i64 e] false)).push (.cells [AV.nilsl, AV.int .i64 0] false)).next = s.next + 2 := rfl
  rw [hn2]
  generalize ((s.push (.cells [bv, .int .i64 e] false)).push (.cells [AV.nilsl, AV.int .i64 0] false)).push (.cells [] false) = t at *
  unfold F51.p6
  rw [rld_all (n := 2) ga rfl]
  obtain ⟨w1, t1, r1, r2, r3, m1⟩ := rr_at ga (hv.ext ee) hu hb 64 k (by omega) (by omega)
  rw [r1, bnd]
  simp only [x2_0, x2_1]
  rw [new_all (n := 2) (s := t1) rfl rfl]
  have e4 := Ext.push t1 (.cells [w1, .int .i64 (rdNum b e 64).2.2] false)
  have gd : (t1.push (.cells [w1, .int .i64 (rdNum b e 64).2.2] false)).get t1.next = .cells [w1, .int .i64 (rdNum b e 64).2.2] false := by rw [get_push, if_pos rfl]
  have ld : t1.next < (t1.push (.cells [w1, .int .i64 (rdNum b e 64).2.2] false)).next := Nat.lt_succ_self _
  have hnt : (t1.push (.cells [w1, .int .i64 (rdNum b e 64).2.2] false)).next = t1.next + 1 := rfl
  unfold F51.p5
  have hn := rdNum_bnd hu e (most := 64) (by omega)
  have hni : (rdNum b e 64).1 = (((rdNum b e 64).1.toNat : Nat) : Int) := by omega
  have tn := r3.next
  have e34 := r3.trans e4
  have gx4 := (e34.get (s.next + 1) (by omega)).trans gx
  have go4 := (e34.get (s.next + 2) (by omega)).trans go
  have v4 := r2.ext e4
  have u1 := rdNum_u8 (e := e) (most := 64) hu
  have n1 := Nat.le_trans (rdNum_len (b := b) (e := e) (most := 64)) hb
  generalize t1.push (.cells [w1, .int .i64 (rdNum b e 64).2.2] false) = u at *
  have hvl : ∀ i o n d f, w1 = .sl i o n d f → i ≠ s.next + 2 := fun i o n d f q => by
    obtain ⟨_, _, _, _, q⟩ := m1 _ _ _ _ _ q
    have := isv_lt hv _ _ _ _ _ q
    omega
  obtain ⟨ov, lv, s', z1, z2, z3, z4⟩ := tnums_loop (s0 := s) (d := t1.next) (xr := s.next + 1) (id := s.next + 2) k (by omega) hk2 (by omega) (by omega) (by omega) (by omega) (by omega) (by omega) (m := (rdNum b e 64).1.toNat) (by omega) (k + 2) 0 u w1 [] _ _ ⟨by omega, by omega, by omega⟩ (ee.trans e34) gd gx4 v4 hvl go4 u1 n1 rfl (by omega) (by omega)
  rw [Int.natCast_zero, ← hni] at z1
  rw [Nat.sub_zero] at z1 z2 z3
  rw [List.nil_append] at z2
  exact ⟨ov, lv, s', z1, z2, z3, z4⟩
end
end Go.Proofs.Ytkfdgegmahbkiaa.Sim
namespace Go.Proofs.Ytkfdgegmahbkiaa.Sim
set_option linter.unusedSimpArgs false
set_option linter.unusedVariables false

def tkStep (l : Int) (q : FI × List Int × Int) : FI × List Int × Int :=
  if l = 113 then rdStep (.num 5) q
  else if l = 100 then rdStep (.num 4) (rdStep (.who 3) q)
  else if l = 97 then rdStep (.small 6) q
  else if l = 111 then rdStep (.small 7) q
  else if l = 122 then rdStep (.small 8) q
  else if l = 105 then rdStep (.num 9) q
  else if l = 114 then rdStep (.num 10) q
  else if l = 101 then ({ q.1 with est := (rtRuns (rdNum q.2.1 q.2.2 64).1.toNat (rdNum q.2.1 q.2.2 64).2.1 (rdNum q.2.1 q.2.2 64).2.2).1 }, (rtRuns (rdNum q.2.1 q.2.2 64).1.toNat (rdNum q.2.1 q.2.2 64).2.1 (rdNum q.2.1 q.2.2 64).2.2).2)
  else if l = 120 then ({ q.1 with aux := (rtRuns (rdNum q.2.1 q.2.2 64).1.toNat (rdNum q.2.1 q.2.2 64).2.1 (rdNum q.2.1 q.2.2 64).2.2).1 }, (rtRuns (rdNum q.2.1 q.2.2 64).1.toNat (rdNum q.2.1 q.2.2 64).2.1 (rdNum q.2.1 q.2.2 64).2.2).2)
  else if l = 110 then ({ q.1 with done := (rtNums (rdNum q.2.1 q.2.2 64).1.toNat (rdNum q.2.1 q.2.2 64).2.1 (rdNum q.2.1 q.2.2 64).2.2).1 }, (rtNums (rdNum q.2.1 q.2.2 64).1.toNat (rdNum q.2.1 q.2.2 64).2.1 (rdNum q.2.1 q.2.2 64).2.2).2)
  else if l = 104 then ({ q.1 with held := (rtNums (rdNum q.2.1 q.2.2 64).1.toNat (rdNum q.2.1 q.2.2 64).2.1 (rdNum q.2.1 q.2.2 64).2.2).1 }, (rtNums (rdNum q.2.1 q.2.2 64).1.toNat (rdNum q.2.1 q.2.2 64).2.1 (rdNum q.2.1 q.2.2 64).2.2).2)
  else rdStep (.data 15) q

/-- The four rows of a call. -/
structure TR (s : Store) (a : Nat) (x : FI) (c : AVs) (lv : AV) (e : Int) (t : Store) : Prop where
  ga : t.get a = .cells (fcs x c) false
  gd : t.get (a + 1) = .cells [lv, .int .i64 e] false
  g2 : ∃ z cz, t.get (a + 2) = .cells (fcs z cz) false
  g3 : ∃ v w, t.get (a + 3) = .cells [v, .int .i64 w] false
  lt : a + 3 < t.next
  ext : Ext s t
  le : s.next ≤ a
section
variable {s t : Store} {a : Nat} {x : FI} {c : AVs} {lv : AV} {e : Int}
theorem TR.step (h : TR s a x c lv e t) {t' : Store} (e2 : Ext t t') : TR s a x c lv e t' :=
  ⟨(e2.get a (by have := h.lt; omega)).trans h.ga, (e2.get (a + 1) (by have := h.lt; omega)).trans h.gd, by obtain ⟨z, cz, q⟩ := h.g2; exact ⟨z, cz, (e2.get (a + 2) (by have := h.lt; omega)).trans q⟩, by obtain ⟨z, cz, q⟩ := h.g3; exact ⟨z, cz, (e2.get (a + 3) h.lt).trans q⟩, Nat.lt_of_lt_of_le h.lt e2.next, h.ext.trans e2, h.le⟩
theorem TR.put (h : TR s a x c lv e t) (x' : FI) (c' : AVs) (lv' : AV) (e' : Int) : TR s a x' c' lv' e' ((t.set a (.cells (fcs x' c') false)).set (a + 1) (.cells [lv', .int .i64 e'] false)) :=
  ⟨by rw [get_set, if_neg (by omega), get_set, if_pos rfl], by rw [get_set, if_pos rfl], by obtain ⟨z, cz, q⟩ := h.g2; exact ⟨z, cz, by rw [get_set, if_neg (by omega), get_set, if_neg (by omega)]; exact q⟩, by obtain ⟨z, cz, q⟩ := h.g3; exact ⟨z, cz, by rw [get_set, if_neg (by omega), get_set, if_neg (by omega)]; exact q⟩, h.lt,
    ⟨h.ext.next, fun j hj => by have := h.le; rw [get_set, if_neg (by omega), get_set, if_neg (by omega)]; exact h.ext.get j hj⟩, h.le⟩
theorem TR.fc (h : TR s a x c lv e t) {x' : FI} {c' : AVs} (hc : IsFc t c' x') (o p : AObj) : IsFc ((t.set a o).set (a + 1) p) c' x' := by
  have h1 := hc.fr (i := a) (.inl ⟨_, _, _, h.ga⟩) o
  exact h1.fr (.inr ⟨_, _, _, by rw [get_set, if_neg (by omega)]; exact h.gd⟩) p
theorem TR.v (h : TR s a x c lv e t) {v : AV} {b : List Int} (hv : IsV t v .u8 b) (o p : AObj) : IsV ((t.set a o).set (a + 1) p) v .u8 b := by
  have h1 := hv.fr (i := a) (.inr rfl) (.inl ⟨_, _, _, h.ga⟩) o
  exact h1.fr (.inr rfl) (.inr ⟨_, _, _, by rw [get_set, if_neg (by omega)]; exact h.gd⟩) p
/-- How a call ends. -/
theorem TR.fin (h : TR s a x c lv e t) {b : List Int} (hc : IsFc t c x) (hv : IsV t lv .u8 b) (k : Nat) : ∃ s', F24.p1 k (.ptr a 0 16) (.ptr (a + 1) 0 2) (.ptr (a + 2) 0 16) (.ptr (a + 3) 0 2) t = some (.tuple [.agg (fcs x c), .agg [lv, .int .i64 e]], s') ∧ IsFc s' c x ∧ IsV s' lv .u8 b ∧ Ext s s' := by
  obtain ⟨z, cz, g2⟩ := h.g2
  obtain ⟨v3, w3, g3⟩ := h.g3
  unfold F24.p1 F24.p0
  rw [rld_all (n := 16) h.ga rfl]
  simp only [bnd]
  rw [rld_all (n := 2) h.gd rfl]
  simp only [bnd]
  rw [rst_all (n := 16) g2 rfl rfl]
  simp only [bnd]
  rw [rld_all (n := 2) (s := t.set (a + 2) _) (cs := [lv, .int .i64 e]) (ro := false) (by rw [get_set, if_neg (by omega)]; exact h.gd) rfl]
  simp only [bnd, aSame_self]
  rw [rst_all (n := 2) (s := t.set (a + 2) _) (cs := [v3, .int .i64 w3]) (by rw [get_set, if_neg (by omega)]; exact g3) rfl rfl]
  simp only [bnd]
  rw [rld_all (n := 16) (s := (t.set (a + 2) _).set (a + 3) _) (cs := fcs x c) (ro := false) (by rw [get_set, if_neg (by omega), get_set, if_pos rfl]) rfl]
  rw [rld_all (n := 2) (s := (t.set (a + 2) _).set (a + 3) _) (cs := [lv, .int .i64 e]) (ro := false) (by rw [get_set, if_pos rfl]) rfl]
  have f2 : FRw t (a + 2) := .inl ⟨_, _, _, g2⟩
  have f3 : ∀ o, FRw (t.set (a + 2) o) (a + 3) := fun o => .inr ⟨_, _, _, by rw [get_set, if_neg (by omega)]; exact g3⟩
  refine ⟨_, rfl, (hc.fr f2 _).fr (f3 _) _, (hv.fr (.inr rfl) f2 _).fr (.inr rfl) (f3 _) _, ⟨h.ext.next, fun j hj => ?_⟩⟩
  have := h.le
  rw [get_set, if_neg (by omega), get_set, if_neg (by omega)]
  exact h.ext.get j hj
theorem TR.close (h : TR s a x c lv e t) {x' : FI} {c' : AVs} {lv' : AV} {e' : Int} {b : List Int} (hc : IsFc t c' x') (hv : IsV t lv' .u8 b) (k : Nat) : ∃ s', F24.p1 k (.ptr a 0 16) (.ptr (a + 1) 0 2) (.ptr (a + 2) 0 16) (.ptr (a + 3) 0 2) ((t.set a (.cells (fcs x' c') false)).set (a + 1) (.cells [lv', .int .i64 e'] false)) = some (.tuple [.agg (fcs x' c'), .agg [lv', .int .i64 e']], s') ∧ IsFc s' c' x' ∧ IsV s' lv' .u8 b ∧ Ext s s' :=
  (h.put x' c' lv' e').fin (h.fc hc _ _) (h.v hv _ _) k
theorem IsFc.re {s : Store} {c : AVs} {x x' : FI} (h : IsFc s c x) (h1 : x'.est = x.est) (h2 : x'.aux = x.aux) (h3 : x'.done = x.done) (h4 : x'.held = x.held) (h5 : x'.data = x.data) : IsFc s c x' := ⟨h1 ▸ h.est, h2 ▸ h.aux, h3 ▸ h.done, h4 ▸ h.held, h5 ▸ h.data⟩
end
theorem take_run6 {s : Store} {x : FI} {c : AVs} {bv : AV} {b : List Int} {e : Int} (hc : IsFc s c x) (hv : IsV s bv .u8 b) (hu : ∀ x ∈ b, 0 ≤ x ∧ x < 256) (hb : b.length ≤ 1000000) (l : Int) (k : Nat) (hk : 70 ≤ k) (hk2 : k ≤ 79000) :
    ∃ c' lv s', rn (k + 4) 24 [.agg (fcs x c), .int .u8 l, .agg [bv, .int .i64 e]] s = some (.tuple [.agg (fcs (tkStep l (x, b, e)).1 c'), .agg [lv, .int .i64 (tkStep l (x, b, e)).2.2]], s') ∧ IsFc s' c' (tkStep l (x, b, e)).1 ∧ IsV s' lv .u8 (tkStep l (x, b, e)).2.1 ∧ Ext s s' := by
  rw [F24.eq]
  unfold F24.f F24.p5
  have hz : ([AV.int .u8 0, AV.int .u8 0, AV.int .u8 0, AV.int .u8 0, AV.int .u64 0, AV.int .u64 0, AV.int .u32 0, AV.int .u32 0, AV.int .u32 0, AV.int .u64 0, AV.int .u64 0, AV.nilsl, AV.nilsl, AV.nilsl, AV.nilsl, AV.nilsl] : List AV) = fcs FI.zero cN := rfl
  rw [cells_agg, new_s, cells_agg, new_s, hz, new_s, new_s]
  simp only [List.length_cons, List.length_nil, Nat.zero_add, Nat.reduceAdd, next_push, show ∀ (y : FI) (d : AVs), (fcs y d).length = 16 from fun _ _ => rfl]
  have e1 := Ext.push s (.cells (fcs x c) false)
  have e2 := Ext.push (s.push (.cells (fcs x c) false)) (.cells [bv, .int .i64 e] false)
  have e3 := Ext.push ((s.push (.cells (fcs x c) false)).push (.cells [bv, .int .i64 e] false)) (.cells (fcs FI.zero cN) false)
  have e4 := Ext.push (((s.push (.cells (fcs x c) false)).push (.cells [bv, .int .i64 e] false)).push (.cells (fcs FI.zero cN) false)) (.cells [AV.nilsl, AV.int .i64 0] false)
  have ee := ((e1.trans e2).trans e3).trans e4
  have R : TR s s.next x c bv e ((((s.push (.cells (fcs x c) false)).push (.cells [bv, .int .i64 e] false)).push (.cells (fcs FI.zero cN) false)).push (.cells [AV.nilsl, AV.int .i64 0] false)) :=
    ⟨by simp only [get_push, next_push]; rw [if_neg (by omega), if_neg (by omega), if_neg (by omega), if_pos trivial], by simp only [get_push, next_push]; rw [if_neg (by omega), if_neg (by omega), if_pos trivial], ⟨FI.zero, cN, by simp only [get_push, next_push]; rw [if_neg (by omega), if_pos trivial]⟩, ⟨.nilsl, 0, by simp only [get_push, next_push]; rw [if_pos trivial]⟩, by simp only [next_push]; omega, ee, Nat.le_refl _⟩
  have hct := hc.ext ee
  have hvt := hv.ext ee
  generalize (((s.push (.cells (fcs x c) false)).push (.cells [bv, .int .i64 e] false)).push (.cells (fcs FI.zero cN) false)).push (.cells [AV.nilsl, AV.int .i64 0] false) = t at *
  unfold F24.p4 F24.p3 F24.p2 tkStep
  have hne : s.next + 1 ≠ s.next := by omega
  rw [eql_i]
  by_cases c113 : l = 113
  · rw [show (l == 113) = true from by simp [c113], if_t, if_pos c113, rld_all (n := 2) R.gd rfl]
    obtain ⟨w, t1, r1, r2, r3, _⟩ := rr_at R.gd hvt hu hb 18446744073709551615 (k + 1) (by omega) (by omega)
    have hn := rdNum_bnd hu e (most := 18446744073709551615) (by omega)
    have R1 := R.step r3
    rw [show k + 3 = k + 1 + 2 from rfl, r1, bnd]
    simp only [x2_0, x2_1, fld_p, Nat.zero_add]
    rw [st_cell (off := 5) (ep := 16) (v := .int .u64 (rdNum b e 18446744073709551615).1) R1.ga rfl (by omega) (fun f => rfl)]
    rw [rst_all (n := 2) (s := t1.set s.next _) (cs := [bv, .int .i64 e]) (by rw [get_set, if_neg hne]; exact R1.gd) rfl rfl]
    obtain ⟨s', z1, z2, z3, z4⟩ := R1.close (x' := setF x 5 (rdNum b e 18446744073709551615).1) (c' := c) (lv' := w) (e' := (rdNum b e 18446744073709551615).2.2) ((hct.ext r3).re rfl rfl rfl rfl rfl) r2 (k + 1 + 2)
    exact ⟨c, w, s', z1, z2, z3, z4⟩
  rw [show (l == 113) = false from by simpa using c113, if_f, if_neg c113]
  rw [eql_i]
  by_cases c100 : l = 100
  · rw [show (l == 100) = true from by simp [c100], if_t, if_pos c100, rld_all (n := 2) R.gd rfl]
    obtain ⟨w, t1, r1, r2, r3, _⟩ := rr_at R.gd hvt hu hb 255 (k + 1) (by omega) (by omega)
    have hn := rdNum_bnd hu e (most := 255) (by omega)
    have R1 := R.step r3
    rw [show k + 3 = k + 1 + 2 from rfl, r1, bnd]
    simp only [x2_0, x2_1, fld_p, Nat.zero_add, Nat.add_zero, Nat.reduceAdd]
    rw [rst_all (n := 2) R1.gd rfl rfl, conv_i, w_u8 hn.1 (by omega)]
    rw [st_cell (off := 3) (ep := 16) (v := .int .u8 (rdNum b e 255).1) (cs := fcs x c) (by rw [get_set, if_neg (Ne.symm hne)]; exact R1.ga) rfl (by omega) (fun f => rfl), set_comm hne]
    have hset : (fcs x c).set 3 (.int .u8 (rdNum b e 255).1) = fcs (setF x 3 (rdNum b e 255).1) c := rfl
    rw [hset]
    have R2 := R1.put (setF x 3 (rdNum b e 255).1) c w (rdNum b e 255).2.2
    have hc2 := R1.fc (x' := setF x 3 (rdNum b e 255).1) ((hct.ext r3).re rfl rfl rfl rfl rfl) (.cells (fcs (setF x 3 (rdNum b e 255).1) c) false) (.cells [w, .int .i64 (rdNum b e 255).2.2] false)
    have hv2 := R1.v r2 (.cells (fcs (setF x 3 (rdNum b e 255).1) c) false) (.cells [w, .int .i64 (rdNum b e 255).2.2] false)
    generalize (t1.set s.next (.cells (fcs (setF x 3 (rdNum b e 255).1) c) false)).set (s.next + 1) (.cells [w, .int .i64 (rdNum b e 255).2.2] false) = u at *
    rw [rld_all (n := 2) R2.gd rfl]
    have u1 := rdNum_u8 (e := e) (most := 255) hu
    have n1 := Nat.le_trans (rdNum_len (b := b) (e := e) (most := 255)) hb
    obtain ⟨w2, t2, q1, q2, q3, _⟩ := rr_at R2.gd hv2 u1 n1 18446744073709551615 (k + 1) (by omega) (by omega)
    have R3 := R2.step q3
    rw [q1, bnd]
    simp only [x2_0, x2_1]
    rw [st_cell (off := 4) (ep := 16) (v := .int .u64 (rdNum (rdNum b e 255).2.1 (rdNum b e 255).2.2 18446744073709551615).1) R3.ga rfl (by omega) (fun f => rfl)]
    rw [rst_all (n := 2) (s := t2.set s.next _) (cs := [w, .int .i64 (rdNum b e 255).2.2]) (by rw [get_set, if_neg hne]; exact R3.gd) rfl rfl]
    obtain ⟨s', z1, z2, z3, z4⟩ := R3.close (x' := setF (setF x 3 (rdNum b e 255).1) 4 (rdNum (rdNum b e 255).2.1 (rdNum b e 255).2.2 18446744073709551615).1) (c' := c) (lv' := w2) (e' := (rdNum (rdNum b e 255).2.1 (rdNum b e 255).2.2 18446744073709551615).2.2) ((hc2.ext q3).re rfl rfl rfl rfl rfl) q2 (k + 1 + 2)
    exact ⟨c, w2, s', z1, z2, z3, z4⟩
  rw [show (l == 100) = false from by simpa using c100, if_f, if_neg c100]
  rw [eql_i]
  by_cases c97 : l = 97
  · rw [show (l == 97) = true from by simp [c97], if_t, if_pos c97, rld_all (n := 2) R.gd rfl]
    obtain ⟨w, t1, r1, r2, r3, _⟩ := rr_at R.gd hvt hu hb 4294967295 (k + 1) (by omega) (by omega)
    have hn := rdNum_bnd hu e (most := 4294967295) (by omega)
    have R1 := R.step r3
    rw [show k + 3 = k + 1 + 2 from rfl, r1, bnd]
    simp only [x2_0, x2_1, fld_p, Nat.zero_add]
    rw [rst_all (n := 2) R1.gd rfl rfl, conv_i, w_u32 hn.1 (by omega)]
    rw [st_cell (off := 6) (ep := 16) (v := .int .u32 (rdNum b e 4294967295).1) (cs := fcs x c) (by rw [get_set, if_neg (Ne.symm hne)]; exact R1.ga) rfl (by omega) (fun f => rfl), set_comm hne]
    obtain ⟨s', z1, z2, z3, z4⟩ := R1.close (x' := setF x 6 (rdNum b e 4294967295).1) (c' := c) (lv' := w) (e' := (rdNum b e 4294967295).2.2) ((hct.ext r3).re rfl rfl rfl rfl rfl) r2 (k + 1 + 2)
    exact ⟨c, w, s', z1, z2, z3, z4⟩
  rw [show (l == 97) = false from by simpa using c97, if_f, if_neg c97]
  rw [eql_i]
  by_cases c111 : l = 111
  · rw [show (l == 111) = true from by simp [c111], if_t, if_pos c111, rld_all (n := 2) R.gd rfl]
    obtain ⟨w, t1, r1, r2, r3, _⟩ := rr_at R.gd hvt hu hb 4294967295 (k + 1) (by omega) (by omega)
    have hn := rdNum_bnd hu e (most := 4294967295) (by omega)
    have R1 := R.step r3
    rw [show k + 3 = k + 1 + 2 from rfl, r1, bnd]
    simp only [x2_0, x2_1, fld_p, Nat.zero_add]
    rw [rst_all (n := 2) R1.gd rfl rfl, conv_i, w_u32 hn.1 (by omega)]
    rw [st_cell (off := 7) (ep := 16) (v := .int .u32 (rdNum b e 4294967295).1) (cs := fcs x c) (by rw [get_set, if_neg (Ne.symm hne)]; exact R1.ga) rfl (by omega) (fun f => rfl), set_comm hne]
    obtain ⟨s', z1, z2, z3, z4⟩ := R1.close (x' := setF x 7 (rdNum b e 4294967295).1) (c' := c) (lv' := w) (e' := (rdNum b e 4294967295).2.2) ((hct.ext r3).re rfl rfl rfl rfl rfl) r2 (k + 1 + 2)
    exact ⟨c, w, s', z1, z2, z3, z4⟩
  rw [show (l == 111) = false from by simpa using c111, if_f, if_neg c111]
  rw [eql_i]
  by_cases c122 : l = 122
  · rw [show (l == 122) = true from by simp [c122], if_t, if_pos c122, rld_all (n := 2) R.gd rfl]
    obtain ⟨w, t1, r1, r2, r3, _⟩ := rr_at R.gd hvt hu hb 4294967295 (k + 1) (by omega) (by omega)
    have hn := rdNum_bnd hu e (most := 4294967295) (by omega)
    have R1 := R.step r3
    rw [show k + 3 = k + 1 + 2 from rfl, r1, bnd]
    simp only [x2_0, x2_1, fld_p, Nat.zero_add]
    rw [rst_all (n := 2) R1.gd rfl rfl, conv_i, w_u32 hn.1 (by omega)]
    rw [st_cell (off := 8) (ep := 16) (v := .int .u32 (rdNum b e 4294967295).1) (cs := fcs x c) (by rw [get_set, if_neg (Ne.symm hne)]; exact R1.ga) rfl (by omega) (fun f => rfl), set_comm hne]
    obtain ⟨s', z1, z2, z3, z4⟩ := R1.close (x' := setF x 8 (rdNum b e 4294967295).1) (c' := c) (lv' := w) (e' := (rdNum b e 4294967295).2.2) ((hct.ext r3).re rfl rfl rfl rfl rfl) r2 (k + 1 + 2)
    exact ⟨c, w, s', z1, z2, z3, z4⟩
  rw [show (l == 122) = false from by simpa using c122, if_f, if_neg c122]
  rw [eql_i]
  by_cases c105 : l = 105
  · rw [show (l == 105) = true from by simp [c105], if_t, if_pos c105, rld_all (n := 2) R.gd rfl]
    obtain ⟨w, t1, r1, r2, r3, _⟩ := rr_at R.gd hvt hu hb 18446744073709551615 (k + 1) (by omega) (by omega)
    have hn := rdNum_bnd hu e (most := 18446744073709551615) (by omega)
    have R1 := R.step r3
    rw [show k + 3 = k + 1 + 2 from rfl, r1, bnd]
    simp only [x2_0, x2_1, fld_p, Nat.zero_add]
    rw [st_cell (off := 9) (ep := 16) (v := .int .u64 (rdNum b e 18446744073709551615).1) R1.ga rfl (by omega) (fun f => rfl)]
    rw [rst_all (n := 2) (s := t1.set s.next _) (cs := [bv, .int .i64 e]) (by rw [get_set, if_neg hne]; exact R1.gd) rfl rfl]
    obtain ⟨s', z1, z2, z3, z4⟩ := R1.close (x' := setF x 9 (rdNum b e 18446744073709551615).1) (c' := c) (lv' := w) (e' := (rdNum b e 18446744073709551615).2.2) ((hct.ext r3).re rfl rfl rfl rfl rfl) r2 (k + 1 + 2)
    exact ⟨c, w, s', z1, z2, z3, z4⟩
  rw [show (l == 105) = false from by simpa using c105, if_f, if_neg c105]
  rw [eql_i]
  by_cases c114 : l = 114
  · rw [show (l == 114) = true from by simp [c114], if_t, if_pos c114, rld_all (n := 2) R.gd rfl]
    obtain ⟨w, t1, r1, r2, r3, _⟩ := rr_at R.gd hvt hu hb 18446744073709551615 (k + 1) (by omega) (by omega)
    have hn := rdNum_bnd hu e (most := 18446744073709551615) (by omega)
    have R1 := R.step r3
    rw [show k + 3 = k + 1 + 2 from rfl, r1, bnd]
    simp only [x2_0, x2_1, fld_p, Nat.zero_add]
    rw [st_cell (off := 10) (ep := 16) (v := .int .u64 (rdNum b e 18446744073709551615).1) R1.ga rfl (by omega) (fun f => rfl)]
    rw [rst_all (n := 2) (s := t1.set s.next _) (cs := [bv, .int .i64 e]) (by rw [get_set, if_neg hne]; exact R1.gd) rfl rfl]
    obtain ⟨s', z1, z2, z3, z4⟩ := R1.close (x' := setF x 10 (rdNum b e 18446744073709551615).1) (c' := c) (lv' := w) (e' := (rdNum b e 18446744073709551615).2.2) ((hct.ext r3).re rfl rfl rfl rfl rfl) r2 (k + 1 + 2)
    exact ⟨c, w, s', z1, z2, z3, z4⟩
  rw [show (l == 114) = false from by simpa using c114, if_f, if_neg c114]
  rw [eql_i]
  by_cases c101 : l = 101
  · rw [show (l == 101) = true from by simp [c101], if_t, if_pos c101, rld_all (n := 2) R.gd rfl]
    obtain ⟨ov, w, t1, r1, r0, r2, r3⟩ := takeRuns_run6 (e := e) hvt hu hb k hk (by omega)
    have R1 := R.step r3
    rw [r1, bnd]
    simp only [x2_0, x2_1, fld_p, Nat.zero_add]
    have hca : ∀ {α : Type} (f : List AV → Option α), aCells ov f = f [ov] := by
      intro α f
      rcases r0 with ⟨q, _⟩ | ⟨_, _, q, _⟩ <;> subst q <;> rfl
    rw [st_cell (off := 11) (ep := 16) (v := ov) R1.ga rfl (by omega) hca]
    rw [rst_all (n := 2) (s := t1.set s.next _) (cs := [bv, .int .i64 e]) (by rw [get_set, if_neg hne]; exact R1.gd) rfl rfl]
    have h0 := hct.ext r3
    obtain ⟨s', z1, z2, z3, z4⟩ := R1.close (x' := { x with est := (rtRuns (rdNum b e 64).1.toNat (rdNum b e 64).2.1 (rdNum b e 64).2.2).1 }) (c' := { c with e := ov }) (lv' := w) (e' := (rtRuns (rdNum b e 64).1.toNat (rdNum b e 64).2.1 (rdNum b e 64).2.2).2.2) ⟨r0, h0.aux, h0.done, h0.held, h0.data⟩ r2 (k + 3)
    exact ⟨_, w, s', z1, z2, z3, z4⟩
  rw [show (l == 101) = false from by simpa using c101, if_f, if_neg c101]
  rw [eql_i]
  by_cases c120 : l = 120
  · rw [show (l == 120) = true from by simp [c120], if_t, if_pos c120, rld_all (n := 2) R.gd rfl]
    obtain ⟨ov, w, t1, r1, r0, r2, r3⟩ := takeRuns_run6 (e := e) hvt hu hb k hk (by omega)
    have R1 := R.step r3
    rw [r1, bnd]
    simp only [x2_0, x2_1, fld_p, Nat.zero_add]
    have hca : ∀ {α : Type} (f : List AV → Option α), aCells ov f = f [ov] := by
      intro α f
      rcases r0 with ⟨q, _⟩ | ⟨_, _, q, _⟩ <;> subst q <;> rfl
    rw [st_cell (off := 12) (ep := 16) (v := ov) R1.ga rfl (by omega) hca]
    rw [rst_all (n := 2) (s := t1.set s.next _) (cs := [bv, .int .i64 e]) (by rw [get_set, if_neg hne]; exact R1.gd) rfl rfl]
    have h0 := hct.ext r3
    obtain ⟨s', z1, z2, z3, z4⟩ := R1.close (x' := { x with aux := (rtRuns (rdNum b e 64).1.toNat (rdNum b e 64).2.1 (rdNum b e 64).2.2).1 }) (c' := { c with a := ov }) (lv' := w) (e' := (rtRuns (rdNum b e 64).1.toNat (rdNum b e 64).2.1 (rdNum b e 64).2.2).2.2) ⟨h0.est, r0, h0.done, h0.held, h0.data⟩ r2 (k + 3)
    exact ⟨_, w, s', z1, z2, z3, z4⟩
  rw [show (l == 120) = false from by simpa using c120, if_f, if_neg c120]
  rw [eql_i]
  by_cases c110 : l = 110
  · rw [show (l == 110) = true from by simp [c110], if_t, if_pos c110, rld_all (n := 2) R.gd rfl]
    obtain ⟨ov, w, t1, r1, r0, r2, r3⟩ := takeNums_run6 (e := e) hvt hu hb k hk (by omega)
    have R1 := R.step r3
    rw [r1, bnd]
    simp only [x2_0, x2_1, fld_p, Nat.zero_add]
    have hca : ∀ {α : Type} (f : List AV → Option α), aCells ov f = f [ov] := by
      intro α f
      rcases r0 with ⟨q, _⟩ | ⟨_, _, _, _, q, _⟩ <;> subst q <;> rfl
    rw [st_cell (off := 13) (ep := 16) (v := ov) R1.ga rfl (by omega) hca]
    rw [rst_all (n := 2) (s := t1.set s.next _) (cs := [bv, .int .i64 e]) (by rw [get_set, if_neg hne]; exact R1.gd) rfl rfl]
    have h0 := hct.ext r3
    obtain ⟨s', z1, z2, z3, z4⟩ := R1.close (x' := { x with done := (rtNums (rdNum b e 64).1.toNat (rdNum b e 64).2.1 (rdNum b e 64).2.2).1 }) (c' := { c with d := ov }) (lv' := w) (e' := (rtNums (rdNum b e 64).1.toNat (rdNum b e 64).2.1 (rdNum b e 64).2.2).2.2) ⟨h0.est, h0.aux, r0, h0.held, h0.data⟩ r2 (k + 3)
    exact ⟨_, w, s', z1, z2, z3, z4⟩
  rw [show (l == 110) = false from by simpa using c110, if_f, if_neg c110]
  rw [eql_i]
  by_cases c104 : l = 104
  · rw [show (l == 104) = true from by simp [c104], if_t, if_pos c104, rld_all (n := 2) R.gd rfl]
    obtain ⟨ov, w, t1, r1, r0, r2, r3⟩ := takeNums_run6 (e := e) hvt hu hb k hk (by omega)
    have R1 := R.step r3
    rw [r1, bnd]
    simp only [x2_0, x2_1, fld_p, Nat.zero_add]
    have hca : ∀ {α : Type} (f : List AV → Option α), aCells ov f = f [ov] := by
      intro α f
      rcases r0 with ⟨q, _⟩ | ⟨_, _, _, _, q, _⟩ <;> subst q <;> rfl
    rw [st_cell (off := 14) (ep := 16) (v := ov) R1.ga rfl (by omega) hca]
    rw [rst_all (n := 2) (s := t1.set s.next _) (cs := [bv, .int .i64 e]) (by rw [get_set, if_neg hne]; exact R1.gd) rfl rfl]
    have h0 := hct.ext r3
    obtain ⟨s', z1, z2, z3, z4⟩ := R1.close (x' := { x with held := (rtNums (rdNum b e 64).1.toNat (rdNum b e 64).2.1 (rdNum b e 64).2.2).1 }) (c' := { c with h := ov }) (lv' := w) (e' := (rtNums (rdNum b e 64).1.toNat (rdNum b e 64).2.1 (rdNum b e 64).2.2).2.2) ⟨h0.est, h0.aux, h0.done, r0, h0.data⟩ r2 (k + 3)
    exact ⟨_, w, s', z1, z2, z3, z4⟩
  rw [show (l == 104) = false from by simpa using c104, if_f, if_neg c104]
  rw [rld_all (n := 2) R.gd rfl]
  obtain ⟨rv, w, t1, r1, r0, r2, _, r3, _⟩ := rr_row (e := e) (most := 65536) hvt hu hb (by omega) k (by omega) (by omega)
  have R1 := R.step r3
  rw [r1, bnd]
  simp only [x2_0, x2_1, fld_p, Nat.zero_add]
  rw [st_cell (off := 15) (ep := 16) (v := rv) R1.ga rfl (by omega) (fun f => cellsW r0 f)]
  rw [rst_all (n := 2) (s := t1.set s.next _) (cs := [bv, .int .i64 e]) (by rw [get_set, if_neg hne]; exact R1.gd) rfl rfl]
  have h0 := hct.ext r3
  obtain ⟨s', z1, z2, z3, z4⟩ := R1.close (x' := { x with data := (rdRow b e 65536).1 }) (c' := { c with b := rv }) (lv' := w) (e' := (rdRow b e 65536).2.2) ⟨h0.est, h0.aux, h0.done, h0.held, r0⟩ r2 (k + 3)
  exact ⟨_, w, s', z1, z2, z3, z4⟩
end Go.Proofs.Ytkfdgegmahbkiaa.Sim
namespace Go.Proofs.Ytkfdgegmahbkiaa.Sim
set_option linter.unusedSimpArgs false
set_option linter.unusedVariables false

def hOf (kd : Int) : ByteArray :=
  if kd = 1 then ⟨#[113, 100, 97, 111, 122, 98]⟩ else if kd = 2 ∨ kd = 5 ∨ kd = 10 then ⟨#[113]⟩ else if kd = 3 then ⟨#[100, 97]⟩ else if kd = 4 then ⟨#[100, 97, 111, 122, 98]⟩
  else if kd = 6 then ⟨#[105, 114, 101]⟩ else if kd = 7 then ⟨#[105, 114, 101, 120]⟩ else if kd = 8 then ⟨#[105, 101]⟩ else if kd = 9 then ⟨#[105, 110, 104]⟩ else ⟨#[]⟩
def lets (h : ByteArray) : List Int := h.data.toList.map fun x => (x.toNat : Int)
theorem fields_run (kd : Int) (s : Store) (k : Nat) : rn (k + 1) 23 [.int .u8 kd] s = some (.str (hOf kd), s) := by
  rw [F23.eq]
  unfold F23.f F23.p7 F23.p6 F23.p5 F23.p4 F23.p3 F23.p2 F23.p1 F23.p0 hOf
  have hb : ∀ n : Int, (kd == n) = decide (kd = n) := fun n => rfl
  simp only [eql_i, hb]
  by_cases c1 : kd = 1
  · simp only [c1, decide_true, if_t, if_true]
  · by_cases c2 : kd = 2
    · subst c2; rfl
    · by_cases c5 : kd = 5
      · subst c5; rfl
      · by_cases c10 : kd = 10
        · subst c10; rfl
        · by_cases c3 : kd = 3
          · subst c3; rfl
          · by_cases c4 : kd = 4
            · subst c4; rfl
            · by_cases c6 : kd = 6
              · subst c6; rfl
              · by_cases c7 : kd = 7
                · subst c7; rfl
                · by_cases c8 : kd = 8
                  · subst c8; rfl
                  · by_cases c9 : kd = 9
                    · subst c9; rfl
                    · simp only [c1, c2, c3, c4, c5, c6, c7, c8, c9, c10, decide_false, if_f, if_false, or_false, or_self]
theorem hOf_size (kd : Int) : (hOf kd).size ≤ 6 := by
  unfold hOf
  repeat' split
  all_goals decide

/-- A letter's fields. -/
def opsL (l : Int) : List WOp :=
  if l = 113 then [.num 5] else if l = 100 then [.who 3, .num 4] else if l = 97 then [.small 6] else if l = 111 then [.small 7] else if l = 122 then [.small 8] else if l = 105 then [.num 9]
  else if l = 114 then [.num 10] else if l = 101 then [.runs 11] else if l = 120 then [.runs 12] else if l = 110 then [.nums 13] else if l = 104 then [.nums 14] else [.data 15]
theorem wops_lets (kd : Int) : wopsOf kd = (lets (hOf kd)).flatMap opsL := by
  by_cases c1 : kd = 1
  · subst c1; decide
  · by_cases c4 : kd = 4
    · subst c4; decide
    · by_cases c2 : kd = 2
      · subst c2; decide
      · by_cases c5 : kd = 5
        · subst c5; decide
        · by_cases c10 : kd = 10
          · subst c10; decide
          · by_cases c3 : kd = 3
            · subst c3; decide
            · by_cases c6 : kd = 6
              · subst c6; decide
              · by_cases c7 : kd = 7
                · subst c7; decide
                · by_cases c8 : kd = 8
                  · subst c8; decide
                  · by_cases c9 : kd = 9
                    · subst c9; decide
                    · unfold wopsOf hOf
                      simp only [c1, c2, c3, c4, c5, c6, c7, c8, c9, c10, if_false, or_false, or_self]
                      decide

/-! ### what is wrong stays wrong -/
theorem rdNum_bad {b : List Int} {e : Int} (h : e ≠ 0) (most : Int) : rdNum b e most = (0, b, e) := by
  unfold rdNum; rw [if_pos h]
theorem rdRow_bad {b : List Int} {e : Int} (h : e ≠ 0) (most : Int) : rdRow b e most = ([], b, e) := by
  unfold rdRow; rw [if_pos h]
theorem rdRun_bad {b : List Int} {e : Int} (h : e ≠ 0) : (rdRun b e).2 = (b, e) := by
  unfold rdRun
  simp only [rdNum_bad h]
theorem rdRuns_bad : ∀ (n : Nat) {b : List Int} {e : Int}, e ≠ 0 → (rdRuns n b e).2 = (b, e)
  | 0, _, _, _ => rfl
  | n + 1, b, e, h => by
    show (rdRuns n (rdRun b e).2.1 (rdRun b e).2.2).2 = _
    rw [rdRun_bad h]
    exact rdRuns_bad n h
theorem rdNums_bad : ∀ (n : Nat) {b : List Int} {e : Int}, e ≠ 0 → (rdNums n b e).2 = (b, e)
  | 0, _, _, _ => rfl
  | n + 1, b, e, h => by
    show (rdNums n (rdNum b e 18446744073709551615).2.1 (rdNum b e 18446744073709551615).2.2).2 = _
    rw [rdNum_bad h]
    exact rdNums_bad n h
theorem rtRuns_bad : ∀ (n : Nat) {b : List Int} {e : Int}, e ≠ 0 → (rtRuns n b e).2 = (b, e)
  | 0, _, _, _ => rfl
  | n + 1, b, e, h => by simp only [rtRuns]; rw [if_neg h]
theorem rtNums_bad : ∀ (n : Nat) {b : List Int} {e : Int}, e ≠ 0 → (rtNums n b e).2 = (b, e)
  | 0, _, _, _ => rfl
  | n + 1, b, e, h => by simp only [rtNums]; rw [if_neg h]
theorem runs_rt : ∀ (n : Nat) (b : List Int) (e : Int), (rdRuns n b e).2.2 = (rtRuns n b e).2.2 ∧ ((rdRuns n b e).2.2 = 0 → rdRuns n b e = rtRuns n b e)
  | 0, _, _ => ⟨rfl, fun _ => rfl⟩
  | n + 1, b, e => by
    by_cases h : e = 0
    · obtain ⟨i1, i2⟩ := runs_rt n (rdRun b e).2.1 (rdRun b e).2.2
      simp only [rtRuns, rdRuns]
      rw [if_pos h]
      exact ⟨i1, fun q => by rw [i2 q]⟩
    · rw [rdRuns_bad _ h, rtRuns_bad _ h]
      exact ⟨rfl, fun q => absurd q h⟩
theorem nums_rt : ∀ (n : Nat) (b : List Int) (e : Int), (rdNums n b e).2.2 = (rtNums n b e).2.2 ∧ ((rdNums n b e).2.2 = 0 → rdNums n b e = rtNums n b e)
  | 0, _, _ => ⟨rfl, fun _ => rfl⟩
  | n + 1, b, e => by
    by_cases h : e = 0
    · obtain ⟨i1, i2⟩ := nums_rt n (rdNum b e 18446744073709551615).2.1 (rdNum b e 18446744073709551615).2.2
      simp only [rtNums, rdNums]
      rw [if_pos h]
      exact ⟨i1, fun q => by rw [i2 q]⟩
    · rw [rdNums_bad _ h, rtNums_bad _ h]
      exact ⟨rfl, fun q => absurd q h⟩
theorem rdStep_bad (o : WOp) {q : FI × List Int × Int} (h : q.2.2 ≠ 0) : (rdStep o q).2.2 = q.2.2 := by
  cases o <;> simp only [rdStep, rdNum_bad h, rdRow_bad h, rdRuns_bad _ h, rdNums_bad _ h]
theorem tkStep_bad (l : Int) {q : FI × List Int × Int} (h : q.2.2 ≠ 0) : (tkStep l q).2.2 = q.2.2 := by
  by_cases c113 : l = 113
  · subst c113
    show (rdStep (.num 5) q).2.2 = _
    exact rdStep_bad _ h
  · skip
    by_cases c100 : l = 100
    · subst c100
      show (rdStep (.num 4) (rdStep (.who 3) q)).2.2 = _
      rw [rdStep_bad _ (by rw [rdStep_bad _ h]; exact h), rdStep_bad _ h]
    · skip
      by_cases c97 : l = 97
      · subst c97
        show (rdStep (.small 6) q).2.2 = _
        exact rdStep_bad _ h
      · skip
        by_cases c111 : l = 111
        · subst c111
          show (rdStep (.small 7) q).2.2 = _
          exact rdStep_bad _ h
        · skip
          by_cases c122 : l = 122
          · subst c122
            show (rdStep (.small 8) q).2.2 = _
            exact rdStep_bad _ h
          · skip
            by_cases c105 : l = 105
            · subst c105
              show (rdStep (.num 9) q).2.2 = _
              exact rdStep_bad _ h
            · skip
              by_cases c114 : l = 114
              · subst c114
                show (rdStep (.num 10) q).2.2 = _
                exact rdStep_bad _ h
              · skip
                by_cases c101 : l = 101
                · subst c101
                  show (rtRuns (rdNum q.2.1 q.2.2 64).1.toNat (rdNum q.2.1 q.2.2 64).2.1 (rdNum q.2.1 q.2.2 64).2.2).2.2 = _
                  simp only [rdNum_bad h, rtRuns_bad _ h]
                · skip
                  by_cases c120 : l = 120
                  · subst c120
                    show (rtRuns (rdNum q.2.1 q.2.2 64).1.toNat (rdNum q.2.1 q.2.2 64).2.1 (rdNum q.2.1 q.2.2 64).2.2).2.2 = _
                    simp only [rdNum_bad h, rtRuns_bad _ h]
                  · skip
                    by_cases c110 : l = 110
                    · subst c110
                      show (rtNums (rdNum q.2.1 q.2.2 64).1.toNat (rdNum q.2.1 q.2.2 64).2.1 (rdNum q.2.1 q.2.2 64).2.2).2.2 = _
                      simp only [rdNum_bad h, rtNums_bad _ h]
                    · skip
                      by_cases c104 : l = 104
                      · subst c104
                        show (rtNums (rdNum q.2.1 q.2.2 64).1.toNat (rdNum q.2.1 q.2.2 64).2.1 (rdNum q.2.1 q.2.2 64).2.2).2.2 = _
                        simp only [rdNum_bad h, rtNums_bad _ h]
                      · skip
                        unfold tkStep
                        rw [if_neg c113, if_neg c100, if_neg c97, if_neg c111, if_neg c122, if_neg c105, if_neg c114, if_neg c101, if_neg c120, if_neg c110, if_neg c104]
                        exact rdStep_bad _ h
def RelQ (q q' : FI × List Int × Int) : Prop := q.2.2 = q'.2.2 ∧ (q.2.2 = 0 → q = q')
theorem opsL_bad (l : Int) {q : FI × List Int × Int} (h : q.2.2 ≠ 0) : ((opsL l).foldl (fun st op => rdStep op st) q).2.2 = q.2.2 := by
  unfold opsL
  repeat' split
  all_goals simp only [List.foldl_cons, List.foldl_nil]
  all_goals first | exact rdStep_bad _ h | (rw [rdStep_bad _ (by rw [rdStep_bad _ h]; exact h), rdStep_bad _ h])
theorem rel_step (l : Int) {q q' : FI × List Int × Int} (h : RelQ q q') : RelQ ((opsL l).foldl (fun st op => rdStep op st) q) (tkStep l q') := by
  by_cases he : q.2.2 = 0
  · have := h.2 he
    subst this
    have hr := runs_rt (rdNum q.2.1 q.2.2 64).1.toNat (rdNum q.2.1 q.2.2 64).2.1 (rdNum q.2.1 q.2.2 64).2.2
    have hn := nums_rt (rdNum q.2.1 q.2.2 64).1.toNat (rdNum q.2.1 q.2.2 64).2.1 (rdNum q.2.1 q.2.2 64).2.2
    by_cases c113 : l = 113
    · subst c113
      exact ⟨rfl, fun _ => rfl⟩
    · skip
      by_cases c100 : l = 100
      · subst c100
        exact ⟨rfl, fun _ => rfl⟩
      · skip
        by_cases c97 : l = 97
        · subst c97
          exact ⟨rfl, fun _ => rfl⟩
        · skip
          by_cases c111 : l = 111
          · subst c111
            exact ⟨rfl, fun _ => rfl⟩
          · skip
            by_cases c122 : l = 122
            · subst c122
              exact ⟨rfl, fun _ => rfl⟩
            · skip
              by_cases c105 : l = 105
              · subst c105
                exact ⟨rfl, fun _ => rfl⟩
              · skip
                by_cases c114 : l = 114
                · subst c114
                  exact ⟨rfl, fun _ => rfl⟩
                · skip
                  by_cases c101 : l = 101
                  · subst c101
                    exact ⟨hr.1, fun z => by
                      have z' := hr.2 z
                      show (({ q.1 with est := (rdRuns _ _ _).1 } : FI), (rdRuns _ _ _).2) = _
                      rw [z']
                      rfl⟩
                  · skip
                    by_cases c120 : l = 120
                    · subst c120
                      exact ⟨hr.1, fun z => by
                        have z' := hr.2 z
                        show (({ q.1 with aux := (rdRuns _ _ _).1 } : FI), (rdRuns _ _ _).2) = _
                        rw [z']
                        rfl⟩
                    · skip
                      by_cases c110 : l = 110
                      · subst c110
                        exact ⟨hn.1, fun z => by
                          have z' := hn.2 z
                          show (({ q.1 with done := (rdNums _ _ _).1 } : FI), (rdNums _ _ _).2) = _
                          rw [z']
                          rfl⟩
                      · skip
                        by_cases c104 : l = 104
                        · subst c104
                          exact ⟨hn.1, fun z => by
                            have z' := hn.2 z
                            show (({ q.1 with held := (rdNums _ _ _).1 } : FI), (rdNums _ _ _).2) = _
                            rw [z']
                            rfl⟩
                        · skip
                          unfold opsL tkStep
                          rw [if_neg c113, if_neg c100, if_neg c97, if_neg c111, if_neg c122, if_neg c105, if_neg c114, if_neg c101, if_neg c120, if_neg c110, if_neg c104, if_neg c113, if_neg c100, if_neg c97, if_neg c111, if_neg c122, if_neg c105, if_neg c114, if_neg c101, if_neg c120, if_neg c110, if_neg c104]
                          exact ⟨rfl, fun _ => rfl⟩
  · have he' : q'.2.2 ≠ 0 := by rw [← h.1]; exact he
    refine ⟨by rw [opsL_bad l he, tkStep_bad l he']; exact h.1, fun z => ?_⟩
    rw [opsL_bad l he] at z
    exact absurd z he
theorem rel_all : ∀ (L : List Int) {q q' : FI × List Int × Int}, RelQ q q' → RelQ ((L.flatMap opsL).foldl (fun st op => rdStep op st) q) (L.foldl (fun st l => tkStep l st) q')
  | [], _, _, h => h
  | l :: L, q, q', h => by
    rw [List.flatMap_cons, List.foldl_append, List.foldl_cons]
    exact rel_all L (rel_step l h)
def readR (b : List Int) : FI × List Int × Int := (lets (hOf (b.getD 1 0))).foldl (fun st l => tkStep l st) (frame0 b, b.drop 4, 0)
theorem read_rel (b : List Int) : RelQ (readI b) (readR b) := by
  unfold readI readR
  rw [wops_lets]
  exact rel_all _ ⟨rfl, fun _ => rfl⟩
theorem end_rel {b : List Int} : endR (readR b).2.1 (readR b).2.2 = endR (readI b).2.1 (readI b).2.2 ∧ (endR (readI b).2.1 (readI b).2.2 = 0 → readR b = readI b) := by
  have h := read_rel b
  by_cases he : (readI b).2.2 = 0
  · rw [h.2 he]; exact ⟨rfl, fun _ => rfl⟩
  · have he' : (readR b).2.2 ≠ 0 := by rw [← h.1]; exact he
    unfold endR
    rw [if_neg (fun q => he' q.1), if_neg (fun q => he q.1)]
    exact ⟨h.1.symm, fun q => absurd q he⟩

/-! ### bounds -/
theorem rdStep_ok {o : WOp} (hg : goodOp o) {q : FI × List Int × Int} (hw : WfF q.1) (hu : ∀ x ∈ q.2.1, 0 ≤ x ∧ x < 256) : WfF (rdStep o q).1 ∧ (∀ x ∈ (rdStep o q).2.1, 0 ≤ x ∧ x < 256) := by
  have h64 := rdNum_bnd hu q.2.2 (most := 18446744073709551615) (by omega)
  have h32 := rdNum_bnd hu q.2.2 (most := 4294967295) (by omega)
  have h8 := rdNum_bnd hu q.2.2 (most := 255) (by omega)
  have hn := rdNum_bnd hu q.2.2 (most := 64) (by omega)
  have u1 := rdNum_u8 (e := q.2.2) (most := 64) hu
  cases o with
  | num j =>
    refine ⟨?_, rdNum_u8 hu⟩
    rcases hg with rfl | rfl | rfl | rfl
    · exact { hw with ids := ⟨h64.1, by simp only [rdStep, setF]; simp; omega⟩ }
    · exact { hw with seq := ⟨h64.1, by simp only [rdStep, setF]; simp; omega⟩ }
    · exact { hw with inst := ⟨h64.1, by simp only [rdStep, setF]; simp; omega⟩ }
    · exact { hw with round := ⟨h64.1, by simp only [rdStep, setF]; simp; omega⟩ }
  | small j =>
    refine ⟨?_, rdNum_u8 hu⟩
    rcases hg with rfl | rfl | rfl
    · exact { hw with at_ := ⟨h32.1, by simp only [rdStep, setF]; simp; omega⟩ }
    · exact { hw with of_ := ⟨h32.1, by simp only [rdStep, setF]; simp; omega⟩ }
    · exact { hw with size := ⟨h32.1, by simp only [rdStep, setF]; simp; omega⟩ }
  | who j =>
    have hg : j = 3 := hg
    subst hg
    exact ⟨{ hw with idf := ⟨h8.1, by simp only [rdStep, setF]; simp; omega⟩ }, rdNum_u8 hu⟩
  | data j => exact ⟨{ hw with data := rdRow_val hu, dataL := rdRow_most }, rdRow_u8 hu⟩
  | runs j =>
    obtain ⟨o1, o2, o3⟩ := rdRuns_ok (rdNum q.2.1 q.2.2 64).1.toNat _ (rdNum q.2.1 q.2.2 64).2.2 u1
    have hlen := rdRuns_len (rdNum q.2.1 q.2.2 64).1.toNat (rdNum q.2.1 q.2.2 64).2.1 (rdNum q.2.1 q.2.2 64).2.2
    refine ⟨?_, o2⟩
    rcases hg with rfl | rfl
    · exact { hw with est := o1, estL := Nat.le_trans (Nat.le_of_eq hlen) (by omega) }
    · exact { hw with aux := o1, auxL := Nat.le_trans (Nat.le_of_eq hlen) (by omega) }
  | nums j =>
    obtain ⟨o1, o2, o3⟩ := rdNums_ok (rdNum q.2.1 q.2.2 64).1.toNat _ (rdNum q.2.1 q.2.2 64).2.2 u1
    have hlen := rdNums_len (rdNum q.2.1 q.2.2 64).1.toNat (rdNum q.2.1 q.2.2 64).2.1 (rdNum q.2.1 q.2.2 64).2.2
    refine ⟨?_, o2⟩
    rcases hg with rfl | rfl
    · exact { hw with done := o1, doneL := Nat.le_trans (Nat.le_of_eq hlen) (by omega) }
    · exact { hw with held := o1, heldL := Nat.le_trans (Nat.le_of_eq hlen) (by omega) }
theorem rdFold_ok : ∀ (L : List WOp) {q : FI × List Int × Int}, (∀ o ∈ L, goodOp o) → WfF q.1 → (∀ x ∈ q.2.1, 0 ≤ x ∧ x < 256) → WfF (L.foldl (fun st op => rdStep op st) q).1
  | [], _, _, hw, _ => hw
  | o :: L, q, hg, hw, hu => by
    obtain ⟨h1, h2⟩ := rdStep_ok (hg o List.mem_cons_self) hw hu
    exact rdFold_ok L (fun z hz => hg z (List.mem_cons_of_mem _ hz)) h1 h2
theorem frame0_wf {b : List Int} (hu : ∀ x ∈ b, 0 ≤ x ∧ x < 256) : WfF (frame0 b) := { wf_zero with kd := getD_u8 hu 1, src := getD_u8 hu 2, dst := getD_u8 hu 3 }
theorem readI_wf {b : List Int} (hu : ∀ x ∈ b, 0 ≤ x ∧ x < 256) : WfF (readI b).1 := rdFold_ok _ (wopsOf_good _).1 (frame0_wf hu) fun x hx => hu x (List.mem_of_mem_drop hx)
theorem rtRuns_ok : ∀ (n : Nat) (b : List Int) (e : Int), (∀ x ∈ b, 0 ≤ x ∧ x < 256) → (∀ x ∈ (rtRuns n b e).2.1, 0 ≤ x ∧ x < 256) ∧ (rtRuns n b e).2.1.length ≤ b.length
  | 0, b, e, hu => ⟨hu, Nat.le_refl _⟩
  | n + 1, b, e, hu => by
    simp only [rtRuns]
    split
    · obtain ⟨_, o2, o3⟩ := rdRuns_ok 1 b e hu
      obtain ⟨i1, i2⟩ := rtRuns_ok n (rdRun b e).2.1 (rdRun b e).2.2 o2
      exact ⟨i1, Nat.le_trans i2 o3⟩
    · exact ⟨hu, Nat.le_refl _⟩
theorem rtNums_ok : ∀ (n : Nat) (b : List Int) (e : Int), (∀ x ∈ b, 0 ≤ x ∧ x < 256) → (∀ x ∈ (rtNums n b e).2.1, 0 ≤ x ∧ x < 256) ∧ (rtNums n b e).2.1.length ≤ b.length
  | 0, b, e, hu => ⟨hu, Nat.le_refl _⟩
  | n + 1, b, e, hu => by
    simp only [rtNums]
    split
    · obtain ⟨_, o2, o3⟩ := rdNums_ok 1 b e hu
      obtain ⟨i1, i2⟩ := rtNums_ok n (rdNum b e 18446744073709551615).2.1 (rdNum b e 18446744073709551615).2.2 o2
      exact ⟨i1, Nat.le_trans i2 o3⟩
    · exact ⟨hu, Nat.le_refl _⟩
theorem tkStep_ok (l : Int) {q : FI × List Int × Int} (hu : ∀ x ∈ q.2.1, 0 ≤ x ∧ x < 256) : (∀ x ∈ (tkStep l q).2.1, 0 ≤ x ∧ x < 256) ∧ (tkStep l q).2.1.length ≤ q.2.1.length := by
  have n := fun (b : List Int) (e most : Int) (h : ∀ x ∈ b, 0 ≤ x ∧ x < 256) => (⟨rdNum_u8 h, rdNum_len⟩ : (∀ x ∈ (rdNum b e most).2.1, 0 ≤ x ∧ x < 256) ∧ (rdNum b e most).2.1.length ≤ b.length)
  have n64 := n q.2.1 q.2.2 64 hu
  have hr := rtRuns_ok (rdNum q.2.1 q.2.2 64).1.toNat _ (rdNum q.2.1 q.2.2 64).2.2 n64.1
  have hn := rtNums_ok (rdNum q.2.1 q.2.2 64).1.toNat _ (rdNum q.2.1 q.2.2 64).2.2 n64.1
  have h2 := n _ (rdNum q.2.1 q.2.2 255).2.2 18446744073709551615 (n q.2.1 q.2.2 255 hu).1
  by_cases c113 : l = 113
  · subst c113
    exact n q.2.1 q.2.2 18446744073709551615 hu
  · skip
    by_cases c100 : l = 100
    · subst c100
      exact ⟨h2.1, Nat.le_trans h2.2 rdNum_len⟩
    · skip
      by_cases c97 : l = 97
      · subst c97
        exact n q.2.1 q.2.2 4294967295 hu
      · skip
        by_cases c111 : l = 111
        · subst c111
          exact n q.2.1 q.2.2 4294967295 hu
        · skip
          by_cases c122 : l = 122
          · subst c122
            exact n q.2.1 q.2.2 4294967295 hu
          · skip
            by_cases c105 : l = 105
            · subst c105
              exact n q.2.1 q.2.2 18446744073709551615 hu
            · skip
              by_cases c114 : l = 114
              · subst c114
                exact n q.2.1 q.2.2 18446744073709551615 hu
              · skip
                by_cases c101 : l = 101
                · subst c101
                  exact ⟨hr.1, Nat.le_trans hr.2 n64.2⟩
                · skip
                  by_cases c120 : l = 120
                  · subst c120
                    exact ⟨hr.1, Nat.le_trans hr.2 n64.2⟩
                  · skip
                    by_cases c110 : l = 110
                    · subst c110
                      exact ⟨hn.1, Nat.le_trans hn.2 n64.2⟩
                    · skip
                      by_cases c104 : l = 104
                      · subst c104
                        exact ⟨hn.1, Nat.le_trans hn.2 n64.2⟩
                      · skip
                        unfold tkStep
                        rw [if_neg c113, if_neg c100, if_neg c97, if_neg c111, if_neg c122, if_neg c105, if_neg c114, if_neg c101, if_neg c120, if_neg c110, if_neg c104]
                        exact ⟨rdRow_u8 (b := q.2.1) (e := q.2.2) (most := 65536) hu, rdRow_len (b := q.2.1) (e := q.2.2) (most := 65536)⟩
end Go.Proofs.Ytkfdgegmahbkiaa.Sim
namespace Go.Proofs.Ytkfdgegmahbkiaa.Sim
set_option linter.unusedSimpArgs false
set_option linter.unusedVariables false

def emptyB (h : ByteArray) : Bool := h.toList == ByteArray.toList ⟨#[]⟩
def mayD (x : FI) : Bool :=
  !(emptyB (hOf x.kd)) && (!((((!absB x (hOf x.kd)) || decide (x.src > 63)) || decide (x.dst > 63)) || (x.src == x.dst)) &&
  (!((decide (x.seq > 4611686018427387904) || decide (x.inst > 4611686018427387904)) || decide (x.round > 4611686018427387904)) &&
  (!((inS (hOf x.kd) 105 && (x.kd != 9)) && (x.inst == 0)) && (!((inS (hOf x.kd) 100 && !(idOk x.idf x.ids)) || decide (x.at_ ≥ 1048576)) &&
  (!(inS (hOf x.kd) 111 && (((decide (x.at_ ≥ x.of_) || decide (x.of_ > 1048576)) || decide (x.size > 1048576)) || decide ((x.data.length : Int) > 65536))) &&
  (runsB x.est && (((runsB x.aux && cntsB x.done) && cntsB x.held) && ((x.kd != 8) || decide ((x.est.length : Int) > 0)))))))))
theorem gv_ff (v : AV) : gv false false v = v := rfl
theorem gv_tt (v : AV) : gv true true v = v := rfl
theorem rmay_run {s : Store} {x : FI} {c : AVs} (hc : IsFc s c x) (hw : WfF x) (k : Nat) (hk : 300 ≤ k) (hk2 : k ≤ 90000) : ∃ s', rn (k + 10) 16 [.agg (fcs x c)] s = some (.bool (mayD x), s') ∧ Ext s s' := by
  rw [F16.eq]
  unfold F16.f F16.p0 mayD
  rw [cells_agg, new_s, show (fcs x c).length = 16 from rfl]
  have hg : (s.push (.cells (fcs x c) false)).get s.next = .cells (fcs x c) false := by rw [get_push, if_pos rfl]
  have e1 := Ext.push s (.cells (fcs x c) false)
  have hlt : s.next < (s.push (.cells (fcs x c) false)).next := Nat.lt_succ_self _
  generalize s.push (.cells (fcs x c) false) = t at *
  have L := FLd.mk' (s := t) (F := s.next) (x := x) (c := c) (ro := false) hg
  have hsz := hOf_size x.kd
  have hf : ∀ st : Store, rn (k + 9) 23 [.int .u8 x.kd] st = some (.str (hOf x.kd), st) := fun st => fields_run x.kd st (k + 8)
  have hes : ∀ f : AV → Rz, aBin .eql (.str (hOf x.kd)) (.str ⟨#[]⟩) f = f (.bool (emptyB (hOf x.kd))) := fun f => rfl
  have hin : ∀ (n : Int) (st : Store), rn (k + 9) 37 [.str (hOf x.kd), .int .u8 n] st = some (.bool (inS (hOf x.kd) n), st) := fun n st => in_run (by omega) n st (k + 8) (by omega)
  have hid : ∀ st : Store, rn (k + 9) 38 [.agg [.int .u8 x.idf, .int .u64 x.ids], .int .i64 64] st = some (.bool (idOk x.idf x.ids), st.push (.cells [.int .u8 x.idf, .int .u64 x.ids] false)) := fun st => ref_id_may hw.idf (k + 8)
  simp only [fld_p, Nat.add_zero, L.l0, hf, bnd, hes]
  cases emptyB (hOf x.kd) with
  | true => exact ⟨t, by simp only [bnd, guard_tt, guard_ff, guard_tf, guard_ft, pick_t, pick_f, if_t, if_f, add_i, sub_i, lss_i, leq_i, gtr_i, geq_i, eql_i, neq_i, min_i, max_i, conv_i, len_sl, len_nil, not_b, cells_agg, new_s, fld_p, nil_p, guard_skip, Bool.not_true, Bool.false_and], e1⟩
  | false =>
  have hab : rn (k + 9) 36 [.agg (fcl x c.e c.a c.d c.h c.b), .str (hOf x.kd)] t = some (.bool (absB x (hOf x.kd)), t.push (.cells (fcs x c) false)) := absent_run (hc.ext e1) (by omega) (k + 7) (by omega)
  simp only [guard_ff, bnd, L.n16, hab, not_b]
  have e2 := Ext.push t (.cells (fcs x c) false)
  have hg2 := (e2.get _ hlt).trans hg
  have hlt2 := Nat.lt_of_lt_of_le hlt e2.next
  have ee2 := e1.trans e2
  generalize t.push (.cells (fcs x c) false) = t2 at *
  have L := FLd.mk' (s := t2) (F := s.next) (x := x) (c := c) (ro := false) hg2
  simp only [bnd, not_b, fld_p, Nat.zero_add, Nat.add_zero, gn_some, gn_same, gn_v, gv_gv, gn_fa, gn_ld, gn_ldn, gn_len, gn_b1, gn_b2, gn_un, gn_pk, gn_cl, gn_ct, gn_cf, gn_dt, gn_df, pn_and, pn_or, pn_tt, pn_tf, pn_ft, pn_ff, gv_ff, gv_tt, neq_i, eql_i, gtr_i, geq_i, lss_i, leq_i, L.l0, L.l1, L.l2, L.l3, L.l4, L.l5, L.l6, L.l7, L.l8, L.l9, L.l10, L.l11, L.l12, L.l13, L.l14, L.l15, L.n3, L.n16, pick_f, hin]
  cases (((!absB x (hOf x.kd)) || decide (x.src > 63)) || decide (x.dst > 63)) || (x.src == x.dst) with
  | true => exact ⟨t2, rfl, ee2⟩
  | false =>
  rw [if_f]
  cases (decide (x.seq > 4611686018427387904) || decide (x.inst > 4611686018427387904)) || decide (x.round > 4611686018427387904) with
  | true => exact ⟨t2, rfl, ee2⟩
  | false =>
  rw [if_f]
  cases (inS (hOf x.kd) 105 && (x.kd != 9)) && (x.inst == 0) with
  | true => exact ⟨t2, rfl, ee2⟩
  | false =>
  rw [if_f]
  have tail : ∀ (t3 : Store) (vb : Bool), Ext t2 t3 → vb = (inS (hOf x.kd) 100 && !(idOk x.idf x.ids)) → True := fun _ _ _ _ => trivial
  cases hbd : inS (hOf x.kd) 100 with
  | true =>
    simp only [guard_tt, bnd, hid, not_b, pick_t]
    have e3 := Ext.push t2 (.cells [.int .u8 x.idf, .int .u64 x.ids] false)
    have hg3 := (e3.get _ hlt2).trans hg2
    have hlt3 := Nat.lt_of_lt_of_le hlt2 e3.next
    have ee3 := ee2.trans e3
    generalize t2.push (.cells [.int .u8 x.idf, .int .u64 x.ids] false) = t3 at *
    have L := FLd.mk' (s := t3) (F := s.next) (x := x) (c := c) (ro := false) hg3
    simp only [bnd, not_b, fld_p, Nat.zero_add, Nat.add_zero, gn_some, gn_same, gn_v, gv_gv, gn_fa, gn_ld, gn_ldn, gn_len, gn_b1, gn_b2, gn_un, gn_pk, gn_cl, gn_ct, gn_cf, gn_dt, gn_df, pn_and, pn_or, pn_tt, pn_tf, pn_ft, pn_ff, gv_ff, gv_tt, neq_i, eql_i, gtr_i, geq_i, lss_i, leq_i, L.l0, L.l1, L.l2, L.l3, L.l4, L.l5, L.l6, L.l7, L.l8, L.l9, L.l10, L.l11, L.l12, L.l13, L.l14, L.l15, L.n3, L.n16, hin, lenV hc.data, Bool.true_and, Bool.false_and, Bool.false_or]
    cases (!(idOk x.idf x.ids) || decide (x.at_ ≥ 1048576)) with
    | true => exact ⟨t3, rfl, ee3⟩
    | false =>
    rw [if_f]
    cases inS (hOf x.kd) 111 && (((decide (x.at_ ≥ x.of_) || decide (x.of_ > 1048576)) || decide (x.size > 1048576)) || decide ((x.data.length : Int) > 65536)) with
    | true => exact ⟨t3, rfl, ee3⟩
    | false =>
    rw [if_f]
    obtain ⟨t4, k4, e4⟩ := rrows_run6 ((hc.ext ee3).est) hw.est hw.estL (k + 3) (by omega) (by omega)
    have k4 : rn (k + 9) 39 [c.e] t3 = some (.bool (runsB x.est), t4) := k4
    rw [k4]
    have ee4 := ee3.trans e4
    have hg4 := (e4.get _ hlt3).trans hg3
    have hlt4 := Nat.lt_of_lt_of_le hlt3 e4.next
    have L := FLd.mk' (s := t4) (F := s.next) (x := x) (c := c) (ro := false) hg4
    cases runsB x.est with
    | false => exact ⟨t4, by simp only [bnd, guard_tt, guard_ff, guard_tf, guard_ft, pick_t, pick_f, if_t, if_f, add_i, sub_i, lss_i, leq_i, gtr_i, geq_i, eql_i, neq_i, min_i, max_i, conv_i, len_sl, len_nil, not_b, cells_agg, new_s, fld_p, nil_p, guard_skip, Bool.false_and, Bool.not_false, Bool.true_and], ee4⟩
    | true =>
    obtain ⟨t5, k5, e5⟩ := rrows_run6 ((hc.ext ee4).aux) hw.aux hw.auxL (k + 3) (by omega) (by omega)
    have k5 : rn (k + 9) 39 [c.a] t4 = some (.bool (runsB x.aux), t5) := k5
    have ee5 := ee4.trans e5
    have hg5 := (e5.get _ hlt4).trans hg4
    have L5 := FLd.mk' (s := t5) (F := s.next) (x := x) (c := c) (ro := false) hg5
    have k6 : rn (k + 9) 40 [c.d] t5 = some (.bool (cntsB x.done), t5) := rcnts_run (hc.ext ee5).done hw.doneL (k + 8) (by omega)
    have k7 : rn (k + 9) 40 [c.h] t5 = some (.bool (cntsB x.held), t5) := rcnts_run (hc.ext ee5).held hw.heldL (k + 8) (by omega)
    refine ⟨t5, ?_, ee5⟩
    simp only [bnd, guard_tt, fld_p, Nat.zero_add, Nat.add_zero, L.l12, k5, pick_t]
    simp only [bnd, not_b, fld_p, Nat.zero_add, Nat.add_zero, gn_some, gn_same, gn_v, gv_gv, gn_fa, gn_ld, gn_ldn, gn_len, gn_b1, gn_b2, gn_un, gn_pk, gn_cl, gn_ct, gn_cf, gn_dt, gn_df, pn_and, pn_or, pn_tt, pn_tf, pn_ft, pn_ff, gv_ff, gv_tt, neq_i, eql_i, gtr_i, geq_i, lss_i, leq_i, L5.l0, L5.l1, L5.l2, L5.l3, L5.l4, L5.l5, L5.l6, L5.l7, L5.l8, L5.l9, L5.l10, L5.l11, L5.l12, L5.l13, L5.l14, L5.l15, L5.n3, L5.n16, k6, k7, len_runs hc.est, Bool.not_false, Bool.true_and]
  | false =>
    simp only [guard_ft, bnd, pick_f]
    have ee3 := ee2
    have hg3 := hg2
    have hlt3 := hlt2
    generalize t2 = t3 at *
    have L := FLd.mk' (s := t3) (F := s.next) (x := x) (c := c) (ro := false) hg3
    simp only [bnd, not_b, fld_p, Nat.zero_add, Nat.add_zero, gn_some, gn_same, gn_v, gv_gv, gn_fa, gn_ld, gn_ldn, gn_len, gn_b1, gn_b2, gn_un, gn_pk, gn_cl, gn_ct, gn_cf, gn_dt, gn_df, pn_and, pn_or, pn_tt, pn_tf, pn_ft, pn_ff, gv_ff, gv_tt, neq_i, eql_i, gtr_i, geq_i, lss_i, leq_i, L.l0, L.l1, L.l2, L.l3, L.l4, L.l5, L.l6, L.l7, L.l8, L.l9, L.l10, L.l11, L.l12, L.l13, L.l14, L.l15, L.n3, L.n16, hin, lenV hc.data, Bool.true_and, Bool.false_and, Bool.false_or]
    cases decide (x.at_ ≥ 1048576) with
    | true => exact ⟨t3, rfl, ee3⟩
    | false =>
    rw [if_f]
    cases inS (hOf x.kd) 111 && (((decide (x.at_ ≥ x.of_) || decide (x.of_ > 1048576)) || decide (x.size > 1048576)) || decide ((x.data.length : Int) > 65536)) with
    | true => exact ⟨t3, rfl, ee3⟩
    | false =>
    rw [if_f]
    obtain ⟨t4, k4, e4⟩ := rrows_run6 ((hc.ext ee3).est) hw.est hw.estL (k + 3) (by omega) (by omega)
    have k4 : rn (k + 9) 39 [c.e] t3 = some (.bool (runsB x.est), t4) := k4
    rw [k4]
    have ee4 := ee3.trans e4
    have hg4 := (e4.get _ hlt3).trans hg3
    have hlt4 := Nat.lt_of_lt_of_le hlt3 e4.next
    have L := FLd.mk' (s := t4) (F := s.next) (x := x) (c := c) (ro := false) hg4
    cases runsB x.est with
    | false => exact ⟨t4, by simp only [bnd, guard_tt, guard_ff, guard_tf, guard_ft, pick_t, pick_f, if_t, if_f, add_i, sub_i, lss_i, leq_i, gtr_i, geq_i, eql_i, neq_i, min_i, max_i, conv_i, len_sl, len_nil, not_b, cells_agg, new_s, fld_p, nil_p, guard_skip, Bool.false_and, Bool.not_false, Bool.true_and], ee4⟩
    | true =>
    obtain ⟨t5, k5, e5⟩ := rrows_run6 ((hc.ext ee4).aux) hw.aux hw.auxL (k + 3) (by omega) (by omega)
    have k5 : rn (k + 9) 39 [c.a] t4 = some (.bool (runsB x.aux), t5) := k5
    have ee5 := ee4.trans e5
    have hg5 := (e5.get _ hlt4).trans hg4
    have L5 := FLd.mk' (s := t5) (F := s.next) (x := x) (c := c) (ro := false) hg5
    have k6 : rn (k + 9) 40 [c.d] t5 = some (.bool (cntsB x.done), t5) := rcnts_run (hc.ext ee5).done hw.doneL (k + 8) (by omega)
    have k7 : rn (k + 9) 40 [c.h] t5 = some (.bool (cntsB x.held), t5) := rcnts_run (hc.ext ee5).held hw.heldL (k + 8) (by omega)
    refine ⟨t5, ?_, ee5⟩
    simp only [bnd, guard_tt, fld_p, Nat.zero_add, Nat.add_zero, L.l12, k5, pick_t]
    simp only [bnd, not_b, fld_p, Nat.zero_add, Nat.add_zero, gn_some, gn_same, gn_v, gv_gv, gn_fa, gn_ld, gn_ldn, gn_len, gn_b1, gn_b2, gn_un, gn_pk, gn_cl, gn_ct, gn_cf, gn_dt, gn_df, pn_and, pn_or, pn_tt, pn_tf, pn_ft, pn_ff, gv_ff, gv_tt, neq_i, eql_i, gtr_i, geq_i, lss_i, leq_i, L5.l0, L5.l1, L5.l2, L5.l3, L5.l4, L5.l5, L5.l6, L5.l7, L5.l8, L5.l9, L5.l10, L5.l11, L5.l12, L5.l13, L5.l14, L5.l15, L5.n3, L5.n16, k6, k7, len_runs hc.est, Bool.not_false, Bool.true_and]

theorem emptyB_eq (h : ByteArray) : emptyB h = (h.data.toList == ([] : List UInt8)) := by
  unfold emptyB
  rw [ba_toList, ba_toList]
theorem may_eq {x : FI} (hw : WfF x) : mayD x = mayC x := by
  have hd := hw.kd
  have wi := hw.inst
  have hkd : x.kd = 1 ∨ x.kd = 2 ∨ x.kd = 3 ∨ x.kd = 4 ∨ x.kd = 5 ∨ x.kd = 6 ∨ x.kd = 7 ∨ x.kd = 8 ∨ x.kd = 9 ∨ x.kd = 10 ∨ (x.kd < 1 ∨ x.kd > 10) := by omega
  rcases hkd with h | h | h | h | h | h | h | h | h | h | h
  · have hr : restF x = { x with idf := 0, ids := 0, seq := 0, at_ := 0, of_ := 0, size := 0, data := [] } := by
      unfold restF
      rw [h]
      simp [wopsOf, kpStep, setF, clrF, h]
    have j113 : inS (hOf 1) 113 = true := by decide
    have j100 : inS (hOf 1) 100 = true := by decide
    have j97 : inS (hOf 1) 97 = true := by decide
    have j111 : inS (hOf 1) 111 = true := by decide
    have j122 : inS (hOf 1) 122 = true := by decide
    have j105 : inS (hOf 1) 105 = false := by decide
    have j114 : inS (hOf 1) 114 = false := by decide
    have j101 : inS (hOf 1) 101 = false := by decide
    have j120 : inS (hOf 1) 120 = false := by decide
    have j110 : inS (hOf 1) 110 = false := by decide
    have j104 : inS (hOf 1) 104 = false := by decide
    have j98 : inS (hOf 1) 98 = true := by decide
    have je : emptyB (hOf 1) = false := by rw [emptyB_eq]; decide
    unfold mayD mayC bareB absB shapedB
    simp only [hr, h, je, j113, j100, j97, j111, j122, j105, j114, j101, j120, j110, j104, j98]
    apply Bool.eq_iff_iff.2
    have el : ∀ {α : Type} (l : List α), l = [] ↔ (l.length : Int) = 0 := fun l => by rw [← List.length_eq_zero_iff]; omega
    by_cases p1 : runsB x.est = true
    case neg => simp [p1]
    by_cases p2 : runsB x.aux = true
    case neg => simp [p2]
    by_cases p3 : cntsB x.done = true
    case neg => simp [p3]
    by_cases p4 : cntsB x.held = true
    case neg => simp [p4]
    by_cases p5 : idOk x.idf x.ids = true
    case neg =>
      simp [p1, p2, p3, p4, p5]
      try simp only [el]
      try omega
    simp [p1, p2, p3, p4, p5]
    try simp only [el]
    try omega
  · have hr : restF x = { x with seq := 0 } := by
      unfold restF
      rw [h]
      simp [wopsOf, kpStep, setF, clrF, h]
    have j113 : inS (hOf 2) 113 = true := by decide
    have j100 : inS (hOf 2) 100 = false := by decide
    have j97 : inS (hOf 2) 97 = false := by decide
    have j111 : inS (hOf 2) 111 = false := by decide
    have j122 : inS (hOf 2) 122 = false := by decide
    have j105 : inS (hOf 2) 105 = false := by decide
    have j114 : inS (hOf 2) 114 = false := by decide
    have j101 : inS (hOf 2) 101 = false := by decide
    have j120 : inS (hOf 2) 120 = false := by decide
    have j110 : inS (hOf 2) 110 = false := by decide
    have j104 : inS (hOf 2) 104 = false := by decide
    have j98 : inS (hOf 2) 98 = false := by decide
    have je : emptyB (hOf 2) = false := by rw [emptyB_eq]; decide
    unfold mayD mayC bareB absB shapedB
    simp only [hr, h, je, j113, j100, j97, j111, j122, j105, j114, j101, j120, j110, j104, j98]
    apply Bool.eq_iff_iff.2
    have el : ∀ {α : Type} (l : List α), l = [] ↔ (l.length : Int) = 0 := fun l => by rw [← List.length_eq_zero_iff]; omega
    by_cases p1 : runsB x.est = true
    case neg => simp [p1]
    by_cases p2 : runsB x.aux = true
    case neg => simp [p2]
    by_cases p3 : cntsB x.done = true
    case neg => simp [p3]
    by_cases p4 : cntsB x.held = true
    case neg => simp [p4]
    by_cases p5 : idOk x.idf x.ids = true
    case neg =>
      simp [p1, p2, p3, p4, p5]
      try simp only [el]
      try omega
    simp [p1, p2, p3, p4, p5]
    try simp only [el]
    try omega
  · have hr : restF x = { x with idf := 0, ids := 0, at_ := 0 } := by
      unfold restF
      rw [h]
      simp [wopsOf, kpStep, setF, clrF, h]
    have j113 : inS (hOf 3) 113 = false := by decide
    have j100 : inS (hOf 3) 100 = true := by decide
    have j97 : inS (hOf 3) 97 = true := by decide
    have j111 : inS (hOf 3) 111 = false := by decide
    have j122 : inS (hOf 3) 122 = false := by decide
    have j105 : inS (hOf 3) 105 = false := by decide
    have j114 : inS (hOf 3) 114 = false := by decide
    have j101 : inS (hOf 3) 101 = false := by decide
    have j120 : inS (hOf 3) 120 = false := by decide
    have j110 : inS (hOf 3) 110 = false := by decide
    have j104 : inS (hOf 3) 104 = false := by decide
    have j98 : inS (hOf 3) 98 = false := by decide
    have je : emptyB (hOf 3) = false := by rw [emptyB_eq]; decide
    unfold mayD mayC bareB absB shapedB
    simp only [hr, h, je, j113, j100, j97, j111, j122, j105, j114, j101, j120, j110, j104, j98]
    apply Bool.eq_iff_iff.2
    have el : ∀ {α : Type} (l : List α), l = [] ↔ (l.length : Int) = 0 := fun l => by rw [← List.length_eq_zero_iff]; omega
    by_cases p1 : runsB x.est = true
    case neg => simp [p1]
    by_cases p2 : runsB x.aux = true
    case neg => simp [p2]
    by_cases p3 : cntsB x.done = true
    case neg => simp [p3]
    by_cases p4 : cntsB x.held = true
    case neg => simp [p4]
    by_cases p5 : idOk x.idf x.ids = true
    case neg =>
      simp [p1, p2, p3, p4, p5]
      try simp only [el]
      try omega
    simp [p1, p2, p3, p4, p5]
    try simp only [el]
    try omega
  · have hr : restF x = { x with idf := 0, ids := 0, at_ := 0, of_ := 0, size := 0, data := [] } := by
      unfold restF
      rw [h]
      simp [wopsOf, kpStep, setF, clrF, h]
    have j113 : inS (hOf 4) 113 = false := by decide
    have j100 : inS (hOf 4) 100 = true := by decide
    have j97 : inS (hOf 4) 97 = true := by decide
    have j111 : inS (hOf 4) 111 = true := by decide
    have j122 : inS (hOf 4) 122 = true := by decide
    have j105 : inS (hOf 4) 105 = false := by decide
    have j114 : inS (hOf 4) 114 = false := by decide
    have j101 : inS (hOf 4) 101 = false := by decide
    have j120 : inS (hOf 4) 120 = false := by decide
    have j110 : inS (hOf 4) 110 = false := by decide
    have j104 : inS (hOf 4) 104 = false := by decide
    have j98 : inS (hOf 4) 98 = true := by decide
    have je : emptyB (hOf 4) = false := by rw [emptyB_eq]; decide
    unfold mayD mayC bareB absB shapedB
    simp only [hr, h, je, j113, j100, j97, j111, j122, j105, j114, j101, j120, j110, j104, j98]
    apply Bool.eq_iff_iff.2
    have el : ∀ {α : Type} (l : List α), l = [] ↔ (l.length : Int) = 0 := fun l => by rw [← List.length_eq_zero_iff]; omega
    by_cases p1 : runsB x.est = true
    case neg => simp [p1]
    by_cases p2 : runsB x.aux = true
    case neg => simp [p2]
    by_cases p3 : cntsB x.done = true
    case neg => simp [p3]
    by_cases p4 : cntsB x.held = true
    case neg => simp [p4]
    by_cases p5 : idOk x.idf x.ids = true
    case neg =>
      simp [p1, p2, p3, p4, p5]
      try simp only [el]
      try omega
    simp [p1, p2, p3, p4, p5]
    try simp only [el]
    try omega
  · have hr : restF x = { x with seq := 0 } := by
      unfold restF
      rw [h]
      simp [wopsOf, kpStep, setF, clrF, h]
    have j113 : inS (hOf 5) 113 = true := by decide
    have j100 : inS (hOf 5) 100 = false := by decide
    have j97 : inS (hOf 5) 97 = false := by decide
    have j111 : inS (hOf 5) 111 = false := by decide
    have j122 : inS (hOf 5) 122 = false := by decide
    have j105 : inS (hOf 5) 105 = false := by decide
    have j114 : inS (hOf 5) 114 = false := by decide
    have j101 : inS (hOf 5) 101 = false := by decide
    have j120 : inS (hOf 5) 120 = false := by decide
    have j110 : inS (hOf 5) 110 = false := by decide
    have j104 : inS (hOf 5) 104 = false := by decide
    have j98 : inS (hOf 5) 98 = false := by decide
    have je : emptyB (hOf 5) = false := by rw [emptyB_eq]; decide
    unfold mayD mayC bareB absB shapedB
    simp only [hr, h, je, j113, j100, j97, j111, j122, j105, j114, j101, j120, j110, j104, j98]
    apply Bool.eq_iff_iff.2
    have el : ∀ {α : Type} (l : List α), l = [] ↔ (l.length : Int) = 0 := fun l => by rw [← List.length_eq_zero_iff]; omega
    by_cases p1 : runsB x.est = true
    case neg => simp [p1]
    by_cases p2 : runsB x.aux = true
    case neg => simp [p2]
    by_cases p3 : cntsB x.done = true
    case neg => simp [p3]
    by_cases p4 : cntsB x.held = true
    case neg => simp [p4]
    by_cases p5 : idOk x.idf x.ids = true
    case neg =>
      simp [p1, p2, p3, p4, p5]
      try simp only [el]
      try omega
    simp [p1, p2, p3, p4, p5]
    try simp only [el]
    try omega
  · have hr : restF x = { x with inst := 0, round := 0, est := [] } := by
      unfold restF
      rw [h]
      simp [wopsOf, kpStep, setF, clrF, h]
    have j113 : inS (hOf 6) 113 = false := by decide
    have j100 : inS (hOf 6) 100 = false := by decide
    have j97 : inS (hOf 6) 97 = false := by decide
    have j111 : inS (hOf 6) 111 = false := by decide
    have j122 : inS (hOf 6) 122 = false := by decide
    have j105 : inS (hOf 6) 105 = true := by decide
    have j114 : inS (hOf 6) 114 = true := by decide
    have j101 : inS (hOf 6) 101 = true := by decide
    have j120 : inS (hOf 6) 120 = false := by decide
    have j110 : inS (hOf 6) 110 = false := by decide
    have j104 : inS (hOf 6) 104 = false := by decide
    have j98 : inS (hOf 6) 98 = false := by decide
    have je : emptyB (hOf 6) = false := by rw [emptyB_eq]; decide
    unfold mayD mayC bareB absB shapedB
    simp only [hr, h, je, j113, j100, j97, j111, j122, j105, j114, j101, j120, j110, j104, j98]
    apply Bool.eq_iff_iff.2
    have el : ∀ {α : Type} (l : List α), l = [] ↔ (l.length : Int) = 0 := fun l => by rw [← List.length_eq_zero_iff]; omega
    by_cases p1 : runsB x.est = true
    case neg => simp [p1]
    by_cases p2 : runsB x.aux = true
    case neg => simp [p2]
    by_cases p3 : cntsB x.done = true
    case neg => simp [p3]
    by_cases p4 : cntsB x.held = true
    case neg => simp [p4]
    by_cases p5 : idOk x.idf x.ids = true
    case neg =>
      simp [p1, p2, p3, p4, p5]
      try simp only [el]
      try omega
    simp [p1, p2, p3, p4, p5]
    try simp only [el]
    try omega
  · have hr : restF x = { x with inst := 0, round := 0, est := [], aux := [] } := by
      unfold restF
      rw [h]
      simp [wopsOf, kpStep, setF, clrF, h]
    have j113 : inS (hOf 7) 113 = false := by decide
    have j100 : inS (hOf 7) 100 = false := by decide
    have j97 : inS (hOf 7) 97 = false := by decide
    have j111 : inS (hOf 7) 111 = false := by decide
    have j122 : inS (hOf 7) 122 = false := by decide
    have j105 : inS (hOf 7) 105 = true := by decide
    have j114 : inS (hOf 7) 114 = true := by decide
    have j101 : inS (hOf 7) 101 = true := by decide
    have j120 : inS (hOf 7) 120 = true := by decide
    have j110 : inS (hOf 7) 110 = false := by decide
    have j104 : inS (hOf 7) 104 = false := by decide
    have j98 : inS (hOf 7) 98 = false := by decide
    have je : emptyB (hOf 7) = false := by rw [emptyB_eq]; decide
    unfold mayD mayC bareB absB shapedB
    simp only [hr, h, je, j113, j100, j97, j111, j122, j105, j114, j101, j120, j110, j104, j98]
    apply Bool.eq_iff_iff.2
    have el : ∀ {α : Type} (l : List α), l = [] ↔ (l.length : Int) = 0 := fun l => by rw [← List.length_eq_zero_iff]; omega
    by_cases p1 : runsB x.est = true
    case neg => simp [p1]
    by_cases p2 : runsB x.aux = true
    case neg => simp [p2]
    by_cases p3 : cntsB x.done = true
    case neg => simp [p3]
    by_cases p4 : cntsB x.held = true
    case neg => simp [p4]
    by_cases p5 : idOk x.idf x.ids = true
    case neg =>
      simp [p1, p2, p3, p4, p5]
      try simp only [el]
      try omega
    simp [p1, p2, p3, p4, p5]
    try simp only [el]
    try omega
  · have hr : restF x = { x with inst := 0, est := [] } := by
      unfold restF
      rw [h]
      simp [wopsOf, kpStep, setF, clrF, h]
    have j113 : inS (hOf 8) 113 = false := by decide
    have j100 : inS (hOf 8) 100 = false := by decide
    have j97 : inS (hOf 8) 97 = false := by decide
    have j111 : inS (hOf 8) 111 = false := by decide
    have j122 : inS (hOf 8) 122 = false := by decide
    have j105 : inS (hOf 8) 105 = true := by decide
    have j114 : inS (hOf 8) 114 = false := by decide
    have j101 : inS (hOf 8) 101 = true := by decide
    have j120 : inS (hOf 8) 120 = false := by decide
    have j110 : inS (hOf 8) 110 = false := by decide
    have j104 : inS (hOf 8) 104 = false := by decide
    have j98 : inS (hOf 8) 98 = false := by decide
    have je : emptyB (hOf 8) = false := by rw [emptyB_eq]; decide
    unfold mayD mayC bareB absB shapedB
    simp only [hr, h, je, j113, j100, j97, j111, j122, j105, j114, j101, j120, j110, j104, j98]
    apply Bool.eq_iff_iff.2
    have el : ∀ {α : Type} (l : List α), l = [] ↔ (l.length : Int) = 0 := fun l => by rw [← List.length_eq_zero_iff]; omega
    by_cases p1 : runsB x.est = true
    case neg => simp [p1]
    by_cases p2 : runsB x.aux = true
    case neg => simp [p2]
    by_cases p3 : cntsB x.done = true
    case neg => simp [p3]
    by_cases p4 : cntsB x.held = true
    case neg => simp [p4]
    by_cases p5 : idOk x.idf x.ids = true
    case neg =>
      simp [p1, p2, p3, p4, p5]
      try simp only [el]
      try omega
    simp [p1, p2, p3, p4, p5]
    try simp only [el]
    try omega
  · have hr : restF x = { x with inst := 0, done := [], held := [] } := by
      unfold restF
      rw [h]
      simp [wopsOf, kpStep, setF, clrF, h]
    have j113 : inS (hOf 9) 113 = false := by decide
    have j100 : inS (hOf 9) 100 = false := by decide
    have j97 : inS (hOf 9) 97 = false := by decide
    have j111 : inS (hOf 9) 111 = false := by decide
    have j122 : inS (hOf 9) 122 = false := by decide
    have j105 : inS (hOf 9) 105 = true := by decide
    have j114 : inS (hOf 9) 114 = false := by decide
    have j101 : inS (hOf 9) 101 = false := by decide
    have j120 : inS (hOf 9) 120 = false := by decide
    have j110 : inS (hOf 9) 110 = true := by decide
    have j104 : inS (hOf 9) 104 = true := by decide
    have j98 : inS (hOf 9) 98 = false := by decide
    have je : emptyB (hOf 9) = false := by rw [emptyB_eq]; decide
    unfold mayD mayC bareB absB shapedB
    simp only [hr, h, je, j113, j100, j97, j111, j122, j105, j114, j101, j120, j110, j104, j98]
    apply Bool.eq_iff_iff.2
    have el : ∀ {α : Type} (l : List α), l = [] ↔ (l.length : Int) = 0 := fun l => by rw [← List.length_eq_zero_iff]; omega
    by_cases p1 : runsB x.est = true
    case neg => simp [p1]
    by_cases p2 : runsB x.aux = true
    case neg => simp [p2]
    by_cases p3 : cntsB x.done = true
    case neg => simp [p3]
    by_cases p4 : cntsB x.held = true
    case neg => simp [p4]
    by_cases p5 : idOk x.idf x.ids = true
    case neg =>
      simp [p1, p2, p3, p4, p5]
      try simp only [el]
      try omega
    simp [p1, p2, p3, p4, p5]
    try simp only [el]
    try omega
  · have hr : restF x = { x with seq := 0 } := by
      unfold restF
      rw [h]
      simp [wopsOf, kpStep, setF, clrF, h]
    have j113 : inS (hOf 10) 113 = true := by decide
    have j100 : inS (hOf 10) 100 = false := by decide
    have j97 : inS (hOf 10) 97 = false := by decide
    have j111 : inS (hOf 10) 111 = false := by decide
    have j122 : inS (hOf 10) 122 = false := by decide
    have j105 : inS (hOf 10) 105 = false := by decide
    have j114 : inS (hOf 10) 114 = false := by decide
    have j101 : inS (hOf 10) 101 = false := by decide
    have j120 : inS (hOf 10) 120 = false := by decide
    have j110 : inS (hOf 10) 110 = false := by decide
    have j104 : inS (hOf 10) 104 = false := by decide
    have j98 : inS (hOf 10) 98 = false := by decide
    have je : emptyB (hOf 10) = false := by rw [emptyB_eq]; decide
    unfold mayD mayC bareB absB shapedB
    simp only [hr, h, je, j113, j100, j97, j111, j122, j105, j114, j101, j120, j110, j104, j98]
    apply Bool.eq_iff_iff.2
    have el : ∀ {α : Type} (l : List α), l = [] ↔ (l.length : Int) = 0 := fun l => by rw [← List.length_eq_zero_iff]; omega
    by_cases p1 : runsB x.est = true
    case neg => simp [p1]
    by_cases p2 : runsB x.aux = true
    case neg => simp [p2]
    by_cases p3 : cntsB x.done = true
    case neg => simp [p3]
    by_cases p4 : cntsB x.held = true
    case neg => simp [p4]
    by_cases p5 : idOk x.idf x.ids = true
    case neg =>
      simp [p1, p2, p3, p4, p5]
      try simp only [el]
      try omega
    simp [p1, p2, p3, p4, p5]
    try simp only [el]
    try omega
  · have hh : hOf x.kd = ⟨#[]⟩ := by
      unfold hOf
      rw [if_neg (by omega), if_neg (by omega), if_neg (by omega), if_neg (by omega), if_neg (by omega), if_neg (by omega), if_neg (by omega), if_neg (by omega)]
    have je : emptyB (hOf x.kd) = true := by rw [hh, emptyB_eq]; rfl
    unfold mayD mayC
    rw [je]
    rcases h with h | h
    · rw [decide_eq_true h]; rfl
    · rw [decide_eq_true h, Bool.or_true]; rfl
end Go.Proofs.Ytkfdgegmahbkiaa.Sim
namespace Go.Proofs.Ytkfdgegmahbkiaa.Sim
set_option linter.unusedSimpArgs false
set_option linter.unusedVariables false

theorem rget_loop (k : Nat) (hk : 70 ≤ k) (hk2 : k ≤ 79000) {F d : Nat} (hFd : F ≠ d) {h : ByteArray} (hh : h.size ≤ 100) {x2 x4 : AV} : ∀ (n i : Nat) (s : Store) (x : FI) (c : AVs) (lv : AV) (b : List Int) (e : Int), s.get F = .cells (fcs x c) false → s.get d = .cells [lv, .int .i64 e] false → F < s.next → d < s.next → IsFc s c x → IsV s lv .u8 b → (∀ z ∈ b, 0 ≤ z ∧ z < 256) → b.length ≤ 1000000 → i ≤ h.size → h.size - i < n →
    ∃ c' lv' s', F9.l0 (k + 4) n x2 x4 (.ptr d 0 2) (.str h) (.ptr F 0 16) (.int .i64 (i : Int)) s = F9.p5 (k + 4) x2 x4 (.ptr d 0 2) (.ptr F 0 16) s' ∧ s'.get F = .cells (fcs (((lets h).drop i).foldl (fun st l => tkStep l st) (x, b, e)).1 c') false ∧ s'.get d = .cells [lv', .int .i64 (((lets h).drop i).foldl (fun st l => tkStep l st) (x, b, e)).2.2] false ∧
      IsFc s' c' (((lets h).drop i).foldl (fun st l => tkStep l st) (x, b, e)).1 ∧ IsV s' lv' .u8 (((lets h).drop i).foldl (fun st l => tkStep l st) (x, b, e)).2.1 ∧ FrP F d s s'
  | 0, i, _, _, _, _, _, _, _, _, _, _, _, _, _, _, _, hn => by omega
  | n + 1, i, s, x, c, lv, b, e, hF, hd, lF, ld, hc, hv, hu, hb, hi, hn => by
    have hs : F9.l0 (k + 4) (n + 1) = fun x2 x4 x9 x12 x13 x14 s => F9.p8 (k + 4) (F9.l0 (k + 4) n) x2 x4 x9 x12 x13 x14 s := rfl
    rw [hs]
    clear hs
    simp only
    unfold F9.p8
    have hl : ∀ {α : Type} (f : AV → Option α), aLenStr (.str h) f = f (.int .i64 h.size) := fun f => rfl
    have hlen : (lets h).length = h.size := by unfold lets; rw [List.length_map]; rfl
    rw [hl, lss_i]
    by_cases q : i < h.size
    · rw [decide_eq_true (show (i : Int) < (h.size : Int) by omega), if_t]
      unfold F9.p7 F9.p6
      have hi2 : i < h.data.toList.length := q
      have hil : i < (lets h).length := by omega
      have hlt : (lets h)[i] = (h.data.toList[i].toNat : Int) := List.getElem_map _
      have hix : ∀ {α : Type} (f : AV → Option α), aIndexStr (.str h) (.int .i64 (i : Int)) f = f (.int .u8 (lets h)[i]) := fun f => by
        simp only [aIndexStr]
        rw [if_pos (by omega), dif_pos (by rw [Int.toNat_natCast]; exact q), hlt]
        rfl
      simp only [bnd]
      rw [rld_all (n := 16) hF rfl]
      simp only [bnd]
      rw [hix]
      simp only [bnd]
      rw [rld_all (n := 2) hd rfl]
      simp only [bnd]
      obtain ⟨c1, w1, s1, k1, i1, j1, e1⟩ := take_run6 (e := e) hc hv hu hb (lets h)[i] k hk hk2
      rw [k1]
      simp only [bnd, x2_0, x2_1]
      have hF1 := (e1.get F lF).trans hF
      have hd1 := (e1.get d ld).trans hd
      rw [rst_all (n := 16) hF1 rfl rfl]
      simp only [bnd]
      rw [rst_all (n := 2) (s := s1.set F _) (cs := [lv, .int .i64 e]) (by rw [get_set, if_neg (Ne.symm hFd)]; exact hd1) rfl rfl]
      simp only [bnd]
      have f1 : FRw s1 F := .inl ⟨_, _, _, hF1⟩
      have f2 : ∀ o, FRw (s1.set F o) d := fun o => .inr ⟨_, _, _, by rw [get_set, if_neg (Ne.symm hFd)]; exact hd1⟩
      have hw : IntKind.i64.wrap ((i : Int) + 1) = ((i + 1 : Nat) : Int) := by rw [w_i64 (by omega) (by omega)]; omega
      obtain ⟨u1, n1⟩ := tkStep_ok (lets h)[i] (q := (x, b, e)) hu
      rw [add_i, hw]
      obtain ⟨c', lv', s', z1, z2, z3, z4, z5, z6⟩ := rget_loop k hk hk2 hFd hh n (i + 1) ((s1.set F (.cells (fcs (tkStep (lets h)[i] (x, b, e)).1 c1) false)).set d (.cells [w1, .int .i64 (tkStep (lets h)[i] (x, b, e)).2.2] false)) (tkStep (lets h)[i] (x, b, e)).1 c1 w1 (tkStep (lets h)[i] (x, b, e)).2.1 (tkStep (lets h)[i] (x, b, e)).2.2 (by rw [get_set, if_neg hFd, get_set, if_pos rfl]) (by rw [get_set, if_pos rfl]) (Nat.lt_of_lt_of_le lF e1.next) (Nat.lt_of_lt_of_le ld e1.next) ((i1.fr f1 _).fr (f2 _) _) ((j1.fr (.inr rfl) f1 _).fr (.inr rfl) (f2 _) _) u1 (Nat.le_trans n1 hb) (by omega) (by omega)
      have hsp : ((lets h).drop i).foldl (fun st l => tkStep l st) (x, b, e) = ((lets h).drop (i + 1)).foldl (fun st l => tkStep l st) (tkStep (lets h)[i] (x, b, e)) := by
        rw [List.drop_eq_getElem_cons hil, List.foldl_cons]
      rw [hsp]
      refine ⟨c', lv', s', z1, z2, z3, z4, z5, ⟨Nat.le_trans e1.next z6.next, fun j hj h1 h2 => ?_⟩⟩
      rw [z6.get j (Nat.lt_of_lt_of_le hj e1.next) h1 h2, get_set, if_neg h2, get_set, if_neg h1, e1.get j hj]
    · rw [decide_eq_false (show ¬ (i : Int) < (h.size : Int) by omega), if_f, List.drop_eq_nil_of_le (by omega)]
      exact ⟨c, lv, s, rfl, hF, hd, hc, hv, FrP.refl _ _ _⟩

theorem rget_run {s : Store} {bv : AV} {xs : List Int} (hv : IsV s bv .u8 xs) (hu : ∀ x ∈ xs, 0 ≤ x ∧ x < 256) (k : Nat) (hk : 1300 ≤ k) (hb : xs.length < k) (hk2 : k ≤ 70000) : ∃ c s', rn (k + 12) 9 [bv] s = some (.tuple [.agg (fcs (getI xs).1 c), .int .i64 (getI xs).2], s') ∧ IsFc s' c (getI xs).1 ∧ Ext s s' := by
  rw [F9.eq]
  unfold F9.f F9.p32
  have hz : ([AV.int .u8 0, AV.int .u8 0, AV.int .u8 0, AV.int .u8 0, AV.int .u64 0, AV.int .u64 0, AV.int .u32 0, AV.int .u32 0, AV.int .u32 0, AV.int .u64 0, AV.int .u64 0, AV.nilsl, AV.nilsl, AV.nilsl, AV.nilsl, AV.nilsl] : List AV) = fcs FI.zero cN := rfl
  have hbz : ∀ f : List AV → Rz, aBuild [] (fcs FI.zero cN) f = f (fcs FI.zero cN) := fun f => rfl
  rw [hz, new_s, show (fcs FI.zero cN).length = 16 from rfl]
  unfold F9.p31
  rw [hz, hbz, new_all (n := 16) (s := s.push (.cells (fcs FI.zero cN) false)) rfl rfl]
  have e0 : Ext s ((s.push (.cells (fcs FI.zero cN) false)).push (.cells (fcs FI.zero cN) false)) := (Ext.push s _).trans (Ext.push _ _)
  have g0 : ((s.push (.cells (fcs FI.zero cN) false)).push (.cells (fcs FI.zero cN) false)).get s.next = .cells (fcs FI.zero cN) false := by
    rw [(Ext.push (s.push (.cells (fcs FI.zero cN) false)) _).get s.next (Nat.lt_succ_self _), get_push, if_pos rfl]
  have n0 : ((s.push (.cells (fcs FI.zero cN) false)).push (.cells (fcs FI.zero cN) false)).get (s.next + 1) = .cells (fcs FI.zero cN) false := by
    simp only [get_push, next_push, if_true]
  have l0 : s.next + 1 < ((s.push (.cells (fcs FI.zero cN) false)).push (.cells (fcs FI.zero cN) false)).next := Nat.lt_succ_self _
  have hn1 : (s.push (.cells (fcs FI.zero cN) false)).next = s.next + 1 := rfl
  rw [hn1]
  generalize (s.push (.cells (fcs FI.zero cN) false)).push (.cells (fcs FI.zero cN) false) = t at *
  unfold F9.p30
  obtain ⟨v1, s1, k1, w1, e1⟩ := rfits_run (hv.ext e0) hu (k + 8) (by omega) (by omega) (by omega)
  obtain ⟨fu, fl⟩ := fitsI_u8 hu
  have k1 : rn (k + 11) 21 [bv] t = some (.tuple [v1, .int .i64 (fitsI xs).2], s1) := k1
  rw [k1, bnd]
  simp only [x2_0, x2_1]
  -- the two rows are there
  have keep : ∀ {u : Store}, Ext t u → u.get s.next = .cells (fcs FI.zero cN) false ∧ u.get (s.next + 1) = .cells (fcs FI.zero cN) false ∧ s.next + 1 < u.next ∧ Ext s u := fun e => ⟨(e.get _ (by omega)).trans g0, (e.get _ l0).trans n0, Nat.lt_of_lt_of_le l0 e.next, e0.trans e⟩
  have bad : ∀ (e : AV) (u : Store) (z : FI) (c : AVs), u.get s.next = .cells (fcs z c) false → u.get (s.next + 1) = .cells (fcs FI.zero cN) false → Ext s u → ∃ c' s', (aLoadN 16 (.ptr (s.next + 1) 0 16) u fun v2 => aStore 16 (.ptr s.next 0 16) v2 u fun s3 => aLoadN 16 (.ptr s.next 0 16) s3 fun v4 => (some (AV.tuple [v4, e], s3) : Rz)) = some (.tuple [.agg (fcs FI.zero c'), e], s') ∧ IsFc s' c' FI.zero ∧ Ext s s' := by
    intro e st z c q1 q2 q3
    rw [rld_all (n := 16) q2 rfl, rst_all (n := 16) q1 rfl rfl, rld_all (n := 16) (s := st.set s.next _) (cs := fcs FI.zero cN) (ro := false) (by rw [get_set, if_pos rfl]) rfl]
    exact ⟨cN, _, rfl, isfc_nil rfl rfl rfl rfl rfl, ⟨q3.next, fun l hl => by rw [get_set, if_neg (by omega)]; exact q3.get l hl⟩⟩
  unfold F9.p29
  rw [neq_i]
  by_cases c1 : (fitsI xs).2 = 0
  case neg =>
    rw [show ((fitsI xs).2 != 0) = true from by simpa using c1, if_t]
    have hg : getI xs = (FI.zero, (fitsI xs).2) := by
      unfold getI
      rw [show bodyI xs = ([], (fitsI xs).2) from by unfold bodyI; rw [if_pos c1], if_pos c1]
    rw [hg]
    obtain ⟨a1, a2, a3, a4⟩ := keep e1
    exact bad _ s1 _ _ a1 a2 a4
  rw [show ((fitsI xs).2 != 0) = false from by simp [c1], if_f]
  have hbd0 : bodyI xs = if (rdNum (fitsI xs).1 0 18446744073709551615).2.2 ≠ 0 then ([], (rdNum (fitsI xs).1 0 18446744073709551615).2.2) else if ((rdNum (fitsI xs).1 0 18446744073709551615).2.1.length : Int) + 4 < (rdNum (fitsI xs).1 0 18446744073709551615).1 then ([], 2) else if ((rdNum (fitsI xs).1 0 18446744073709551615).2.1.length : Int) + 4 > (rdNum (fitsI xs).1 0 18446744073709551615).1 then ([], 4) else if ((rdNum (fitsI xs).1 0 18446744073709551615).2.1.length : Int) + 4 < 8 then ([], 2) else ((rdNum (fitsI xs).1 0 18446744073709551615).2.1, 0) := by
    unfold bodyI
    rw [if_neg (by simp [c1])]
  generalize hB : (fitsI xs).1 = B at *
  have hBl : B.length ≤ 1000000 := by omega
  unfold F9.p28
  have hbr : ∀ f : List AV → Rz, aBuild [(0, 1, v1)] [AV.nilsl, AV.int .i64 0] f = f [v1, .int .i64 0] := fun f => by
    rcases w1 with ⟨q, _⟩ | ⟨l, off, ys, ro, q, _⟩ <;> subst q <;> rfl
  rw [hbr, new_all (n := 2) (s := s1) rfl rfl]
  have e2 := Ext.push s1 (.cells [v1, .int .i64 0] false)
  have g2 : (s1.push (.cells [v1, .int .i64 0] false)).get s1.next = .cells [v1, .int .i64 0] false := by rw [get_push, if_pos rfl]
  have w2 := w1.ext e2
  unfold F9.p27
  generalize s1.push (.cells [v1, .int .i64 0] false) = t2 at *
  rw [rld_all (n := 2) g2 rfl]
  obtain ⟨w, s3, r1, r2, r3, _⟩ := rr_at g2 w2 fu hBl 18446744073709551615 (k + 9) (by omega) (by omega)
  have r1 : rn (k + 11) 22 [.agg [v1, .int .i64 0], .int .u64 18446744073709551615] t2 = _ := r1
  rw [r1, bnd]
  simp only [x2_0, x2_1]
  rw [new_all (n := 2) (s := s3) rfl rfl]
  have hnu := rdNum_u8 (e := 0) (most := 18446744073709551615) fu
  have hnl := rdNum_len (b := B) (e := 0) (most := 18446744073709551615)
  have hbn := rdNum_bnd fu 0 (most := 18446744073709551615) (by omega)
  generalize hN : rdNum B 0 18446744073709551615 = N at *
  have e4 := Ext.push s3 (.cells [w, .int .i64 N.2.2] false)
  have g4 : (s3.push (.cells [w, .int .i64 N.2.2] false)).get s3.next = .cells [w, .int .i64 N.2.2] false := by rw [get_push, if_pos rfl]
  have l4 : s3.next < (s3.push (.cells [w, .int .i64 N.2.2] false)).next := Nat.lt_succ_self _
  have w4 := r2.ext e4
  have et4 := ((e1.trans e2).trans r3).trans e4
  have ld3 : t.next ≤ s3.next := ((e1.trans e2).trans r3).next
  generalize s3.push (.cells [w, .int .i64 N.2.2] false) = t4 at *
  obtain ⟨a1, a2, a3, a4⟩ := keep et4
  unfold F9.p26
  have lE : ∀ f : AV → Rz, aLoad1 (.ptr s3.next 1 2) t4 f = f (.int .i64 N.2.2) := fun f => load_1 g4 rfl rfl
  have lB : ∀ f : AV → Rz, aLoad1 (.ptr s3.next 0 2) t4 f = f w := fun f => load_1 g4 rfl rfl
  rw [fld_p, Nat.zero_add, lE, neq_i]
  unfold F9.p25
  by_cases c2 : N.2.2 = 0
  case neg =>
    rw [show (N.2.2 != 0) = true from by simpa using c2, if_t]
    have hg : getI xs = (FI.zero, N.2.2) := by
      unfold getI
      rw [hbd0, if_pos c2, if_pos c2]
    rw [hg]
    unfold F9.p23 F9.p22
    rw [rld_all (n := 16) a2 rfl]
    simp only [bnd, fld_p, Nat.zero_add, lE]
    rw [rst_all (n := 16) a1 rfl rfl]
    simp only [bnd]
    have lE2 : ∀ f : AV → Rz, aLoad1 (.ptr s3.next 1 2) (t4.set s.next (.cells (fcs FI.zero cN) false)) f = f (.int .i64 N.2.2) := fun f => load_1 (by rw [get_set, if_neg (by omega)]; exact g4) rfl rfl
    rw [lE2]
    simp only [bnd, aSame_self]
    rw [rld_all (n := 16) (s := t4.set s.next _) (cs := fcs FI.zero cN) (ro := false) (by rw [get_set, if_pos rfl]) rfl]
    exact ⟨cN, _, rfl, isfc_nil rfl rfl rfl rfl rfl, ⟨a4.next, fun l hl => by rw [get_set, if_neg (by omega)]; exact a4.get l hl⟩⟩
  rw [show (N.2.2 != 0) = false from by simp [c2], if_f]
  rw [if_neg (show ¬ N.2.2 ≠ 0 from fun q => q c2)] at hbd0
  unfold F9.p24 F9.p21
  have hadd : IntKind.i64.wrap ((N.2.1.length : Int) + 4) = (N.2.1.length : Int) + 4 := w_i64 (by omega) (by omega)
  have hcv : IntKind.u64.wrap ((N.2.1.length : Int) + 4) = (N.2.1.length : Int) + 4 := w_u64 (by omega) (by omega)
  rw [fld_p, Nat.zero_add, lB, lenV w4, add_i, hadd, conv_i, hcv]
  unfold F9.p20
  simp only [lss_i, bnd, fld_p, Nat.zero_add, gn_some, gn_same, gn_v, gv_gv, gn_fa, gn_ld, gn_len, gn_b1, gn_b2, gn_pk, gn_ct, gn_cf, gn_dt, gn_df, pn_and, pn_or, pn_tt, pn_tf, pn_ft, pn_ff, eql_i, lB, lenV w4]
  by_cases c3 : (N.2.1.length : Int) + 4 < N.1
  · rw [decide_eq_true c3, Bool.true_or, if_t]
    have hg : getI xs = (FI.zero, 2) := by
      unfold getI
      rw [hbd0, if_pos c3, if_pos (by decide)]
    rw [hg]
    exact bad _ t4 _ _ a1 a2 a4
  rw [decide_eq_false c3, Bool.false_or]
  rw [if_neg c3] at hbd0
  unfold F9.p19
  by_cases c4 : (N.2.1.length : Int) + 4 > N.1
  · rw [show (((N.2.1.length : Int) + 4 == N.1) && decide ((N.2.1.length : Int) < 4)) = false from by rw [beq_eq_false_iff_ne.2 (by omega)]; rfl, if_f, gtr_i, decide_eq_true c4, if_t]
    have hg : getI xs = (FI.zero, 4) := by
      unfold getI
      rw [hbd0, if_pos c4, if_pos (by decide)]
    rw [hg]
    exact bad _ t4 _ _ a1 a2 a4
  rw [if_neg c4] at hbd0
  rw [show ((N.2.1.length : Int) + 4 == N.1) = true from beq_iff_eq.2 (by omega), Bool.true_and]
  by_cases c5 : (N.2.1.length : Int) + 4 < 8
  · rw [decide_eq_true (show (N.2.1.length : Int) < 4 by omega), if_t]
    have hg : getI xs = (FI.zero, 2) := by
      unfold getI
      rw [hbd0, if_pos c5, if_pos (by decide)]
    rw [hg]
    exact bad _ t4 _ _ a1 a2 a4
  rw [decide_eq_false (show ¬ (N.2.1.length : Int) < 4 by omega), if_f, gtr_i, decide_eq_false c4, if_f]
  rw [if_neg c5] at hbd0
  unfold getI
  rw [hbd0, if_neg (show ¬ ((N.2.1, (0 : Int)).2 ≠ 0) from fun q => q rfl)]
  unfold F9.p18 F9.p17
  rw [fld_p, Nat.zero_add, lB]
  generalize hNb : N.2.1 = b at *
  have at_ : ∀ (i : Nat), i < b.length → ∃ p, (∀ f : AV → Rz, aIndexSl 1 w (.int .i64 (i : Int)) f = f p) ∧ (∀ {st : Store}, Ext t4 st → ∀ f : AV → Rz, aLoad1 p st f = f (.int .u8 (b.getD i 0))) := by
    intro i hi
    obtain ⟨p, p1, p2⟩ := atV w4 (i := (i : Int)) (by omega) (by omega)
    refine ⟨p, fun f => p1 .i64 f, fun {st} e f => ?_⟩
    obtain ⟨p', p1', p2'⟩ := atV (w4.ext e) (i := (i : Int)) (by omega) (by omega)
    have : p = p' := by
      have a := p1 .i64 (α := AV) some
      have b := p1' .i64 (α := AV) some
      rw [a] at b
      exact Option.some.inj b
    rw [this, p2', Int.toNat_natCast]
  obtain ⟨p0, i0, d0⟩ := at_ 0 (by omega)
  obtain ⟨p1, i1, d1⟩ := at_ 1 (by omega)
  obtain ⟨p2, i2, d2⟩ := at_ 2 (by omega)
  obtain ⟨p3, i3, d3⟩ := at_ 3 (by omega)
  have i0' : ∀ f : AV → Rz, aIndexSl 1 w (.int .i64 0) f = f p0 := i0
  have i1' : ∀ f : AV → Rz, aIndexSl 1 w (.int .i64 1) f = f p1 := i1
  have i2' : ∀ f : AV → Rz, aIndexSl 1 w (.int .i64 2) f = f p2 := i2
  have i3' : ∀ f : AV → Rz, aIndexSl 1 w (.int .i64 3) f = f p3 := i3
  rw [i0', d0 (Ext.refl t4), neq_i]
  by_cases c6 : b.getD 0 0 = 1
  case neg =>
    rw [show (b.getD 0 0 != 1) = true from bne_iff_ne.2 c6, if_t, if_pos c6]
    exact bad _ t4 _ _ a1 a2 a4
  rw [show (b.getD 0 0 != 1) = false from by rw [c6]; rfl, if_f, if_neg (fun q => q c6)]
  unfold F9.p16
  have hf : rn (k + 11) 23 [.int .u8 (b.getD 1 0)] t4 = some (.str (hOf (b.getD 1 0)), t4) := fields_run _ t4 (k + 10)
  rw [i1', d1 (Ext.refl t4), hf, bnd]
  simp only
  unfold F9.p15
  have hes : ∀ f : AV → Rz, aBin .eql (.str (hOf (b.getD 1 0))) (.str ⟨#[]⟩) f = f (.bool (emptyB (hOf (b.getD 1 0)))) := fun f => rfl
  have hemp : emptyB (hOf (b.getD 1 0)) = decide (b.getD 1 0 < 1 ∨ b.getD 1 0 > 10) := by
    have hd := getD_u8 hnu 1
    rw [emptyB_eq]
    have : b.getD 1 0 = 1 ∨ b.getD 1 0 = 2 ∨ b.getD 1 0 = 3 ∨ b.getD 1 0 = 4 ∨ b.getD 1 0 = 5 ∨ b.getD 1 0 = 6 ∨ b.getD 1 0 = 7 ∨ b.getD 1 0 = 8 ∨ b.getD 1 0 = 9 ∨ b.getD 1 0 = 10 ∨ (b.getD 1 0 < 1 ∨ b.getD 1 0 > 10) := by omega
    rcases this with h | h | h | h | h | h | h | h | h | h | h
    all_goals first | (rw [h]; decide) | skip
    rw [decide_eq_true h]
    unfold hOf
    rw [if_neg (by omega), if_neg (by omega), if_neg (by omega), if_neg (by omega), if_neg (by omega), if_neg (by omega), if_neg (by omega), if_neg (by omega)]
    rfl
  rw [hes, hemp]
  by_cases c7 : b.getD 1 0 < 1 ∨ b.getD 1 0 > 10
  · rw [decide_eq_true c7, if_t, if_pos c7]
    exact bad _ t4 _ _ a1 a2 a4
  rw [decide_eq_false c7, if_f, if_neg c7]
  unfold F9.p14
  rw [hz, hbz, new_all (n := 16) (s := t4) rfl rfl]
  have e5 := Ext.push t4 (.cells (fcs FI.zero cN) false)
  have g5 : (t4.push (.cells (fcs FI.zero cN) false)).get t4.next = .cells (fcs FI.zero cN) false := by rw [get_push, if_pos rfl]
  have l5 : t4.next < (t4.push (.cells (fcs FI.zero cN) false)).next := Nat.lt_succ_self _
  generalize t4.push (.cells (fcs FI.zero cN) false) = t5 at *
  unfold F9.p13 F9.p12 F9.p11 F9.p10
  have es : ∀ {u : Store} {o : AObj}, Ext t4 u → Ext t4 (u.set t4.next o) := fun e => ⟨e.next, fun l hl => by rw [get_set, if_neg (by omega)]; exact e.get l hl⟩
  have s1c : ∀ {u : Store} {cs : List AV} (j : Nat) (v : Int), u.get t4.next = .cells cs false → cs.length = 16 → j < 16 → ∀ f : Store → Rz, aStore 1 (.ptr t4.next j 16) (.int .u8 v) u f = f (u.set t4.next (.cells (cs.set j (.int .u8 v)) false)) := fun j v q1 q2 q3 f => st_cell q1 q2 q3 (fun f => rfl) f
  rw [i1', d1 e5]
  simp only [fld_p, Nat.zero_add, Nat.add_zero]
  rw [s1c 0 _ g5 rfl (by omega), i2', d2 (es e5)]
  rw [s1c (cs := (fcs FI.zero cN).set 0 (.int .u8 (b.getD 1 0))) 1 _ (by rw [get_set, if_pos rfl]) rfl (by omega), i3', d3 (es (es e5))]
  rw [s1c (cs := ((fcs FI.zero cN).set 0 (.int .u8 (b.getD 1 0))).set 1 (.int .u8 (b.getD 2 0))) 2 _ (by rw [get_set, if_pos rfl]) rfl (by omega)]
  have e6 := es (o := .cells ((((fcs FI.zero cN).set 0 (.int .u8 (b.getD 1 0))).set 1 (.int .u8 (b.getD 2 0))).set 2 (.int .u8 (b.getD 3 0))) false) (es (o := .cells (((fcs FI.zero cN).set 0 (.int .u8 (b.getD 1 0))).set 1 (.int .u8 (b.getD 2 0))) false) (es (o := .cells ((fcs FI.zero cN).set 0 (.int .u8 (b.getD 1 0))) false) e5))
  have g6 : ((((t5.set t4.next (.cells ((fcs FI.zero cN).set 0 (.int .u8 (b.getD 1 0))) false)).set t4.next (.cells (((fcs FI.zero cN).set 0 (.int .u8 (b.getD 1 0))).set 1 (.int .u8 (b.getD 2 0))) false)).set t4.next (.cells ((((fcs FI.zero cN).set 0 (.int .u8 (b.getD 1 0))).set 1 (.int .u8 (b.getD 2 0))).set 2 (.int .u8 (b.getD 3 0))) false))).get t4.next = .cells (fcs (frame0 b) cN) false := by rw [get_set, if_pos rfl]; rfl
  have l6 : t4.next < ((((t5.set t4.next (.cells ((fcs FI.zero cN).set 0 (.int .u8 (b.getD 1 0))) false)).set t4.next (.cells (((fcs FI.zero cN).set 0 (.int .u8 (b.getD 1 0))).set 1 (.int .u8 (b.getD 2 0))) false)).set t4.next (.cells ((((fcs FI.zero cN).set 0 (.int .u8 (b.getD 1 0))).set 1 (.int .u8 (b.getD 2 0))).set 2 (.int .u8 (b.getD 3 0))) false))).next := l5
  generalize ((t5.set t4.next (.cells ((fcs FI.zero cN).set 0 (.int .u8 (b.getD 1 0))) false)).set t4.next (.cells (((fcs FI.zero cN).set 0 (.int .u8 (b.getD 1 0))).set 1 (.int .u8 (b.getD 2 0))) false)).set t4.next (.cells ((((fcs FI.zero cN).set 0 (.int .u8 (b.getD 1 0))).set 1 (.int .u8 (b.getD 2 0))).set 2 (.int .u8 (b.getD 3 0))) false) = t6 at *
  have w6 := w4.ext e6
  obtain ⟨w7, w7s, _, _, _, w7e⟩ := sliceV w6 (a := 4) (b := b.length) (by omega) (by omega)
  have w7' : ∀ f : AV → Rz, aSliceSl 1 w (some (.int .i64 4)) none f = f w7 := fun f => w7e rfl .i64 f
  rw [List.take_of_length_le (by simp)] at w7s
  have gd6 : t6.get s3.next = .cells [w, .int .i64 N.2.2] false := (e6.get _ l4).trans g4
  rw [w7', st_cell (off := 0) (ep := 2) (v := w7) gd6 rfl (by omega) (fun f => cellsW w7s f)]
  have hset : [w, AV.int .i64 N.2.2].set 0 w7 = [w7, .int .i64 0] := by rw [c2]; rfl
  rw [hset]
  have hne : t4.next ≠ s3.next := by omega
  have fd : FRw t6 s3.next := .inr ⟨_, _, _, gd6⟩
  have gF7 : (t6.set s3.next (.cells [w7, .int .i64 0] false)).get t4.next = .cells (fcs (frame0 b) cN) false := by rw [get_set, if_neg hne]; exact g6
  have gd7 : (t6.set s3.next (.cells [w7, .int .i64 0] false)).get s3.next = .cells [w7, .int .i64 0] false := by rw [get_set, if_pos rfl]
  have wv7 := w7s.fr (.inr rfl) fd (.cells [w7, .int .i64 0] false)
  have lF7 : t4.next < (t6.set s3.next (.cells [w7, .int .i64 0] false)).next := l6
  have ld7 : s3.next < (t6.set s3.next (.cells [w7, .int .i64 0] false)).next := by show s3.next < t6.next; omega
  have a17 : (t6.set s3.next (.cells [w7, .int .i64 0] false)).get s.next = .cells (fcs FI.zero cN) false := by rw [get_set, if_neg (by omega), e6.get _ (by omega)]; exact a1
  have a27 : (t6.set s3.next (.cells [w7, .int .i64 0] false)).get (s.next + 1) = .cells (fcs FI.zero cN) false := by rw [get_set, if_neg (by omega), e6.get _ (by omega)]; exact a2
  have a47 : Ext s (t6.set s3.next (.cells [w7, .int .i64 0] false)) := ⟨Nat.le_trans a4.next e6.next, fun l hl => by rw [get_set, if_neg (by omega), e6.get _ (by omega)]; exact a4.get l hl⟩
  have l47 : s.next + 1 < (t6.set s3.next (.cells [w7, .int .i64 0] false)).next := by show s.next + 1 < t6.next; omega
  generalize t6.set s3.next (.cells [w7, .int .i64 0] false) = t7 at *
  unfold F9.p9
  have hsz := hOf_size (b.getD 1 0)
  obtain ⟨c8, w8, s8, z1, z2, z3, z4, z5, z6⟩ := rget_loop (k + 7) (by omega) (by omega) hne (h := hOf (b.getD 1 0)) (by omega) (x2 := .ptr s.next 0 16) (x4 := .ptr (s.next + 1) 0 16) (k + 11) 0 t7 (frame0 b) cN w7 (b.drop 4) 0 gF7 gd7 lF7 ld7 (isfc_nil rfl rfl rfl rfl rfl) wv7 (fun x hx => hnu x (List.mem_of_mem_drop hx)) (by simp; omega) (by omega) (by omega)
  rw [Int.natCast_zero] at z1
  rw [z1]
  rw [List.drop_zero] at z2 z3 z4 z5
  have hrr : (lets (hOf (b.getD 1 0))).foldl (fun st l => tkStep l st) (frame0 b, b.drop 4, 0) = readR b := rfl
  rw [hrr] at z2 z3 z4 z5
  have b1 : s8.get s.next = .cells (fcs FI.zero cN) false := by rw [z6.get _ (by omega) (by omega) (by omega)]; exact a17
  have b2 : s8.get (s.next + 1) = .cells (fcs FI.zero cN) false := by rw [z6.get _ (by omega) (by omega) (by omega)]; exact a27
  have b4 : Ext s s8 := z6.ext a47 (by omega) (by omega)
  have lF8 : t4.next < s8.next := Nat.lt_of_lt_of_le lF7 z6.next
  have ld8 : s3.next < s8.next := Nat.lt_of_lt_of_le ld7 z6.next
  have l48 : s.next + 1 < s8.next := Nat.lt_of_lt_of_le l47 z6.next
  obtain ⟨er1, er2⟩ := end_rel (b := b)
  unfold F9.p5
  rw [rld_all (n := 2) z3 rfl]
  obtain ⟨s9, r9, e9⟩ := rr_end (e := (readR b).2.2) z5 (k + 10)
  have r9 : rn (k + 7 + 4) 25 [.agg [w8, .int .i64 (readR b).2.2]] s8 = some (.int .i64 (endR (readR b).2.1 (readR b).2.2), s9) := r9
  rw [r9, bnd, neq_i, er1]
  unfold F9.p4
  have b19 := (e9.get _ (by omega)).trans b1
  have b29 := (e9.get _ (by omega)).trans b2
  have b49 := b4.trans e9
  have z29 := (e9.get _ lF8).trans z2
  have z39 := (e9.get _ ld8).trans z3
  have z49 := z4.ext e9
  have z59 := z5.ext e9
  by_cases cE : endR (readI b).2.1 (readI b).2.2 = 0
  case neg =>
    rw [show (endR (readI b).2.1 (readI b).2.2 != 0) = true from by simpa using cE, if_t, if_pos cE]
    unfold F9.p2 F9.p1
    rw [rld_all (n := 16) b29 rfl]
    simp only [bnd]
    rw [rld_all (n := 2) z39 rfl]
    simp only [bnd]
    obtain ⟨sA, rA, eA⟩ := rr_end (e := (readR b).2.2) z59 (k + 10)
    have rA : rn (k + 7 + 4) 25 [.agg [w8, .int .i64 (readR b).2.2]] s9 = some (.int .i64 (endR (readR b).2.1 (readR b).2.2), sA) := rA
    rw [rA]
    simp only [bnd]
    have b1A := (eA.get _ (Nat.lt_of_lt_of_le (by omega) e9.next)).trans b19
    have b2A := (eA.get _ (Nat.lt_of_lt_of_le (by omega) e9.next)).trans b29
    have b4A := b49.trans eA
    rw [rld_all (n := 16) b2A rfl]
    simp only [bnd, aSame_self]
    rw [rst_all (n := 16) b1A rfl rfl]
    simp only [bnd]
    rw [rld_all (n := 16) (s := sA.set s.next _) (cs := fcs FI.zero cN) (ro := false) (by rw [get_set, if_pos rfl]) rfl, er1]
    exact ⟨cN, _, rfl, isfc_nil rfl rfl rfl rfl rfl, ⟨b4A.next, fun l hl => by rw [get_set, if_neg (by omega)]; exact b4A.get l hl⟩⟩
  rw [show (endR (readI b).2.1 (readI b).2.2 != 0) = false from by simp [cE], if_f, if_neg (fun q => q cE)]
  rw [er2 cE] at z29 z39 z49 z59
  unfold F9.p3 F9.p0
  have hwf := readI_wf hnu
  rw [rld_all (n := 16) z29 rfl]
  obtain ⟨sA, rA, eA⟩ := rmay_run z49 hwf (k + 1) (by omega) (by omega)
  have rA : rn (k + 7 + 4) 16 [.agg (fcs (readI b).1 c8)] s9 = some (.bool (mayD (readI b).1), sA) := rA
  rw [rA, may_eq hwf]
  simp only [bnd, not_b]
  have b1A := (eA.get _ (Nat.lt_of_lt_of_le (by omega) e9.next)).trans b19
  have b2A := (eA.get _ (Nat.lt_of_lt_of_le (by omega) e9.next)).trans b29
  have b4A := b49.trans eA
  have zFA := (eA.get _ (Nat.lt_of_lt_of_le lF8 e9.next)).trans z29
  cases hm : mayC (readI b).1 with
  | false =>
    rw [Bool.not_false, if_t, if_pos rfl]
    exact bad _ sA _ _ b1A b2A b4A
  | true =>
    rw [Bool.not_true, if_f, if_neg (by simp)]
    rw [rld_all (n := 16) zFA rfl, rst_all (n := 16) b1A rfl rfl, rld_all (n := 16) (s := sA.set s.next _) (cs := fcs (readI b).1 c8) (ro := false) (by rw [get_set, if_pos rfl]) rfl]
    exact ⟨c8, _, rfl, (z49.ext eA).fr (.inl ⟨_, _, _, b1A⟩) _, ⟨b4A.next, fun l hl => by rw [get_set, if_neg (by omega)]; exact b4A.get l hl⟩⟩
end Go.Proofs.Ytkfdgegmahbkiaa.Sim
namespace Go.Proofs.Ytkfdgegmahbkiaa.Sim
set_option linter.unusedSimpArgs false
set_option linter.unusedVariables false

def numsW (l : List Int) : List Int := (l.map numB).flatten
theorem rnums_loop (k : Nat) (hk : 20 ≤ k) (hk2 : k ≤ 90000) {s0 : Store} {lv : AV} {l : List Int} (hv : IsV s0 lv .u64 l) (hu : ∀ x ∈ l, 0 ≤ x ∧ x < 18446744073709551616) (hl : l.length ≤ 100) : ∀ (n i : Nat) (s : Store) (v : AV) (xs : List Int), Ext s0 s → OwnV s v .u8 xs s0.next → xs.length + (l.length - i) * 9 ≤ 90000 → i ≤ l.length → l.length - i < n →
    ∃ v' s', F27.l0 (k + 1) n lv v (.int .i64 l.length) (.int .i64 (i : Int)) s = some (v', s') ∧ OwnV s' v' .u8 (xs ++ numsW (l.drop i)) s0.next ∧ Ext s0 s'
  | 0, i, _, _, _, _, _, _, hi, hn => by omega
  | n + 1, i, s, v, xs, e, ho, hb, hi, hn => by
    have hs : F27.l0 (k + 1) (n + 1) = fun x0 x3 x10 x11 s => F27.p4 (k + 1) (F27.l0 (k + 1) n) x0 x3 x10 x11 s := rfl
    rw [hs]
    clear hs
    simp only
    unfold F27.p4 F27.p3
    rw [lss_i]
    by_cases h : i < l.length
    · rw [decide_eq_true (show (i : Int) < (l.length : Int) by omega), if_t]
      unfold F27.p2 F27.p1
      obtain ⟨p, p1, p2⟩ := atV (hv.ext e) (i := (i : Int)) (by omega) (by omega)
      have hd : l.getD ((i : Int)).toNat 0 = l[i] := by simp [h]
      have hx := hu _ (List.getElem_mem h)
      obtain ⟨w, s1, k1, k2, k3⟩ := rnum_run (s := s) hx.1 hx.2 k hk (by omega)
      have hnl := numB_len l[i]
      obtain ⟨v2, s2, j1, j2, j3, _⟩ := appV (bytes := 1) (ho.ext k3) (Nat.le_trans e.next k3.next) k2.is (by omega) (by omega)
      have hw2 : IntKind.i64.wrap ((i : Int) + 1) = ((i + 1 : Nat) : Int) := by rw [w_i64 (by omega) (by omega)]; omega
      rw [p1, p2, hd, k1, bnd]
      simp only
      rw [j1, add_i, hw2]
      obtain ⟨v', s', g1, g2, g3⟩ := rnums_loop k hk hk2 hv hu hl n (i + 1) s2 v2 (xs ++ numB l[i]) ((e.trans k3).lo' j3) j2 (by simp only [List.length_append]; omega) (by omega) (by omega)
      refine ⟨v', s', g1, ?_, g3⟩
      rw [List.drop_eq_getElem_cons h]
      show OwnV s' v' .u8 (xs ++ (numB l[i] ++ numsW (l.drop (i + 1)))) _
      rw [← List.append_assoc]; exact g2
    · rw [decide_eq_false (show ¬ (i : Int) < (l.length : Int) by omega), if_f, List.drop_eq_nil_of_le (by omega)]
      exact ⟨v, s, rfl, by simpa [numsW] using ho, e⟩
theorem rnums_run {s : Store} {lv : AV} {l : List Int} (hv : IsV s lv .u64 l) (hu : ∀ x ∈ l, 0 ≤ x ∧ x < 18446744073709551616) (hl : l.length ≤ 100) (k : Nat) (hk : 200 ≤ k) (hk2 : k ≤ 90000) : ∃ v' s', rn (k + 2) 27 [lv] s = some (v', s') ∧ OwnV s' v' .u8 (numB l.length ++ numsW l) s.next ∧ Ext s s' := by
  rw [F27.eq]
  unfold F27.f F27.p7 F27.p6
  obtain ⟨w, s1, k1, k2, k3⟩ := rnum_run (s := s) (n := (l.length : Int)) (by omega) (by omega) k (by omega) (by omega)
  rw [lenV hv, conv_i, w_u64 (by omega) (by omega), k1, bnd]
  unfold F27.p5
  have hnl := numB_len (l.length : Int)
  simp only
  rw [lenV hv]
  obtain ⟨v', s', g1, g2, g3⟩ := rnums_loop k (by omega) hk2 hv hu hl (k + 1) 0 s1 w (numB l.length) k3 k2 (by omega) (by omega) (by omega)
  rw [Int.natCast_zero] at g1
  rw [List.drop_zero] at g2
  exact ⟨v', s', g1, g2, g3⟩
theorem eq_2s (a b : Int) {α : Type} (f : Bool → Option α) : aEq (.struct [.int, .int]) (.agg [.int .u8 a, .int .u64 b]) (.agg [.int .u8 a, .int .u64 b]) f = f true := by
  simp only [aEq, eqCells, if_true, Option.map_some, beq_self_eq_true, Bool.true_and]
theorem same_run6 {s : Store} {x : FI} {c c' : AVs} (hc : IsFc s c x) (hc' : IsFc s c' x) (hw : WfF x) (k : Nat) (hk : 300 ≤ k) (hk2 : k ≤ 80000) : ∃ s', rn (k + 10) 10 [.agg (fcs x c), .agg (fcs x c')] s = some (.bool true, s') ∧ Ext s s' := by
  rw [F10.eq]
  unfold F10.f F10.p3
  rw [cells_agg, new_s, cells_agg, new_s]
  simp only [show ∀ (y : FI) (d : AVs), (fcs y d).length = 16 from fun _ _ => rfl, next_push]
  have e1 := Ext.push s (.cells (fcs x c) false)
  have e2 := Ext.push (s.push (.cells (fcs x c) false)) (.cells (fcs x c') false)
  have ga : ((s.push (.cells (fcs x c) false)).push (.cells (fcs x c') false)).get s.next = .cells (fcs x c) false := by
    rw [e2.get s.next (Nat.lt_succ_self _), get_push, if_pos rfl]
  have gb : ((s.push (.cells (fcs x c) false)).push (.cells (fcs x c') false)).get (s.next + 1) = .cells (fcs x c') false := by
    simp only [get_push, next_push, if_true]
  have hlt : s.next + 1 < ((s.push (.cells (fcs x c) false)).push (.cells (fcs x c') false)).next := Nat.lt_succ_self _
  have ee := e1.trans e2
  generalize (s.push (.cells (fcs x c) false)).push (.cells (fcs x c') false) = t at *
  have A := FLd.mk' (s := t) (F := s.next) (x := x) (c := c) (ro := false) ga
  have B := FLd.mk' (s := t) (F := s.next + 1) (x := x) (c := c') (ro := false) gb
  unfold F10.p2
  simp only [bnd, guard_tt, guard_ff, guard_tf, guard_ft, pick_t, pick_f, if_t, if_f, add_i, sub_i, lss_i, leq_i, gtr_i, geq_i, eql_i, neq_i, min_i, max_i, conv_i, len_sl, len_nil, not_b, cells_agg, new_s, fld_p, nil_p, Nat.zero_add, Nat.add_zero, bne_self_eq_false, eq_2s, A.l0, A.l1, A.l2, A.n3, A.l5, A.l6, A.l7, A.l8, A.l9, A.l10, B.l0, B.l1, B.l2, B.n3, B.l5, B.l6, B.l7, B.l8, B.l9, B.l10, Bool.not_true]
  unfold F10.p1 F10.p0
  have hs1 : rn (k + 9) 26 [c.e, c'.e] t = some (.bool true, t) := by
    have := same_run (hc.ext ee).est (hc'.ext ee).est (by have := hw.estL; omega) (k + 8) (by have := hw.estL; omega)
    rwa [decide_eq_true rfl] at this
  have hs2 : rn (k + 9) 26 [c.a, c'.a] t = some (.bool true, t) := by
    have := same_run (hc.ext ee).aux (hc'.ext ee).aux (by have := hw.auxL; omega) (k + 8) (by have := hw.auxL; omega)
    rwa [decide_eq_true rfl] at this
  have num : ∀ {u : Store} {v : AV} {l : List Int}, IsV u v .u64 l → (∀ x ∈ l, 0 ≤ x ∧ x < 18446744073709551616) → l.length ≤ 100 → ∃ w u', rn (k + 9) 27 [v] u = some (w, u') ∧ IsV u' w .u8 (numB l.length ++ numsW l) ∧ Ext u u' := fun h1 h2 h3 => by
    obtain ⟨w, u', q1, q2, q3⟩ := rnums_run h1 h2 h3 (k + 7) (by omega) (by omega)
    exact ⟨w, u', q1, q2.is, q3⟩
  obtain ⟨w1, s1, q1, r1, x1⟩ := num (hc.ext ee).done hw.done hw.doneL
  have y1 := ee.trans x1
  have B1 := FLd.mk' (s := s1) (F := s.next + 1) (x := x) (c := c') (ro := false) ((x1.get _ hlt).trans gb)
  have A1 := FLd.mk' (s := s1) (F := s.next) (x := x) (c := c) (ro := false) ((x1.get _ (by omega)).trans ga)
  obtain ⟨w2, s2, q2, r2, x2⟩ := num (hc'.ext y1).done hw.done hw.doneL
  have y2 := y1.trans x2
  have x12 := x1.trans x2
  have A2 := FLd.mk' (s := s2) (F := s.next) (x := x) (c := c) (ro := false) ((x12.get _ (by omega)).trans ga)
  have B2 := FLd.mk' (s := s2) (F := s.next + 1) (x := x) (c := c') (ro := false) ((x12.get _ hlt).trans gb)
  obtain ⟨w3, s3, q3, r3, x3⟩ := num (hc.ext y2).held hw.held hw.heldL
  have y3 := y2.trans x3
  have x13 := x12.trans x3
  have B3 := FLd.mk' (s := s3) (F := s.next + 1) (x := x) (c := c') (ro := false) ((x13.get _ hlt).trans gb)
  obtain ⟨w4, s4, q4, r4, x4⟩ := num (hc'.ext y3).held hw.held hw.heldL
  have y4 := y3.trans x4
  have x14 := x13.trans x4
  have A4 := FLd.mk' (s := s4) (F := s.next) (x := x) (c := c) (ro := false) ((x14.get _ (by omega)).trans ga)
  have B4 := FLd.mk' (s := s4) (F := s.next + 1) (x := x) (c := c') (ro := false) ((x14.get _ hlt).trans gb)
  refine ⟨s4, ?_, y4⟩
  simp only [bnd, guard_tt, guard_ff, guard_tf, guard_ft, pick_t, pick_f, if_t, if_f, add_i, sub_i, lss_i, leq_i, gtr_i, geq_i, eql_i, neq_i, min_i, max_i, conv_i, len_sl, len_nil, not_b, cells_agg, new_s, fld_p, nil_p, Nat.zero_add, A.l11, B.l11, hs1, A.l12, B.l12, hs2, A.l13, q1, strV r1, B1.l13, B.l13, aSame_self, q2, strV (r1.ext x2), strV r2, eq_str_same]
  simp only [bnd, guard_tt, guard_ff, guard_tf, guard_ft, pick_t, pick_f, if_t, if_f, add_i, sub_i, lss_i, leq_i, gtr_i, geq_i, eql_i, neq_i, min_i, max_i, conv_i, len_sl, len_nil, not_b, cells_agg, new_s, fld_p, nil_p, Nat.zero_add, A2.l14, q3, strV r3, B3.l14, B2.l14, aSame_self, q4, strV (r3.ext x4), strV r4, eq_str_same, A4.l15, B4.l15, strV (hc.ext y4).data, strV (hc'.ext y4).data]

def wholeB (xs : List Int) : List Int := markB (numB ((xs.length : Int) + 4) ++ xs)
theorem whole_run {s : Store} {bv : AV} {xs : List Int} (hv : IsV s bv .u8 xs) (hu : ∀ x ∈ xs, 0 ≤ x ∧ x < 256) (k : Nat) (hk : 200 ≤ k) (hb : xs.length + 20 < k) (hk2 : k ≤ 90000) : ∃ v s', rn (k + 3) 12 [bv] s = some (v, s') ∧ IsV s' v .u8 (wholeB xs) ∧ Ext s s' := by
  rw [F12.eq]
  unfold F12.f F12.p0
  obtain ⟨w, s1, k1, k2, k3⟩ := rnum_run (s := s) (n := (xs.length : Int) + 4) (by omega) (by omega) (k + 1) (by omega) (by omega)
  rw [lenV hv, add_i, w_i64 (by omega) (by omega), conv_i, w_u64 (by omega) (by omega), k1, bnd]
  have hnl := numB_len ((xs.length : Int) + 4)
  obtain ⟨v2, s2, j1, j2, j3, _⟩ := appV (bytes := 1) k2 k3.next (hv.ext k3) (by omega) (by omega)
  have e2 := k3.lo' j3
  have hu2 : ∀ x ∈ numB ((xs.length : Int) + 4) ++ xs, 0 ≤ x ∧ x < 256 := fun x hx => by
    rcases List.mem_append.1 hx with h | h
    · exact numB_u8 _ x h
    · exact hu x h
  obtain ⟨v3, s3, r1, r2, r3⟩ := rmark_run j2.is hu2 k (by omega) (by simp only [List.length_append]; omega) (by omega)
  simp only
  rw [j1, r1, bnd]
  exact ⟨v3, s3, rfl, r2.is, e2.trans r3⟩
theorem wholeB_u8 {xs : List Int} (hu : ∀ x ∈ xs, 0 ≤ x ∧ x < 256) : ∀ x ∈ wholeB xs, 0 ≤ x ∧ x < 256 := markB_u8 fun x hx => by
  rcases List.mem_append.1 hx with h | h
  · exact numB_u8 _ x h
  · exact hu x h
theorem wholeB_len (xs : List Int) : (wholeB xs).length ≤ xs.length + 13 := by
  have hnl := numB_len ((xs.length : Int) + 4)
  unfold wholeB markB
  simp only [List.length_append, footB_len]
  omega
end Go.Proofs.Ytkfdgegmahbkiaa.Sim
namespace Go.Proofs.Ytkfdgegmahbkiaa.Sim
set_option linter.unusedSimpArgs false
set_option linter.unusedVariables false

section
variable {sB s : Store} {W id off ep : Nat} {bv : AV} {b : List Int}
variable {cs : List AV} {ro : Bool}
/-! ### lists are written -/
variable {F j : Nat} {ev : AV}
end
end Go.Proofs.Ytkfdgegmahbkiaa.Sim
