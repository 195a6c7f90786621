/- The texts B06I, B06J, B06K, B06L, B06M, B06N, B06O, B06P, B06Q, B06R, B06S, B06T, B06U, B06V, one behind the other. No condition. -/
import Derived.Test.YtkfdgegmahbkiaaB06H
namespace Go.Proofs.Ytkfdgegmahbkiaa.Sim
set_option linter.unusedSimpArgs false
set_option linter.unusedVariables false

/-! ### guards -/
/-- What is worked out only if a guard lets it. -/
def gv (w b : Bool) (v : AV) : AV := bif b == w then v else .tuple []
section
variable {α : Type} {s : Store} {b c e w : Bool} {v x y p : AV}
theorem gn_some : aGuard (.bool b) w (some (v, s)) (some (.tuple [], s)) = some (gv w b v, s) := by cases b <;> cases w <;> rfl
theorem gn_same {z : Option α} : aGuard (.bool b) w z z = z := by cases b <;> cases w <;> rfl
theorem gv_gv : gv w b (gv w b v) = gv w b v := by cases b <;> cases w <;> rfl
theorem gn_v {z : Option (AV × Store)} : aGuard (.bool b) w (some (gv w b v, s)) z = aGuard (.bool b) w (some (v, s)) z := by cases b <;> cases w <;> rfl
theorem gn_fa {off : Nat} {κ : AV → Option α} {z : Option α} : aGuard (.bool b) w (aFieldAddr off (gv w b p) κ) z = aGuard (.bool b) w (aFieldAddr off p κ) z := by cases b <;> cases w <;> rfl
theorem gn_ld {t : Store} {κ : AV → Option α} {z : Option α} : aGuard (.bool b) w (aLoad1 (gv w b p) t κ) z = aGuard (.bool b) w (aLoad1 p t κ) z := by cases b <;> cases w <;> rfl
theorem gn_ldn {n : Nat} {t : Store} {κ : AV → Option α} {z : Option α} : aGuard (.bool b) w (aLoadN n (gv w b p) t κ) z = aGuard (.bool b) w (aLoadN n p t κ) z := by cases b <;> cases w <;> rfl
theorem gn_len {κ : AV → Option α} {z : Option α} : aGuard (.bool b) w (aLen (gv w b p) κ) z = aGuard (.bool b) w (aLen p κ) z := by cases b <;> cases w <;> rfl
theorem gn_b1 {op : BinOp} {κ : AV → Option α} {z : Option α} : aGuard (.bool b) w (aBin op (gv w b x) y κ) z = aGuard (.bool b) w (aBin op x y κ) z := by cases b <;> cases w <;> rfl
theorem gn_b2 {op : BinOp} {κ : AV → Option α} {z : Option α} : aGuard (.bool b) w (aBin op x (gv w b y) κ) z = aGuard (.bool b) w (aBin op x y κ) z := by cases b <;> cases w <;> rfl
theorem gn_un {op : UnOp} {κ : AV → Option α} {z : Option α} : aGuard (.bool b) w (aUn op (gv w b x) κ) z = aGuard (.bool b) w (aUn op x κ) z := by cases b <;> cases w <;> rfl
theorem gn_pk {κ : AV → Option α} {z : Option α} : aGuard (.bool b) w (aPick (gv w b v) x y κ) z = aGuard (.bool b) w (aPick v x y κ) z := by cases b <;> cases w <;> rfl
theorem gn_ct {x z : Option α} : aGuard (gv true b (.bool c)) true x z = aGuard (.bool (b && c)) true x z := by cases b <;> cases c <;> rfl
theorem gn_cf {x z : Option α} : aGuard (gv true b (.bool c)) false x z = aGuard (.bool (!b || c)) false x z := by cases b <;> cases c <;> rfl
theorem gn_dt {x z : Option α} : aGuard (gv false b (.bool c)) true x z = aGuard (.bool (!b && c)) true x z := by cases b <;> cases c <;> rfl
theorem gn_df {x z : Option α} : aGuard (gv false b (.bool c)) false x z = aGuard (.bool (b || c)) false x z := by cases b <;> cases c <;> rfl
theorem pn_and {κ : AV → Option α} : aPick (.bool b) (gv true b (.bool c)) (.bool false) κ = κ (.bool (b && c)) := by cases b <;> cases c <;> rfl
theorem pn_or {κ : AV → Option α} : aPick (.bool b) (.bool true) (gv false b (.bool c)) κ = κ (.bool (b || c)) := by cases b <;> cases c <;> rfl
theorem pn_tt {κ : AV → Option α} {z : Option α} : aGuard (.bool b) true (aPick (.bool c) (gv true (b && c) (.bool e)) (.bool false) κ) z = aGuard (.bool b) true (κ (.bool (c && e))) z := by cases b <;> cases c <;> cases e <;> rfl
theorem pn_tf {κ : AV → Option α} {z : Option α} : aGuard (.bool b) true (aPick (.bool c) (.bool true) (gv false (!b || c) (.bool e)) κ) z = aGuard (.bool b) true (κ (.bool (c || e))) z := by cases b <;> cases c <;> cases e <;> rfl
theorem pn_ft {κ : AV → Option α} {z : Option α} : aGuard (.bool b) false (aPick (.bool c) (gv true (!b && c) (.bool e)) (.bool false) κ) z = aGuard (.bool b) false (κ (.bool (c && e))) z := by cases b <;> cases c <;> cases e <;> rfl
theorem pn_ff {κ : AV → Option α} {z : Option α} : aGuard (.bool b) false (aPick (.bool c) (.bool true) (gv false (b || c) (.bool e)) κ) z = aGuard (.bool b) false (κ (.bool (c || e))) z := by cases b <;> cases c <;> cases e <;> rfl
theorem gn_cl {k n : Nat} {l : List AV} {t : Store} {κ : AV × Store → Option α} {z : Option α} : aGuard (.bool b) w ((rn k n (gv w b x :: l) t).bind κ) z = aGuard (.bool b) w ((rn k n (x :: l) t).bind κ) z := by cases b <;> cases w <;> rfl
theorem if_fin : aIf (AV.bool b) (some (AV.bool false, s)) (some (AV.bool c, s)) = some (AV.bool (!b && c), s) := by cases b <;> cases c <;> rfl
end

/-- Does a byte stand in a text? -/
def inS (h : ByteArray) (c : Int) : Bool := h.data.toList.any fun x => (x.toNat : Int) == c
theorem in_loop (k : Nat) {h : ByteArray} (hb : h.size ≤ 1000) (c : Int) (s : Store) : ∀ (n i : Nat), i ≤ h.size → h.size - i < n → F37.l0 k n (.str h) (.int .u8 c) (.int .i64 (i : Int)) s = some (.bool ((h.data.toList.drop i).any fun x => (x.toNat : Int) == c), s)
  | 0, i, _, hn => by omega
  | n + 1, i, hi, hn => by
    have hs : F37.l0 k (n + 1) = fun x0 x1 x5 s => F37.p3 k (F37.l0 k n) x0 x1 x5 s := rfl
    rw [hs]
    clear hs
    simp only
    unfold F37.p3
    have hl : ∀ {α : Type} (f : AV → Option α), aLenStr (.str h) f = f (.int .i64 h.size) := fun f => rfl
    rw [hl, lss_i]
    by_cases q : i < h.size
    · rw [decide_eq_true (show (i : Int) < (h.size : Int) by omega), if_t]
      unfold F37.p2 F37.p1
      have hi2 : i < h.data.toList.length := q
      have hix : ∀ {α : Type} (f : AV → Option α), aIndexStr (.str h) (.int .i64 (i : Int)) f = f (.int .u8 (h.data.toList[i].toNat : Int)) := fun f => by
        simp only [aIndexStr]
        rw [if_pos (by omega), dif_pos (by rw [Int.toNat_natCast]; exact q)]
        rfl
      rw [hix, eql_i, List.drop_eq_getElem_cons hi2, List.any_cons]
      cases ((h.data.toList[i].toNat : Int) == c) with
      | true => rw [if_t]; rfl
      | false =>
        rw [if_f, add_i, w_i64 (by omega) (by omega), show (i : Int) + 1 = ((i + 1 : Nat) : Int) by omega, in_loop k hb c s n (i + 1) (by omega) (by omega), Bool.false_or]
    · rw [decide_eq_false (show ¬ (i : Int) < (h.size : Int) by omega), if_f, List.drop_eq_nil_of_le (show h.data.toList.length ≤ i by rw [ba_len]; omega)]
      rfl
theorem in_run {h : ByteArray} (hb : h.size ≤ 100) (c : Int) (s : Store) (k : Nat) (hk : 200 ≤ k) : rn (k + 1) 37 [.str h, .int .u8 c] s = some (.bool (inS h c), s) := by
  rw [F37.eq]
  unfold F37.f F37.p5 F37.p4
  have := in_loop k (h := h) (by omega) c s k 0 (by omega) (by omega)
  rw [Int.natCast_zero] at this
  exact this

def absB (x : FI) (h : ByteArray) : Bool :=
  !((((((!inS h 113 && x.seq != 0) || (!inS h 100 && (x.idf != 0 || x.ids != 0))) || (!inS h 97 && x.at_ != 0)) || (!inS h 111 && x.of_ != 0)) || (!inS h 122 && x.size != 0))) &&
  (!((((!inS h 105 && x.inst != 0) || (!inS h 114 && x.round != 0)) || (!inS h 101 && decide ((x.est.length : Int) > 0))) || (!inS h 120 && decide ((x.aux.length : Int) > 0))) &&
  (((inS h 110 || (x.done.length : Int) == 0) && (inS h 104 || (x.held.length : Int) == 0)) && (inS h 98 || (x.data.length : Int) == 0)))
theorem absent_run {s : Store} {x : FI} {c : AVs} {h : ByteArray} (hc : IsFc s c x) (hb : h.size ≤ 100) (k : Nat) (hk : 200 ≤ k) : rn (k + 2) 36 [.agg (fcs x c), .str h] s = some (.bool (absB x h), s.push (.cells (fcs x c) false)) := by
  rw [F36.eq]
  unfold F36.f F36.p0
  rw [cells_agg, new_s, show (fcs x c).length = 16 from rfl]
  have L := FLd.mk' (s := s.push (.cells (fcs x c) false)) (F := s.next) (x := x) (c := c) (ro := false) (by rw [get_push, if_pos rfl]; rfl)
  generalize s.push (.cells (fcs x c) false) = t at *
  simp only [bnd, in_run hb _ _ k hk, not_b, fld_p, Nat.zero_add, Nat.add_zero, gn_some, gn_same, gn_v, gv_gv, gn_fa, gn_ld, gn_ldn, gn_len, gn_b1, gn_b2, gn_un, gn_pk, gn_cl, gn_ct, gn_cf, gn_dt, gn_df, pn_and, pn_or, pn_tt, pn_tf, pn_ft, pn_ff, if_fin, L.l5, L.l3, L.l4, L.l6, L.l7, L.l8, L.l9, L.l10, L.l11, L.l12, L.l13, L.l14, L.l15, neq_i, eql_i, gtr_i, len_runs hc.est, len_runs hc.aux, lenV hc.done, lenV hc.held, lenV hc.data]
  rfl
end Go.Proofs.Ytkfdgegmahbkiaa.Sim
namespace Go.Proofs.Ytkfdgegmahbkiaa.Sim
set_option linter.unusedSimpArgs false
set_option linter.unusedVariables false

theorem kp_lists : ∀ (l : List WOp) (x : FI), (l.foldl (fun st op => kpStep op st) x).est = x.est ∧ (l.foldl (fun st op => kpStep op st) x).aux = x.aux ∧ (l.foldl (fun st op => kpStep op st) x).done = x.done ∧ (l.foldl (fun st op => kpStep op st) x).held = x.held ∧ (l.foldl (fun st op => kpStep op st) x).data.length ≤ x.data.length
  | [], _ => ⟨rfl, rfl, rfl, rfl, Nat.le_refl _⟩
  | o :: l, x => by
    obtain ⟨h1, h2, h3, h4, h5⟩ := kp_lists l (kpStep o x)
    simp only [List.foldl_cons]
    rw [h1, h2, h3, h4]
    have : (kpStep o x).est = x.est ∧ (kpStep o x).aux = x.aux ∧ (kpStep o x).done = x.done ∧ (kpStep o x).held = x.held ∧ (kpStep o x).data.length ≤ x.data.length := by
      cases o <;> simp only [kpStep, setF] <;> repeat' split
      all_goals simp
    exact ⟨this.1, this.2.1, this.2.2.1, this.2.2.2.1, Nat.le_trans h5 this.2.2.2.2⟩
theorem bare_run {s : Store} {x : FI} {c : AVs} (hc : IsFc s c x) (hw : WfF x) (k : Nat) (h1 : 1200 ≤ k) (h2 : k ≤ 79990) : ∃ s', rn (k + 4) 32 [.agg (fcs x c)] s = some (.bool (bareB x), s') ∧ Ext s s' := by
  rw [F32.eq]
  unfold F32.f F32.p5
  rw [cells_agg, new_s, show (fcs x c).length = 16 from rfl]
  unfold F32.p4
  rw [build_0]
  have e1 := Ext.push s (.cells (fcs x c) false)
  obtain ⟨s1, k1, c1, K⟩ := kp_visit (F := s.next) (s0 := s) (s := s.push (.cells (fcs x c) false)) (kd := x.kd) (x := x) k h1 h2 ⟨c, by rw [get_push, if_pos rfl], Nat.lt_succ_self _, rfl, fun e => hc.ext e, (wopsOf_good _).1, e1.fr1 _⟩
  rw [k1, bnd]
  have hkd := K.kd
  obtain ⟨z1, z2, z3, z4, z5⟩ := kp_lists (wopsOf x.kd) x
  have hb : bareB x = (let z := clrF ((wopsOf x.kd).foldl (fun st op => kpStep op st) x)
    decide (z.idf = 0 ∧ z.ids = 0) && (z.seq == 0) && (z.at_ == 0) && (z.of_ == 0) && (z.size == 0) && (z.inst == 0) && (z.round == 0) && ((z.est.length : Int) + z.aux.length + z.done.length + z.held.length + z.data.length == 0)) := rfl
  generalize (wopsOf x.kd).foldl (fun st op => kpStep op st) x = z at *
  have ee : Ext s s1 := ⟨K.fr.next, fun l hl => K.fr.get l hl (by omega)⟩
  have q1 := hw.estL
  have q2 := hw.auxL
  have q3 := hw.doneL
  have q4 := hw.heldL
  have q5 := hw.dataL
  have fin : ∀ (z' : FI) (c' : AVs) (s2 : Store), s2.get s.next = .cells (fcs z' c') false → Ext s s2 → IsFc s2 c' z' → clrF z = z' → z'.est.length ≤ 100 ∧ z'.aux.length ≤ 100 ∧ z'.done.length ≤ 100 ∧ z'.held.length ≤ 100 ∧ z'.data.length ≤ 65536 → ∃ s', F32.p0 (k + 3) (.ptr s.next 0 16) s2 = some (.bool (bareB x), s') ∧ Ext s s' := by
    intro z' c' s2 a1 a2 a3 a4 a5
    rw [bare_end _ a1 a3 a5, hb, a4]
    exact ⟨s2, rfl, a2⟩
  have hrow := K.row
  have hst : ∀ {cs : List AV} {t : Store} (j : Nat), t.get s.next = .cells cs false → cs.length = 16 → j < 16 → ∀ f : Store → Rz, aStore 1 (.ptr s.next j 16) .nilsl t f = f (t.set s.next (.cells (cs.set j .nilsl) false)) := fun j a1 a2 a3 f => st_cell a1 a2 a3 (fun f => rfl) f
  have es : ∀ {t : Store} {o : AObj}, Ext s t → Ext s (t.set s.next o) := fun e => ⟨e.next, fun l hl => by rw [get_set, if_neg (by omega)]; exact e.get l hl⟩
  unfold F32.p3
  have L := FLd.mk' (s := s1) (F := s.next) (x := z) (c := c1) (ro := false) hrow
  simp only [fld_p, Nat.add_zero, L.l0, hkd]
  unfold F32.p2
  have hlen : z.est.length ≤ 100 ∧ z.aux.length ≤ 100 ∧ z.done.length ≤ 100 ∧ z.held.length ≤ 100 ∧ z.data.length ≤ 65536 := ⟨by rw [z1]; exact q1, by rw [z2]; exact q2, by rw [z3]; exact q3, by rw [z4]; exact q4, by omega⟩
  have six : x.kd = 6 ∨ x.kd = 8 → ∃ s', F32.p1 (k + 3) (.ptr s.next 0 16) (.int .u8 x.kd) (.bool true) s1 = some (.bool (bareB x), s') ∧ Ext s s' := by
    intro h
    unfold F32.p1
    rw [if_t, fld_p, Nat.zero_add, hst 11 hrow rfl (by omega)]
    refine fin { z with est := [] } { c1 with e := .nilsl } _ (by rw [get_set, if_pos rfl]; rfl) (es ee) ?_ (by unfold clrF; rw [if_pos (by omega)]) ⟨by simp, hlen.2⟩
    have := K.fc (es (o := .cells ((fcs z c1).set 11 .nilsl) false) ee)
    exact ⟨.inl ⟨rfl, rfl⟩, this.aux, this.done, this.held, this.data⟩
  rw [eql_i]
  by_cases c6 : x.kd = 6
  · rw [show (x.kd == 6) = true from by simpa using c6, if_t]
    exact six (.inl c6)
  rw [show (x.kd == 6) = false from by simpa using c6, if_f, eql_i]
  by_cases c8 : x.kd = 8
  · rw [show (x.kd == 8) = true from by simpa using c8]
    exact six (.inr c8)
  rw [show (x.kd == 8) = false from by simpa using c8]
  unfold F32.p1
  rw [if_f, eql_i]
  by_cases c7 : x.kd = 7
  · rw [show (x.kd == 7) = true from by simpa using c7, if_t, fld_p, Nat.zero_add, hst 11 hrow rfl (by omega)]
    rw [fld_p, Nat.zero_add, hst (cs := (fcs z c1).set 11 .nilsl) 12 (by rw [get_set, if_pos rfl]) rfl (by omega)]
    refine fin { z with est := [], aux := [] } { c1 with e := .nilsl, a := .nilsl } _ (by rw [get_set, if_pos rfl]; rfl) (es (es ee)) ?_ (by unfold clrF; rw [if_neg (by omega), if_pos (by omega)]) ⟨by simp, by simp, hlen.2.2⟩
    have := K.fc (es (o := .cells (((fcs z c1).set 11 .nilsl).set 12 .nilsl) false) (es (o := .cells ((fcs z c1).set 11 .nilsl) false) ee))
    exact ⟨.inl ⟨rfl, rfl⟩, .inl ⟨rfl, rfl⟩, this.done, this.held, this.data⟩
  rw [show (x.kd == 7) = false from by simpa using c7, if_f, eql_i]
  by_cases c9 : x.kd = 9
  · rw [show (x.kd == 9) = true from by simpa using c9, if_t, fld_p, Nat.zero_add, hst 13 hrow rfl (by omega)]
    rw [fld_p, Nat.zero_add, hst (cs := (fcs z c1).set 13 .nilsl) 14 (by rw [get_set, if_pos rfl]) rfl (by omega)]
    refine fin { z with done := [], held := [] } { c1 with d := .nilsl, h := .nilsl } _ (by rw [get_set, if_pos rfl]; rfl) (es (es ee)) ?_ (by unfold clrF; rw [if_neg (by omega), if_neg (by omega), if_pos (by omega)]) ⟨hlen.1, hlen.2.1, by simp, by simp, hlen.2.2.2.2⟩
    have := K.fc (es (o := .cells (((fcs z c1).set 13 .nilsl).set 14 .nilsl) false) (es (o := .cells ((fcs z c1).set 13 .nilsl) false) ee))
    exact ⟨this.est, this.aux, .inl ⟨rfl, rfl⟩, .inl ⟨rfl, rfl⟩, this.data⟩
  rw [show (x.kd == 9) = false from by simpa using c9, if_f]
  exact fin z c1 s1 hrow ee (K.fc ee) (by unfold clrF; rw [if_neg (by omega), if_neg (by omega), if_neg (by omega)]) hlen

/-! ### lists that may stand in a frame -/
def cntsB (l : List Int) : Bool := l.all (fun n => !decide (n > 4611686018427387904)) && decide ((l.length : Int) ≤ 64)
def runsB (l : List Rn) : Bool := decide ((l.length : Int) ≤ 64) && (rowsG none l && decide (countR 0 l ≤ 4096))
theorem rows_run6 {s : Store} {v : AV} {l : List Rn} (hl : IsRuns s v l) (hw : ∀ r ∈ l, WfR r) (hb : l.length ≤ 100) (k : Nat) (hk : 200 ≤ k) (hk2 : k ≤ 100000) : ∃ s', rn (k + 6) 34 [v] s = some (.bool (runsB l), s') ∧ Ext s s' := by
  rw [F34.eq]
  unfold F34.f F34.p0 runsB
  rw [len_runs hl, leq_i]
  cases decide ((l.length : Int) ≤ 64) with
  | false => exact ⟨s, by simp only [bnd, guard_tt, guard_ff, guard_tf, guard_ft, pick_t, pick_f, if_t, if_f, add_i, sub_i, lss_i, leq_i, gtr_i, geq_i, eql_i, neq_i, min_i, max_i, conv_i, len_sl, len_nil, not_b, cells_agg, new_s, fld_p, nil_p, guard_skip, Bool.false_and], Ext.refl s⟩
  | true =>
    obtain ⟨s1, k1, e1⟩ := ident_rows hl hw k (by omega) (by omega) (by omega)
    simp only [bnd, guard_tt, guard_ff, guard_tf, guard_ft, pick_t, pick_f, if_t, if_f, add_i, sub_i, lss_i, leq_i, gtr_i, geq_i, eql_i, neq_i, min_i, max_i, conv_i, len_sl, len_nil, not_b, cells_agg, new_s, fld_p, nil_p, k1, Bool.true_and]
    cases rowsG none l with
    | false => exact ⟨s1, by simp only [bnd, guard_tt, guard_ff, guard_tf, guard_ft, pick_t, pick_f, if_t, if_f, add_i, sub_i, lss_i, leq_i, gtr_i, geq_i, eql_i, neq_i, min_i, max_i, conv_i, len_sl, len_nil, not_b, cells_agg, new_s, fld_p, nil_p, guard_skip, Bool.false_and], e1⟩
    | true =>
      obtain ⟨s2, k2, e2⟩ := ident_count (hl.ext e1) hw (k + 3) (by omega) (by omega)
      exact ⟨s2, by simp only [bnd, guard_tt, guard_ff, guard_tf, guard_ft, pick_t, pick_f, if_t, if_f, add_i, sub_i, lss_i, leq_i, gtr_i, geq_i, eql_i, neq_i, min_i, max_i, conv_i, len_sl, len_nil, not_b, cells_agg, new_s, fld_p, nil_p, k2, Bool.true_and], e1.trans e2⟩
theorem rrows_run6 {s : Store} {v : AV} {l : List Rn} (hl : IsRuns s v l) (hw : ∀ r ∈ l, WfR r) (hb : l.length ≤ 100) (k : Nat) (hk : 200 ≤ k) (hk2 : k ≤ 100000) : ∃ s', rn (k + 6) 39 [v] s = some (.bool (runsB l), s') ∧ Ext s s' := by
  rw [F39.eq]
  unfold F39.f F39.p0 runsB
  rw [len_runs hl, leq_i]
  cases decide ((l.length : Int) ≤ 64) with
  | false => exact ⟨s, by simp only [bnd, guard_tt, guard_ff, guard_tf, guard_ft, pick_t, pick_f, if_t, if_f, add_i, sub_i, lss_i, leq_i, gtr_i, geq_i, eql_i, neq_i, min_i, max_i, conv_i, len_sl, len_nil, not_b, cells_agg, new_s, fld_p, nil_p, guard_skip, Bool.false_and], Ext.refl s⟩
  | true =>
    obtain ⟨s1, k1, e1⟩ := ref_rows hl hw k (by omega) (by omega) (by omega)
    simp only [bnd, guard_tt, guard_ff, guard_tf, guard_ft, pick_t, pick_f, if_t, if_f, add_i, sub_i, lss_i, leq_i, gtr_i, geq_i, eql_i, neq_i, min_i, max_i, conv_i, len_sl, len_nil, not_b, cells_agg, new_s, fld_p, nil_p, k1, Bool.true_and]
    cases rowsG none l with
    | false => exact ⟨s1, by simp only [bnd, guard_tt, guard_ff, guard_tf, guard_ft, pick_t, pick_f, if_t, if_f, add_i, sub_i, lss_i, leq_i, gtr_i, geq_i, eql_i, neq_i, min_i, max_i, conv_i, len_sl, len_nil, not_b, cells_agg, new_s, fld_p, nil_p, guard_skip, Bool.false_and], e1⟩
    | true =>
      obtain ⟨s2, k2, e2⟩ := ref_count (hl.ext e1) hw (k + 3) (by omega) (by omega)
      exact ⟨s2, by simp only [bnd, guard_tt, guard_ff, guard_tf, guard_ft, pick_t, pick_f, if_t, if_f, add_i, sub_i, lss_i, leq_i, gtr_i, geq_i, eql_i, neq_i, min_i, max_i, conv_i, len_sl, len_nil, not_b, cells_agg, new_s, fld_p, nil_p, k2, Bool.true_and], e1.trans e2⟩
theorem cnts_loop (k : Nat) {s : Store} {v : AV} {l : List Int} (hv : IsV s v .u64 l) (hb : l.length ≤ 1000) : ∀ (n i : Nat), i ≤ l.length → l.length - i < n → F35.l0 k n v v (.int .i64 l.length) (.int .i64 (i : Int)) s = some (.bool ((l.drop i).all (fun n => !decide (n > 4611686018427387904)) && decide ((l.length : Int) ≤ 64)), s)
  | 0, i, _, hn => by omega
  | n + 1, i, hi, hn => by
    have hs : F35.l0 k (n + 1) = fun x0 x5 x6 x7 s => F35.p4 k (F35.l0 k n) x0 x5 x6 x7 s := rfl
    rw [hs]
    clear hs
    simp only
    unfold F35.p4 F35.p3
    rw [lss_i]
    by_cases h : i < l.length
    · rw [decide_eq_true (show (i : Int) < (l.length : Int) by omega), if_t]
      unfold F35.p2 F35.p1
      obtain ⟨p, p1, p2⟩ := atV hv (i := (i : Int)) (by omega) (by omega)
      have hd : l.getD ((i : Int)).toNat 0 = l[i] := by simp [h]
      rw [p1, p2, hd, gtr_i, List.drop_eq_getElem_cons h, List.all_cons]
      cases decide (l[i] > 4611686018427387904) with
      | true => rw [if_t]; rfl
      | false => rw [if_f, add_i, w_i64 (by omega) (by omega), show (i : Int) + 1 = ((i + 1 : Nat) : Int) by omega, cnts_loop k hv hb n (i + 1) (by omega) (by omega), Bool.not_false, Bool.true_and]
    · rw [decide_eq_false (show ¬ (i : Int) < (l.length : Int) by omega), if_f, List.drop_eq_nil_of_le (by omega)]
      unfold F35.p0
      rw [lenV hv, leq_i]; rfl
theorem cnts_run {s : Store} {v : AV} {l : List Int} (hv : IsV s v .u64 l) (hb : l.length ≤ 100) (k : Nat) (hk : 200 ≤ k) : rn (k + 1) 35 [v] s = some (.bool (cntsB l), s) := by
  rw [F35.eq]
  unfold F35.f F35.p6 F35.p5
  rw [lenV hv]
  have := cnts_loop k hv (by omega) k 0 (by omega) (by omega)
  rw [Int.natCast_zero] at this
  exact this
theorem rcnts_loop (k : Nat) {s : Store} {v : AV} {l : List Int} (hv : IsV s v .u64 l) (hb : l.length ≤ 1000) : ∀ (n i : Nat), i ≤ l.length → l.length - i < n → F40.l0 k n v (.int .i64 l.length) (.int .i64 (i : Int)) s = some (.bool ((l.drop i).all (fun n => !decide (n > 4611686018427387904)) && decide ((l.length : Int) ≤ 64)), s)
  | 0, i, _, hn => by omega
  | n + 1, i, hi, hn => by
    have hs : F40.l0 k (n + 1) = fun x0 x5 x6 s => F40.p4 k (F40.l0 k n) x0 x5 x6 s := rfl
    rw [hs]
    clear hs
    simp only
    unfold F40.p4 F40.p3
    rw [lss_i]
    by_cases h : i < l.length
    · rw [decide_eq_true (show (i : Int) < (l.length : Int) by omega), if_t]
      unfold F40.p2 F40.p1
      obtain ⟨p, p1, p2⟩ := atV hv (i := (i : Int)) (by omega) (by omega)
      have hd : l.getD ((i : Int)).toNat 0 = l[i] := by simp [h]
      rw [p1, p2, hd, gtr_i, List.drop_eq_getElem_cons h, List.all_cons]
      cases decide (l[i] > 4611686018427387904) with
      | true => rw [if_t]; rfl
      | false => rw [if_f, add_i, w_i64 (by omega) (by omega), show (i : Int) + 1 = ((i + 1 : Nat) : Int) by omega, rcnts_loop k hv hb n (i + 1) (by omega) (by omega), Bool.not_false, Bool.true_and]
    · rw [decide_eq_false (show ¬ (i : Int) < (l.length : Int) by omega), if_f, List.drop_eq_nil_of_le (by omega)]
      unfold F40.p0
      rw [lenV hv, leq_i]; rfl
theorem rcnts_run {s : Store} {v : AV} {l : List Int} (hv : IsV s v .u64 l) (hb : l.length ≤ 100) (k : Nat) (hk : 200 ≤ k) : rn (k + 1) 40 [v] s = some (.bool (cntsB l), s) := by
  rw [F40.eq]
  unfold F40.f F40.p6 F40.p5
  rw [lenV hv]
  have := rcnts_loop k hv (by omega) k 0 (by omega) (by omega)
  rw [Int.natCast_zero] at this
  exact this

def shapedB (x : FI) : Bool :=
  if x.kd = 1 ∨ x.kd = 4 then ((((idOk x.idf x.ids && decide (x.at_ < x.of_)) && decide (x.of_ ≤ 1048576)) && decide (x.size ≤ 1048576)) && decide ((x.data.length : Int) ≤ 65536))
  else if x.kd = 3 then idOk x.idf x.ids && decide (x.at_ < 1048576) else true
theorem shaped_run {s : Store} {x : FI} {c : AVs} (hc : IsFc s c x) (hw : WfF x) (k : Nat) : ∃ s', rn (k + 2) 33 [.agg (fcs x c)] s = some (.bool (shapedB x), s') ∧ Ext s s' := by
  rw [F33.eq]
  unfold F33.f F33.p4
  rw [cells_agg, new_s, show (fcs x c).length = 16 from rfl]
  have hg : (s.push (.cells (fcs x c) false)).get s.next = .cells (fcs x c) false := by rw [get_push, if_pos rfl]
  have e1 := Ext.push s (.cells (fcs x c) false)
  have hlt : s.next < (s.push (.cells (fcs x c) false)).next := Nat.lt_succ_self _
  generalize s.push (.cells (fcs x c) false) = t at *
  have L := FLd.mk' (s := t) (F := s.next) (x := x) (c := c) (ro := false) hg
  have hi := ident_may (s := t) (a := x.idf) (b := x.ids) hw.idf k
  have e2 := Ext.push t (.cells [.int .u8 x.idf, .int .u64 x.ids] false)
  have L2 := FLd.mk' (s := t.push (.cells [.int .u8 x.idf, .int .u64 x.ids] false)) (F := s.next) (x := x) (c := c) (ro := false) ((e2.get _ hlt).trans hg)
  generalize t.push (.cells [.int .u8 x.idf, .int .u64 x.ids] false) = u at *
  unfold F33.p3 F33.p2 F33.p1 F33.p0 shapedB
  by_cases c1 : x.kd = 1
  · refine ⟨u, ?_, e1.trans e2⟩
    simp only [bnd, not_b, fld_p, Nat.zero_add, Nat.add_zero, gn_some, gn_same, gn_v, gv_gv, gn_fa, gn_ld, gn_ldn, gn_len, gn_b1, gn_b2, gn_un, gn_pk, gn_cl, gn_ct, gn_cf, gn_dt, gn_df, pn_and, pn_or, pn_tt, pn_tf, pn_ft, pn_ff, neq_i, eql_i, gtr_i, geq_i, lss_i, leq_i, L.l0, L.l1, L.l2, L.l3, L.l4, L.l5, L.l6, L.l7, L.l8, L.l9, L.l10, L.l11, L.l12, L.l13, L.l14, L.l15, L.n3, L.n16, L2.l0, L2.l1, L2.l2, L2.l3, L2.l4, L2.l5, L2.l6, L2.l7, L2.l8, L2.l9, L2.l10, L2.l11, L2.l12, L2.l13, L2.l14, L2.l15, L2.n3, L2.n16, c1, show ((1 : Int) == 1) = true from rfl, if_t, hi, lenV hc.data, true_or, if_true]
  · by_cases c4 : x.kd = 4
    · refine ⟨u, ?_, e1.trans e2⟩
      simp only [bnd, not_b, fld_p, Nat.zero_add, Nat.add_zero, gn_some, gn_same, gn_v, gv_gv, gn_fa, gn_ld, gn_ldn, gn_len, gn_b1, gn_b2, gn_un, gn_pk, gn_cl, gn_ct, gn_cf, gn_dt, gn_df, pn_and, pn_or, pn_tt, pn_tf, pn_ft, pn_ff, neq_i, eql_i, gtr_i, geq_i, lss_i, leq_i, L.l0, L.l1, L.l2, L.l3, L.l4, L.l5, L.l6, L.l7, L.l8, L.l9, L.l10, L.l11, L.l12, L.l13, L.l14, L.l15, L.n3, L.n16, L2.l0, L2.l1, L2.l2, L2.l3, L2.l4, L2.l5, L2.l6, L2.l7, L2.l8, L2.l9, L2.l10, L2.l11, L2.l12, L2.l13, L2.l14, L2.l15, L2.n3, L2.n16, c4, show ((4 : Int) == 1) = false from rfl, show ((4 : Int) == 4) = true from rfl, if_t, if_f, hi, lenV hc.data, or_true, if_true]
    · by_cases c3 : x.kd = 3
      · refine ⟨u, ?_, e1.trans e2⟩
        simp only [bnd, not_b, fld_p, Nat.zero_add, Nat.add_zero, gn_some, gn_same, gn_v, gv_gv, gn_fa, gn_ld, gn_ldn, gn_len, gn_b1, gn_b2, gn_un, gn_pk, gn_cl, gn_ct, gn_cf, gn_dt, gn_df, pn_and, pn_or, pn_tt, pn_tf, pn_ft, pn_ff, neq_i, eql_i, gtr_i, geq_i, lss_i, leq_i, L.l0, L.l1, L.l2, L.l3, L.l4, L.l5, L.l6, L.l7, L.l8, L.l9, L.l10, L.l11, L.l12, L.l13, L.l14, L.l15, L.n3, L.n16, L2.l0, L2.l1, L2.l2, L2.l3, L2.l4, L2.l5, L2.l6, L2.l7, L2.l8, L2.l9, L2.l10, L2.l11, L2.l12, L2.l13, L2.l14, L2.l15, L2.n3, L2.n16, c3, show ((3 : Int) == 1) = false from rfl, show ((3 : Int) == 4) = false from rfl, show ((3 : Int) == 3) = true from rfl, if_t, if_f, hi]
        simp
      · refine ⟨t, ?_, e1⟩
        simp only [bnd, not_b, fld_p, Nat.zero_add, Nat.add_zero, gn_some, gn_same, gn_v, gv_gv, gn_fa, gn_ld, gn_ldn, gn_len, gn_b1, gn_b2, gn_un, gn_pk, gn_cl, gn_ct, gn_cf, gn_dt, gn_df, pn_and, pn_or, pn_tt, pn_tf, pn_ft, pn_ff, neq_i, eql_i, gtr_i, geq_i, lss_i, leq_i, L.l0, L.l1, L.l2, L.l3, L.l4, L.l5, L.l6, L.l7, L.l8, L.l9, L.l10, L.l11, L.l12, L.l13, L.l14, L.l15, L.n3, L.n16, show (x.kd == 1) = false from by simpa using c1, show (x.kd == 4) = false from by simpa using c4, show (x.kd == 3) = false from by simpa using c3, if_f]
        simp [c1, c4, c3]

/-- May a frame be? -/
def mayC (x : FI) : Bool :=
  !(decide (x.kd < 1) || decide (x.kd > 10)) && (!((decide (x.src ≥ 64) || decide (x.dst ≥ 64)) || (x.src == x.dst)) && (bareB x &&
  (!(decide (x.seq > 4611686018427387904 ∨ x.inst > 4611686018427387904 ∨ x.round > 4611686018427387904)) && (shapedB x && (runsB x.est && (runsB x.aux && (cntsB x.done && (cntsB x.held &&
  ((!(decide (x.kd ≥ 6) && decide (x.kd ≤ 8)) || decide (x.inst > 0)) && (x.kd != 8 || decide ((x.est.length : Int) > 0)))))))))))
theorem max_3 (a b c : Int) {α : Type} (f : AV → Option α) : ∃ m, aMaxL (.int .u64 a) [.int .u64 b, .int .u64 c] f = f (.int .u64 m) ∧ decide (m > 4611686018427387904) = decide (a > 4611686018427387904 ∨ b > 4611686018427387904 ∨ c > 4611686018427387904) := by
  refine ⟨_, rfl, decide_eq_decide.2 ?_⟩
  split <;> split <;> omega
theorem may_run6 {s : Store} {x : FI} {c : AVs} (hc : IsFc s c x) (hw : WfF x) (k : Nat) (h1 : 1200 ≤ k) (h2 : k ≤ 79980) : ∃ s', rn (k + 10) 14 [.agg (fcs x c)] s = some (.bool (mayC x), s') ∧ Ext s s' := by
  rw [F14.eq]
  unfold F14.f F14.p6
  rw [cells_agg, new_s, show (fcs x c).length = 16 from rfl]
  have hg : (s.push (.cells (fcs x c) false)).get s.next = .cells (fcs x c) false := by rw [get_push, if_pos rfl]
  have e1 := Ext.push s (.cells (fcs x c) false)
  have hlt : s.next < (s.push (.cells (fcs x c) false)).next := Nat.lt_succ_self _
  generalize s.push (.cells (fcs x c) false) = t at *
  have L := FLd.mk' (s := t) (F := s.next) (x := x) (c := c) (ro := false) hg
  unfold F14.p5 mayC
  simp only [bnd, not_b, fld_p, Nat.zero_add, Nat.add_zero, gn_some, gn_same, gn_v, gv_gv, gn_fa, gn_ld, gn_ldn, gn_len, gn_b1, gn_b2, gn_un, gn_pk, gn_cl, gn_ct, gn_cf, gn_dt, gn_df, pn_and, pn_or, pn_tt, pn_tf, pn_ft, pn_ff, neq_i, eql_i, gtr_i, geq_i, lss_i, leq_i, L.l0, L.l1, L.l2, L.l3, L.l4, L.l5, L.l6, L.l7, L.l8, L.l9, L.l10, L.l11, L.l12, L.l13, L.l14, L.l15, L.n3, L.n16]
  cases (decide (x.kd < 1) || decide (x.kd > 10)) with
  | true => exact ⟨t, rfl, e1⟩
  | false =>
  rw [if_f]
  cases ((decide (x.src ≥ 64) || decide (x.dst ≥ 64)) || (x.src == x.dst)) with
  | true => exact ⟨t, rfl, e1⟩
  | false =>
  rw [if_f]
  obtain ⟨t2, k2, e2⟩ := bare_run (hc.ext e1) hw (k + 5) (by omega) (by omega)
  rw [show k + 9 = k + 5 + 4 from rfl, show (AV.agg (fcl x c.e c.a c.d c.h c.b)) = .agg (fcs x c) from rfl, k2]
  simp only [bnd, not_b]
  unfold F14.p4
  have ee := e1.trans e2
  have L := FLd.mk' (s := t2) (F := s.next) (x := x) (c := c) (ro := false) ((e2.get _ hlt).trans hg)
  have hg2 := (e2.get _ hlt).trans hg
  have hlt2 := Nat.lt_of_lt_of_le hlt e2.next
  cases bareB x with
  | false => exact ⟨t2, rfl, ee⟩
  | true =>
  rw [Bool.not_true, if_f]
  unfold F14.p3
  simp only [fld_p, Nat.zero_add, L.l5, L.l9, L.l10]
  obtain ⟨m, hm1, hm2⟩ := max_3 x.seq x.inst x.round (α := AV × Store) (f := fun v7 => aBin .gtr v7 (AV.int .u64 4611686018427387904) fun v8 => some (v8, t2))
  have hmx : ∀ f : AV → Rz, aMaxL (.int .u64 x.seq) [.int .u64 x.inst, .int .u64 x.round] f = f (.int .u64 (if x.round > (if x.inst > x.seq then x.inst else x.seq) then x.round else (if x.inst > x.seq then x.inst else x.seq))) := fun f => rfl
  have hmd : decide ((if x.round > (if x.inst > x.seq then x.inst else x.seq) then x.round else (if x.inst > x.seq then x.inst else x.seq)) > 4611686018427387904) = decide (x.seq > 4611686018427387904 ∨ x.inst > 4611686018427387904 ∨ x.round > 4611686018427387904) := decide_eq_decide.2 (by split <;> split <;> omega)
  rw [hmx, gtr_i, hmd]
  have no : ∀ (st : Store), Ext s st → ∃ s', F14.p2 (k + 9) (.ptr s.next 0 16) (.bool true) st = some (.bool false, s') ∧ Ext s s' := fun st e => ⟨st, rfl, e⟩
  cases decide (x.seq > 4611686018427387904 ∨ x.inst > 4611686018427387904 ∨ x.round > 4611686018427387904) with
  | true => rw [if_t]; exact no t2 ee
  | false =>
  rw [if_f, L.n16]
  obtain ⟨t3, k3, e3⟩ := shaped_run (hc.ext ee) hw (k + 7)
  rw [show (AV.agg (fcl x c.e c.a c.d c.h c.b)) = .agg (fcs x c) from rfl, show k + 9 = k + 7 + 2 from rfl, k3]
  simp only [bnd, not_b]
  have ee3 := ee.trans e3
  have hg3 := (e3.get _ hlt2).trans hg2
  have hlt3 := Nat.lt_of_lt_of_le hlt2 e3.next
  have L := FLd.mk' (s := t3) (F := s.next) (x := x) (c := c) (ro := false) hg3
  cases shapedB x with
  | false => rw [Bool.not_false, if_t]; exact no t3 ee3
  | true =>
  rw [Bool.not_true, if_f, L.l11]
  obtain ⟨t4, k4, e4⟩ := rows_run6 ((hc.ext ee3).est) hw.est hw.estL (k + 3) (by omega) (by omega)
  rw [show k + 7 + 2 = k + 3 + 6 from rfl, k4]
  simp only [bnd, not_b]
  have ee4 := ee3.trans e4
  have hg4 := (e4.get _ hlt3).trans hg3
  have hlt4 := Nat.lt_of_lt_of_le hlt3 e4.next
  have L := FLd.mk' (s := t4) (F := s.next) (x := x) (c := c) (ro := false) hg4
  cases runsB x.est with
  | false => simp only [bnd, guard_tt, guard_ff, guard_tf, guard_ft, pick_t, pick_f, if_t, if_f, add_i, sub_i, lss_i, leq_i, gtr_i, geq_i, eql_i, neq_i, min_i, max_i, conv_i, len_sl, len_nil, not_b, cells_agg, new_s, fld_p, nil_p, guard_skip, Bool.not_false]; exact no t4 ee4
  | true =>
  obtain ⟨t5, k5, e5⟩ := rows_run6 ((hc.ext ee4).aux) hw.aux hw.auxL (k + 3) (by omega) (by omega)
  simp only [bnd, guard_tt, guard_ff, guard_tf, guard_ft, pick_t, pick_f, if_t, if_f, add_i, sub_i, lss_i, leq_i, gtr_i, geq_i, eql_i, neq_i, min_i, max_i, conv_i, len_sl, len_nil, not_b, cells_agg, new_s, fld_p, nil_p, Bool.not_true, L.l12, k5]
  have ee5 := ee4.trans e5
  have hg5 := (e5.get _ hlt4).trans hg4
  have L := FLd.mk' (s := t5) (F := s.next) (x := x) (c := c) (ro := false) hg5
  have hk9 : k + 3 + 6 = k + 8 + 1 := rfl
  cases runsB x.aux with
  | false => rw [Bool.not_false, if_t]; exact no t5 ee5
  | true =>
  rw [Bool.not_true, if_f, L.l13, hk9, cnts_run (hc.ext ee5).done hw.doneL (k + 8) (by omega)]
  simp only [bnd, not_b]
  cases cntsB x.done with
  | false => simp only [bnd, guard_tt, guard_ff, guard_tf, guard_ft, pick_t, pick_f, if_t, if_f, add_i, sub_i, lss_i, leq_i, gtr_i, geq_i, eql_i, neq_i, min_i, max_i, conv_i, len_sl, len_nil, not_b, cells_agg, new_s, fld_p, nil_p, guard_skip, Bool.not_false]; exact no t5 ee5
  | true =>
  simp only [bnd, guard_tt, guard_ff, guard_tf, guard_ft, pick_t, pick_f, if_t, if_f, add_i, sub_i, lss_i, leq_i, gtr_i, geq_i, eql_i, neq_i, min_i, max_i, conv_i, len_sl, len_nil, not_b, cells_agg, new_s, fld_p, nil_p, Bool.not_true, L.l14, cnts_run (hc.ext ee5).held hw.heldL (k + 8) (by omega)]
  unfold F14.p2
  cases cntsB x.held with
  | false => exact ⟨t5, rfl, ee5⟩
  | true =>
  rw [Bool.not_true, if_f]
  unfold F14.p0
  refine ⟨t5, ?_, ee5⟩
  simp only [bnd, not_b, fld_p, Nat.zero_add, Nat.add_zero, gn_some, gn_same, gn_v, gv_gv, gn_fa, gn_ld, gn_ldn, gn_len, gn_b1, gn_b2, gn_un, gn_pk, gn_cl, gn_ct, gn_cf, gn_dt, gn_df, pn_and, pn_or, pn_tt, pn_tf, pn_ft, pn_ff, neq_i, eql_i, gtr_i, geq_i, lss_i, leq_i, L.l0, L.l1, L.l2, L.l3, L.l4, L.l5, L.l6, L.l7, L.l8, L.l9, L.l10, L.l11, L.l12, L.l13, L.l14, L.l15, L.n3, L.n16, len_runs hc.est, Bool.true_and, Bool.not_false]
end Go.Proofs.Ytkfdgegmahbkiaa.Sim
namespace Go.Proofs.Ytkfdgegmahbkiaa.Sim
set_option linter.unusedSimpArgs false
set_option linter.unusedVariables false

theorem numR_suffix {b : List Int} (hu : ∀ x ∈ b, 0 ≤ x ∧ x < 256) {most : Int} (h : (numR b most).2.2 = 0) : b.drop (b.length - (numR b most).2.1.length) = (numR b most).2.1 := by
  obtain ⟨_, _, h3⟩ := numR_one hu h
  generalize (numR b most).2.1 = r at *
  rw [h3, List.length_append, Nat.add_sub_cancel, List.drop_left]
theorem rdNum_0 {b : List Int} {most : Int} (h : (rdNum b 0 most).2.2 = 0) : rdNum b 0 most = numR b most := by
  unfold rdNum at h ⊢
  rw [if_neg (by simp)] at h ⊢
  split
  · rename_i q
    rw [if_pos q] at h
    exact absurd h q
  · rfl
def bodyI (xs : List Int) : List Int × Int :=
  if (fitsI xs).2 ≠ 0 then ([], (fitsI xs).2)
  else if (rdNum (fitsI xs).1 0 18446744073709551615).2.2 ≠ 0 then ([], (rdNum (fitsI xs).1 0 18446744073709551615).2.2)
  else if ((rdNum (fitsI xs).1 0 18446744073709551615).2.1.length : Int) + 4 < (rdNum (fitsI xs).1 0 18446744073709551615).1 then ([], 2)
  else if ((rdNum (fitsI xs).1 0 18446744073709551615).2.1.length : Int) + 4 > (rdNum (fitsI xs).1 0 18446744073709551615).1 then ([], 4)
  else if ((rdNum (fitsI xs).1 0 18446744073709551615).2.1.length : Int) + 4 < 8 then ([], 2)
  else ((rdNum (fitsI xs).1 0 18446744073709551615).2.1, 0)
theorem fitsI_u8 {xs : List Int} (hu : ∀ x ∈ xs, 0 ≤ x ∧ x < 256) : (∀ x ∈ (fitsI xs).1, 0 ≤ x ∧ x < 256) ∧ (fitsI xs).1.length ≤ xs.length := by
  unfold fitsI
  split
  · exact ⟨fun x h => (nomatch h), Nat.zero_le _⟩
  · split
    · exact ⟨fun x h => hu x (List.mem_of_mem_take h), by simp only [List.length_take]; omega⟩
    · exact ⟨fun x h => (nomatch h), Nat.zero_le _⟩
theorem body_run {s : Store} {bv : AV} {xs : List Int} (hv : IsV s bv .u8 xs) (hu : ∀ x ∈ xs, 0 ≤ x ∧ x < 256) (k : Nat) (hk : 110 ≤ k) (hb : xs.length < k) (hk2 : k ≤ 100000) : ∃ v s', rn (k + 4) 17 [bv] s = some (.tuple [v, .int .i64 (bodyI xs).2], s') ∧ IsV s' v .u8 (bodyI xs).1 ∧ Ext s s' := by
  rw [F17.eq]
  unfold F17.f F17.p7 F17.p6 bodyI
  obtain ⟨v1, s1, k1, v1s, e1, _⟩ := fits_run hv hu k hk hb (by omega)
  obtain ⟨fu, fl⟩ := fitsI_u8 hu
  have x0 : ∀ (a b : AV) (f : AV → Rz), aExtract 0 (.tuple [a, b]) f = f a := fun a b f => rfl
  have x1 : ∀ (a b : AV) (f : AV → Rz), aExtract 1 (.tuple [a, b]) f = f b := fun a b f => rfl
  rw [k1, bnd]
  simp only [x0, x1]
  unfold F17.p5
  rw [neq_i]
  by_cases c1 : (fitsI xs).2 = 0
  · rw [show ((fitsI xs).2 != 0) = false from by simp [c1], if_f, if_neg (by simp [c1])]
    unfold F17.p4
    obtain ⟨rd, s2, k2, r2, e2⟩ := new_run v1s (by omega) (k + 1)
    rw [show k + 3 = k + 1 + 2 from rfl, k2, bnd]
    simp only
    unfold F17.p3
    obtain ⟨s3, k3, r3, f3⟩ := num_run r2 fu (by omega) 18446744073709551615 (k + 1) (by omega)
    rw [k3, bnd]
    simp only
    unfold F17.p2
    have hrdlt : s1.next ≤ rd := by
      obtain ⟨_, _, _, q, _⟩ := r2
      exact q.1
    have e3 : Ext s1 s3 := f3.ext e2 hrdlt
    have hl3 := rdNum_len (b := (fitsI xs).1) (e := 0) (most := 18446744073709551615)
    have hbn := rdNum_bnd fu 0 (most := 18446744073709551615) (by omega)
    have hc1 : IntKind.u64.wrap ((rdNum (fitsI xs).1 0 18446744073709551615).2.1.length : Int) = ((rdNum (fitsI xs).1 0 18446744073709551615).2.1.length : Int) := w_u64 (by omega) (by omega)
    have hc2 : IntKind.u64.wrap (((rdNum (fitsI xs).1 0 18446744073709551615).2.1.length : Int) + 4) = ((rdNum (fitsI xs).1 0 18446744073709551615).2.1.length : Int) + 4 := w_u64 (by omega) (by omega)
    rw [left_run r3, bnd]
    simp only [conv_i, hc1, add_i, hc2]
    unfold F17.p1
    simp only [err_run r3, bnd, neq_i]
    have ee := e1.trans e3
    by_cases c2 : (rdNum (fitsI xs).1 0 18446744073709551615).2.2 = 0
    · rw [show ((rdNum (fitsI xs).1 0 18446744073709551615).2.2 != 0) = false from by simp [c2], if_f, if_neg (by simp [c2]), lss_i]
      by_cases c3 : ((rdNum (fitsI xs).1 0 18446744073709551615).2.1.length : Int) + 4 < (rdNum (fitsI xs).1 0 18446744073709551615).1
      · rw [decide_eq_true c3, if_t, if_pos c3]
        exact ⟨_, s3, rfl, .inl ⟨rfl, rfl⟩, ee⟩
      · rw [decide_eq_false c3, if_f, if_neg c3, gtr_i]
        by_cases c4 : ((rdNum (fitsI xs).1 0 18446744073709551615).2.1.length : Int) + 4 > (rdNum (fitsI xs).1 0 18446744073709551615).1
        · rw [decide_eq_true c4, if_t, if_pos c4]
          exact ⟨_, s3, rfl, .inl ⟨rfl, rfl⟩, ee⟩
        · rw [decide_eq_false c4, if_f, if_neg c4, lss_i]
          by_cases c5 : ((rdNum (fitsI xs).1 0 18446744073709551615).2.1.length : Int) + 4 < 8
          · rw [decide_eq_true c5, if_t, if_pos c5]
            exact ⟨_, s3, rfl, .inl ⟨rfl, rfl⟩, ee⟩
          · rw [decide_eq_false c5, if_f, if_neg c5]
            unfold F17.p0
            have v3 := v1s.ext e3
            have hsub : IntKind.i64.wrap (((fitsI xs).1.length : Int) - ((rdNum (fitsI xs).1 0 18446744073709551615).2.1.length : Int)) = (((fitsI xs).1.length - (rdNum (fitsI xs).1 0 18446744073709551615).2.1.length : Nat) : Int) := by rw [w_i64 (by omega) (by omega)]; omega
            rw [lenV v3, left_run r3, bnd]
            simp only [sub_i, hsub]
            obtain ⟨w, w1, _, _, _, w2⟩ := sliceV v3 (a := (fitsI xs).1.length - (rdNum (fitsI xs).1 0 18446744073709551615).2.1.length) (b := (fitsI xs).1.length) (by omega) (by omega)
            rw [w2 rfl]
            refine ⟨w, s3, rfl, ?_, ee⟩
            have hs := numR_suffix fu (most := 18446744073709551615) (by rw [← rdNum_0 c2]; exact c2)
            rw [← rdNum_0 c2] at hs
            rw [List.take_of_length_le (by simp), hs] at w1
            exact w1
    · rw [show ((rdNum (fitsI xs).1 0 18446744073709551615).2.2 != 0) = true from by simpa using c2, if_t, if_pos c2]
      exact ⟨_, s3, rfl, .inl ⟨rfl, rfl⟩, ee⟩
  · rw [show ((fitsI xs).2 != 0) = true from by simpa using c1, if_t, if_pos c1]
    exact ⟨_, s1, rfl, .inl ⟨rfl, rfl⟩, e1⟩
theorem bodyI_u8 {xs : List Int} (hu : ∀ x ∈ xs, 0 ≤ x ∧ x < 256) : (∀ x ∈ (bodyI xs).1, 0 ≤ x ∧ x < 256) ∧ (bodyI xs).1.length ≤ xs.length ∧ ((bodyI xs).2 = 0 → 4 ≤ (bodyI xs).1.length) := by
  obtain ⟨fu, fl⟩ := fitsI_u8 hu
  have h1 := rdNum_u8 (e := 0) (most := 18446744073709551615) fu
  have h2 := rdNum_len (b := (fitsI xs).1) (e := 0) (most := 18446744073709551615)
  have no : ∀ e : Int, e ≠ 0 → (∀ x ∈ (([] : List Int), e).1, 0 ≤ x ∧ x < 256) ∧ (([] : List Int), e).1.length ≤ xs.length ∧ ((([] : List Int), e).2 = 0 → 4 ≤ (([] : List Int), e).1.length) := fun e he => ⟨fun x h => (nomatch h), Nat.zero_le _, fun h => absurd h he⟩
  unfold bodyI
  split
  · rename_i q; exact no _ q
  · split
    · rename_i q; exact no _ q
    · split
      · exact no 2 (by omega)
      · split
        · exact no 4 (by omega)
        · split
          · exact no 2 (by omega)
          · exact ⟨h1, Nat.le_trans h2 fl, fun _ => by simp only; omega⟩

/-- A frame's row is no list's. -/
theorem isfc_set {s : Store} {c : AVs} {x : FI} (h : IsFc s c x) {i : Nat} {z : FI} {c' : AVs} {ro : Bool} (hg : s.get i = .cells (fcs z c') ro) (o : AObj) : IsFc (s.set i o) c x := by
  have hV : ∀ {v : AV} {k : IntKind} {xs : List Int}, IsV s v k xs → k = .u64 ∨ k = .u8 → IsV (s.set i o) v k xs := by
    intro v k xs hv hk
    rcases hv with q | ⟨l, off, ys, ro', q1, q2, q3, q4⟩
    · exact .inl q
    · refine .inr ⟨l, off, ys, ro', q1, q2, ?_, q4⟩
      rw [get_set, if_neg, q3]
      intro e
      subst e
      rw [hg] at q3
      injection q3 with q3
      have z0 : (fcs z c')[0]? = (ys.map (AV.int k))[0]? := by rw [q3]
      have z4 : (fcs z c')[4]? = (ys.map (AV.int k))[4]? := by rw [q3]
      rw [List.getElem?_map] at z0 z4
      have y0 : (fcs z c')[0]? = some (AV.int .u8 z.kd) := rfl
      have y4 : (fcs z c')[4]? = some (AV.int .u64 z.ids) := rfl
      rw [y0] at z0
      rw [y4] at z4
      rcases hk with rfl | rfl
      · cases hy : ys[0]? with
        | none => rw [hy] at z0; cases z0
        | some y => rw [hy] at z0; injection z0 with z0; injection z0 with z0; cases z0
      · cases hy : ys[4]? with
        | none => rw [hy] at z4; cases z4
        | some y => rw [hy] at z4; injection z4 with z4; injection z4 with z4; cases z4
  have hR : ∀ {v : AV} {xs : List Rn}, IsRuns s v xs → IsRuns (s.set i o) v xs := by
    intro v xs hv
    rcases hv with q | ⟨l, ro', q1, q2, q3⟩
    · exact .inl q
    · refine .inr ⟨l, ro', q1, q2, ?_⟩
      rw [get_set, if_neg, q3]
      intro e
      subst e
      rw [hg] at q3
      injection q3 with q3
      cases xs with
      | nil => cases q3
      | cons r t =>
        have z1 : (fcs z c')[1]? = (((r :: t).map rcells).flatten)[1]? := by rw [q3]
        have y1 : (fcs z c')[1]? = some (AV.int .u8 z.src) := rfl
        rw [y1] at z1
        injection z1 with z1
        injection z1 with z1
        cases z1
  exact ⟨hR h.est, hR h.aux, hV h.done (.inl rfl), hV h.held (.inl rfl), hV h.data (.inr rfl)⟩

def cN : AVs := ⟨.nilsl, .nilsl, .nilsl, .nilsl, .nilsl⟩
theorem isfc_nil {s : Store} {x : FI} (h1 : x.est = []) (h2 : x.aux = []) (h3 : x.done = []) (h4 : x.held = []) (h5 : x.data = []) : IsFc s cN x := ⟨.inl ⟨rfl, h1⟩, .inl ⟨rfl, h2⟩, .inl ⟨rfl, h3⟩, .inl ⟨rfl, h4⟩, .inl ⟨rfl, h5⟩⟩
theorem wf_zero : WfF FI.zero := by constructor <;> simp [FI.zero]
/-- The frame of some bytes; the error's number. -/
def frame0 (b : List Int) : FI := { FI.zero with kd := b.getD 1 0, src := b.getD 2 0, dst := b.getD 3 0 }
def readI (b : List Int) : FI × List Int × Int := (wopsOf (b.getD 1 0)).foldl (fun st op => rdStep op st) (frame0 b, b.drop 4, 0)
def getI (xs : List Int) : FI × Int :=
  if (bodyI xs).2 ≠ 0 then (FI.zero, (bodyI xs).2)
  else if (bodyI xs).1.getD 0 0 ≠ 1 then (FI.zero, 3)
  else if (bodyI xs).1.getD 1 0 < 1 ∨ (bodyI xs).1.getD 1 0 > 10 then (FI.zero, 10)
  else if endR (readI (bodyI xs).1).2.1 (readI (bodyI xs).1).2.2 ≠ 0 then (FI.zero, endR (readI (bodyI xs).1).2.1 (readI (bodyI xs).1).2.2)
  else if mayC (readI (bodyI xs).1).1 = false then (FI.zero, 3)
  else ((readI (bodyI xs).1).1, 0)
theorem getD_u8 {b : List Int} (hu : ∀ x ∈ b, 0 ≤ x ∧ x < 256) (i : Nat) : 0 ≤ b.getD i 0 ∧ b.getD i 0 < 256 := by
  by_cases h : i < b.length
  · rw [List.getD_eq_getElem?_getD, List.getElem?_eq_getElem h]
    exact hu _ (List.getElem_mem h)
  · rw [List.getD_eq_getElem?_getD, List.getElem?_eq_none (by omega)]
    exact ⟨Int.le_refl _, by decide⟩
theorem get_run6 {s : Store} {bv : AV} {xs : List Int} (hv : IsV s bv .u8 xs) (hu : ∀ x ∈ xs, 0 ≤ x ∧ x < 256) (k : Nat) (hk : 1300 ≤ k) (hb : xs.length < k) (hk2 : k ≤ 70000) : ∃ c s', rn (k + 12) 8 [bv] s = some (.tuple [.agg (fcs (getI xs).1 c), .int .i64 (getI xs).2], s') ∧ IsFc s' c (getI xs).1 ∧ WfF (getI xs).1 ∧ Ext s s' := by
  rw [F8.eq]
  unfold F8.f F8.p4
  have hz : ([AV.int .u8 0, AV.int .u8 0, AV.int .u8 0, AV.int .u8 0, AV.int .u64 0, AV.int .u64 0, AV.int .u32 0, AV.int .u32 0, AV.int .u32 0, AV.int .u64 0, AV.int .u64 0, AV.nilsl, AV.nilsl, AV.nilsl, AV.nilsl, AV.nilsl] : List AV) = fcs FI.zero cN := rfl
  have hbz : ∀ f : List AV → Rz, aBuild [] (fcs FI.zero cN) f = f (fcs FI.zero cN) := fun f => rfl
  rw [hz, new_s, show (fcs FI.zero cN).length = 16 from rfl]
  have e0 := Ext.push s (.cells (fcs FI.zero cN) false)
  have g0 : (s.push (.cells (fcs FI.zero cN) false)).get s.next = .cells (fcs FI.zero cN) false := by rw [get_push, if_pos rfl]
  have l0 : s.next < (s.push (.cells (fcs FI.zero cN) false)).next := Nat.lt_succ_self _
  generalize s.push (.cells (fcs FI.zero cN) false) = t at *
  unfold F8.p3
  obtain ⟨v1, s1, k1, w1, e1⟩ := body_run (hv.ext e0) hu (k + 7) (by omega) (by omega) (by omega)
  obtain ⟨bu, bl, b4⟩ := bodyI_u8 hu
  have x0 : ∀ (a b : AV) (f : AV → Rz), aExtract 0 (.tuple [a, b]) f = f a := fun a b f => rfl
  have x1 : ∀ (a b : AV) (f : AV → Rz), aExtract 1 (.tuple [a, b]) f = f b := fun a b f => rfl
  rw [k1, bnd]
  simp only [x0, x1]
  have g1 := (e1.get _ l0).trans g0
  have l1 := Nat.lt_of_lt_of_le l0 e1.next
  have ee1 := e0.trans e1
  -- how it ends where there is an error
  have bad : ∀ (e : AV) (st : Store) (z : FI) (c : AVs), st.get s.next = .cells (fcs z c) false → Ext s st → ∃ c' s', (aStore 16 (.ptr s.next 0 16) (.agg (fcs FI.zero cN)) st fun s3 => aLoadN 16 (.ptr s.next 0 16) s3 fun v4 => (some (AV.tuple [v4, e], s3) : Rz)) = some (.tuple [.agg (fcs FI.zero c'), e], s') ∧ IsFc s' c' FI.zero ∧ WfF FI.zero ∧ Ext s s' := by
    intro e st z c q1 q2
    rw [rst_all (n := 16) q1 rfl rfl, rld_all (n := 16) (s := st.set s.next _) (cs := fcs FI.zero cN) (ro := false) (by rw [get_set, if_pos rfl]) rfl]
    exact ⟨cN, _, rfl, isfc_nil rfl rfl rfl rfl rfl, wf_zero, ⟨q2.next, fun l hl => by rw [get_set, if_neg (by omega)]; exact q2.get l hl⟩⟩
  unfold F8.p2 getI
  rw [neq_i, hz]
  by_cases c1 : (bodyI xs).2 = 0
  · rw [show ((bodyI xs).2 != 0) = false from by simp [c1], if_f, if_neg (by simp [c1])]
    have b4 := b4 c1
    generalize hB : (bodyI xs).1 = B at *
    have at_ : ∀ (i : Nat), i < B.length → ∃ p, (∀ f : AV → Rz, aIndexSl 1 v1 (.int .i64 (i : Int)) f = f p) ∧ (∀ {st : Store}, Ext s1 st → ∀ f : AV → Rz, aLoad1 p st f = f (.int .u8 (B.getD i 0))) := by
      intro i hi
      obtain ⟨p, p1, p2⟩ := atV w1 (i := (i : Int)) (by omega) (by omega)
      refine ⟨p, fun f => p1 .i64 f, fun {st} e f => ?_⟩
      obtain ⟨p', p1', p2'⟩ := atV (w1.ext e) (i := (i : Int)) (by omega) (by omega)
      have : p = p' := by
        have a := p1 .i64 (α := AV) some
        have b := p1' .i64 (α := AV) some
        rw [a] at b
        exact Option.some.inj b
      rw [this, p2', Int.toNat_natCast]
    obtain ⟨p0, i0, d0⟩ := at_ 0 (by omega)
    obtain ⟨p1, i1, d1⟩ := at_ 1 (by omega)
    obtain ⟨p2, i2, d2⟩ := at_ 2 (by omega)
    obtain ⟨p3, i3, d3⟩ := at_ 3 (by omega)
    have i0' : ∀ f : AV → Rz, aIndexSl 1 v1 (.int .i64 0) f = f p0 := i0
    rw [i0', d0 (Ext.refl s1), neq_i]
    by_cases c2 : B.getD 0 0 = 1
    · rw [show (B.getD 0 0 != 1) = false from by rw [c2]; rfl, if_f, if_neg (fun q => q c2)]
      have i1' : ∀ f : AV → Rz, aIndexSl 1 v1 (.int .i64 1) f = f p1 := i1
      have i2' : ∀ f : AV → Rz, aIndexSl 1 v1 (.int .i64 2) f = f p2 := i2
      have i3' : ∀ f : AV → Rz, aIndexSl 1 v1 (.int .i64 3) f = f p3 := i3
      simp only [i1', d1 (Ext.refl s1), lss_i, gtr_i, bnd, gn_some, gn_same, gn_v, gv_gv, gn_ld, gn_b1, pn_or]
      have hgi : ∀ {κ : AV → Rz} {z : Rz} {b w : Bool} {y : AV}, aGuard (.bool b) w (aIndexSl 1 (gv w b v1) y κ) z = aGuard (.bool b) w (aIndexSl 1 v1 y κ) z := by
        intro κ z b w y
        cases b <;> cases w <;> rfl
      simp only [hgi, i1', d1 (Ext.refl s1), lss_i, gtr_i, bnd, gn_some, gn_same, gn_v, gv_gv, gn_ld, gn_b1, pn_or]
      by_cases c3 : B.getD 1 0 < 1 ∨ B.getD 1 0 > 10
      · have hc : (decide (B.getD 1 0 < 1) || decide (B.getD 1 0 > 10)) = true := by
          rcases c3 with q | q
          · rw [decide_eq_true q]; rfl
          · rw [decide_eq_true q, Bool.or_true]
        rw [hc, if_t, if_pos c3, hbz]
        exact bad _ s1 _ _ g1 ee1
      · have hc : (decide (B.getD 1 0 < 1) || decide (B.getD 1 0 > 10)) = false := by
          rw [decide_eq_false (fun q => c3 (.inl q)), decide_eq_false (fun q => c3 (.inr q))]; rfl
        rw [hc, if_f, if_neg c3]
        -- the frame's row
        unfold F8.p1
        have hb3 : ∀ (a b c : Int) (f : List AV → Rz), aBuild [(0, 1, .int .u8 a), (1, 1, .int .u8 b), (2, 1, .int .u8 c)] [AV.int .u8 0, AV.int .u8 0, AV.int .u8 0] f = f [.int .u8 a, .int .u8 b, .int .u8 c] := fun a b c f => rfl
        have hbf : ∀ (a b c : Int) (f : List AV → Rz), aBuild [(0, 3, .agg [.int .u8 a, .int .u8 b, .int .u8 c])] (fcs FI.zero cN) f = f (fcs { FI.zero with kd := a, src := b, dst := c } cN) := fun a b c f => rfl
        have e2 := Ext.push s1 (.cells (fcs FI.zero cN) false)
        have g2 : (s1.push (.cells (fcs FI.zero cN) false)).get s1.next = .cells (fcs FI.zero cN) false := by rw [get_push, if_pos rfl]
        simp only [hz, bnd, i1', i2', i3', d1 (Ext.refl s1), d2 (Ext.refl s1), d3 (Ext.refl s1), d1 e2, d2 e2, d3 e2, hb3, hbf, new_s, show (fcs FI.zero cN).length = 16 from rfl, aSame_self, rst_all (n := 16) (vs := fcs { FI.zero with kd := B.getD 1 0, src := B.getD 2 0, dst := B.getD 3 0 } cN) g2 rfl rfl]
        have hf0 : ({ FI.zero with kd := B.getD 1 0, src := B.getD 2 0, dst := B.getD 3 0 } : FI) = frame0 B := rfl
        rw [hf0]
        have e3 : Ext s1 ((s1.push (.cells (fcs FI.zero cN) false)).set s1.next (.cells (fcs (frame0 B) cN) false)) := ⟨Nat.le_succ _, fun l hl => by rw [get_set, if_neg (by omega), get_push, if_neg (by omega)]⟩
        have g3 : ((s1.push (.cells (fcs FI.zero cN) false)).set s1.next (.cells (fcs (frame0 B) cN) false)).get s1.next = .cells (fcs (frame0 B) cN) false := by rw [get_set, if_pos rfl]
        have l3 : s1.next < ((s1.push (.cells (fcs FI.zero cN) false)).set s1.next (.cells (fcs (frame0 B) cN) false)).next := Nat.lt_succ_self _
        generalize (s1.push (.cells (fcs FI.zero cN) false)).set s1.next (.cells (fcs (frame0 B) cN) false) = t3 at *
        unfold F8.p0
        obtain ⟨w, w2, _, _, _, w3⟩ := sliceV (w1.ext e3) (a := 4) (b := B.length) (by omega) (by omega)
        have w3' : ∀ f : AV → Rz, aSliceSl 1 v1 (some (.int .i64 4)) none f = f w := fun f => w3 rfl .i64 f
        have hw4 : (B.drop 4).take (B.length - 4) = B.drop 4 := List.take_of_length_le (by simp)
        rw [hw4] at w2
        have hdu : ∀ x ∈ B.drop 4, 0 ≤ x ∧ x < 256 := fun x hx => bu x (List.mem_of_mem_drop hx)
        obtain ⟨rd, s4, k4, r4, e4⟩ := new_run w2 (by simp; omega) (k + 9)
        have hbr : ∀ f : List AV → Rz, aBuild [(0, 1, .ptr rd 0 2)] [AV.nilptr] f = f [.ptr rd 0 2] := fun f => rfl
        rw [w3', show k + 11 = k + 9 + 2 from rfl, k4, bnd]
        simp only [hbr]
        rw [new_all (n := 1) (s := s4) rfl rfl]
        have e5 := Ext.push s4 (.cells [.ptr rd 0 2] false)
        have g5 : (s4.push (.cells [.ptr rd 0 2] false)).get s4.next = .cells [.ptr rd 0 2] false := by rw [get_push, if_pos rfl]
        have l5 : s4.next < (s4.push (.cells [.ptr rd 0 2] false)).next := Nat.lt_succ_self _
        have hrd3 : t3.next ≤ rd ∧ rd < s4.next := by
          obtain ⟨_, _, q, q2, _⟩ := r4
          exact ⟨q2.1, q⟩
        have r5 := (r4.ext e5).mono (lo' := fun i => i ≠ s1.next) (fun i q => by have := q.1; omega)
        generalize s4.push (.cells [.ptr rd 0 2] false) = t5 at *
        rw [rld_all (n := 1) g5 rfl]
        have e35 := e4.trans e5
        have g35 := (e35.get _ l3).trans g3
        have l35 := Nat.lt_of_lt_of_le l3 e35.next
        have hkd : (frame0 B).kd = B.getD 1 0 := rfl
        have b1 := getD_u8 bu 1
        have b2 := getD_u8 bu 2
        have b3 := getD_u8 bu 3
        have hwf : WfF (frame0 B) := { wf_zero with kd := b1, src := b2, dst := b3 }
        have offn : offP s1.next rd .nilsl := fun i b n d f q => by cases q
        obtain ⟨s6, k6, c6, R⟩ := rd_visit (F := s1.next) (rd := rd) (s0 := t5) (s := t5) (kd := B.getD 1 0) (q := (frame0 B, B.drop 4, 0)) (k + 8) (by omega) (by omega) ⟨cN, g35, l35, rfl, .inl ⟨rfl, rfl⟩, .inl ⟨rfl, rfl⟩, .inl ⟨rfl, rfl⟩, .inl ⟨rfl, rfl⟩, .inl ⟨rfl, rfl⟩, ⟨offn, offn, offn, offn, offn⟩, r5, hdu, by simp; omega, (wopsOf_good _).1, (wopsOf_good _).2, fun _ => rfl, fun _ => rfl, fun _ => rfl, fun _ => rfl, FrP.refl _ _ _, hwf⟩
        rw [show k + 9 + 2 = k + 8 + 3 from rfl, k6, bnd]
        have hri : (wopsOf (B.getD 1 0)).foldl (fun st op => rdStep op st) (frame0 B, B.drop 4, 0) = readI B := rfl
        rw [hri] at R
        simp only [fld_p, Nat.add_zero]
        have hne1 : s4.next ≠ s1.next := by have := Nat.le_trans e3.next e4.next; have := Nat.lt_of_lt_of_le l3 e4.next; omega
        have g6 : s6.get s4.next = .cells [.ptr rd 0 2] false := by rw [R.fr.get s4.next l5 hne1 (by omega)]; exact g5
        have ld6 : ∀ f : AV → Rz, aLoad1 (.ptr s4.next 0 1) s6 f = f (.ptr rd 0 2) := fun f => load_1 g6 rfl rfl
        have l13 : s1.next ≤ t3.next := e3.next
        have ee3 := ee1.trans e3
        have hsn : s.next < s1.next := l1
        have ee6 : Ext s s6 := R.fr.ext (ee3.trans e35) (by omega) (by have := ee3.next; omega)
        have gx : s6.get s.next = .cells (fcs FI.zero cN) false := by
          rw [R.fr.get s.next (Nat.lt_of_lt_of_le l1 (Nat.le_trans e3.next e35.next)) (by omega) (by have := ee3.next; omega), (e3.trans e35).get _ l1]; exact g1
        rw [ld6, end_run R.rdr, bnd, neq_i]
        by_cases c4 : endR (readI B).2.1 (readI B).2.2 = 0
        · rw [show (endR (readI B).2.1 (readI B).2.2 != 0) = false from by simp [c4], if_f, if_neg (by simp [c4])]
          rw [rld_all (n := 16) R.row rfl]
          have fc6 : IsFc s6 c6 (readI B).1 := ⟨R.est, R.aux, R.done, R.held, R.data⟩
          obtain ⟨s7, k7, e7⟩ := may_run6 fc6 R.wf (k + 1) (by omega) (by omega)
          have g7 := (e7.get _ R.lt).trans R.row
          have gx7 := (e7.get _ (Nat.lt_of_lt_of_le l1 (Nat.le_trans e3.next (Nat.le_trans e35.next R.fr.next)))).trans gx
          have ee7 := ee6.trans e7
          rw [show (AV.agg (fcl (readI B).1 c6.e c6.a c6.d c6.h c6.b)) = .agg (fcs (readI B).1 c6) from rfl, show k + 8 + 3 = k + 1 + 10 from rfl, k7]
          simp only [bnd, not_b]
          cases hm : mayC (readI B).1 with
          | false =>
            rw [Bool.not_false, if_t, if_pos rfl]
            first | rw [hbz] | rw [hz, hbz]
            exact bad _ s7 _ _ gx7 ee7
          | true =>
            rw [Bool.not_true, if_f, if_neg (by simp)]
            rw [rld_all (n := 16) g7 rfl, rst_all (n := 16) gx7 rfl rfl, rld_all (n := 16) (s := s7.set s.next _) (cs := fcl (readI B).1 c6.e c6.a c6.d c6.h c6.b) (ro := false) (by rw [get_set, if_pos rfl]) rfl]
            exact ⟨c6, _, rfl, isfc_set (fc6.ext e7) gx7 _, R.wf, ⟨ee7.next, fun l hl => by rw [get_set, if_neg (by omega)]; exact ee7.get l hl⟩⟩
        · rw [show (endR (readI B).2.1 (readI B).2.2 != 0) = true from by simpa using c4, if_t, if_pos c4]
          first | rw [hbz] | rw [hz, hbz]
          exact bad _ s6 _ _ gx ee6
    · rw [show (B.getD 0 0 != 1) = true from bne_iff_ne.2 c2, if_t, if_pos c2, hbz]
      exact bad _ s1 _ _ g1 ee1
  · rw [show ((bodyI xs).2 != 0) = true from by simpa using c1, if_t, if_pos c1, hbz]
    exact bad _ s1 _ _ g1 ee1
end Go.Proofs.Ytkfdgegmahbkiaa.Sim
namespace Go.Proofs.Ytkfdgegmahbkiaa.Sim
set_option linter.unusedSimpArgs false
set_option linter.unusedVariables false

/-- A row that is no list's. -/
def FRw (s : Store) (i : Nat) : Prop := (∃ z c ro, s.get i = .cells (fcs z c) ro) ∨ (∃ v e ro, s.get i = .cells [v, .int .i64 e] ro)
theorem IsV.fr {s : Store} {v : AV} {k : IntKind} {xs : List Int} {i : Nat} (hv : IsV s v k xs) (hk : k = .u64 ∨ k = .u8) (hf : FRw s i) (o : AObj) : IsV (s.set i o) v k xs := by
  rcases hv with q | ⟨l, off, ys, ro', q1, q2, q3, q4⟩
  · exact .inl q
  · refine .inr ⟨l, off, ys, ro', q1, q2, ?_, q4⟩
    rw [get_set, if_neg, q3]
    intro e
    subst e
    rcases hf with ⟨z, c, ro, hg⟩ | ⟨w, e, ro, hg⟩
    · rw [hg] at q3
      injection q3 with q3
      have z0 : (fcs z c)[0]? = (ys.map (AV.int k))[0]? := by rw [q3]
      have z4 : (fcs z c)[4]? = (ys.map (AV.int k))[4]? := by rw [q3]
      rw [List.getElem?_map] at z0 z4
      have y0 : (fcs z c)[0]? = some (AV.int .u8 z.kd) := rfl
      have y4 : (fcs z c)[4]? = some (AV.int .u64 z.ids) := rfl
      rw [y0] at z0
      rw [y4] at z4
      rcases hk with rfl | rfl
      · cases hy : ys[0]? with
        | none => rw [hy] at z0; cases z0
        | some y => rw [hy] at z0; injection z0 with z0; injection z0 with z0; cases z0
      · cases hy : ys[4]? with
        | none => rw [hy] at z4; cases z4
        | some y => rw [hy] at z4; injection z4 with z4; injection z4 with z4; cases z4
    · rw [hg] at q3
      injection q3 with q3
      have z1 : [w, AV.int .i64 e][1]? = (ys.map (AV.int k))[1]? := by rw [q3]
      rw [List.getElem?_map] at z1
      cases hy : ys[1]? with
      | none => rw [hy] at z1; cases z1
      | some y =>
        rw [hy] at z1
        have z1 : some (AV.int .i64 e) = some (AV.int k y) := z1
        injection z1 with z1
        injection z1 with z1
        rcases hk with rfl | rfl <;> cases z1
theorem IsRuns.fr {s : Store} {v : AV} {xs : List Rn} {i : Nat} (hv : IsRuns s v xs) (hf : FRw s i) (o : AObj) : IsRuns (s.set i o) v xs := by
  rcases hv with q | ⟨l, ro', q1, q2, q3⟩
  · exact .inl q
  · refine .inr ⟨l, ro', q1, q2, ?_⟩
    rw [get_set, if_neg, q3]
    intro e
    subst e
    rcases hf with ⟨z, c, ro, hg⟩ | ⟨w, e, ro, hg⟩
    · rw [hg] at q3
      injection q3 with q3
      cases xs with
      | nil => cases q3
      | cons r t =>
        have z1 : (fcs z c)[1]? = (((r :: t).map rcells).flatten)[1]? := by rw [q3]
        have y1 : (fcs z c)[1]? = some (AV.int .u8 z.src) := rfl
        rw [y1] at z1
        injection z1 with z1
        injection z1 with z1
        cases z1
    · rw [hg] at q3
      injection q3 with q3
      cases xs with
      | nil => cases q3
      | cons r t =>
        have z1 : [w, AV.int .i64 e][1]? = (((r :: t).map rcells).flatten)[1]? := by rw [q3]
        have z1 : some (AV.int .i64 e) = some (AV.int .u64 r.2.1) := z1
        injection z1 with z1
        injection z1 with z1
        cases z1
theorem IsFc.fr {s : Store} {c : AVs} {x : FI} {i : Nat} (h : IsFc s c x) (hf : FRw s i) (o : AObj) : IsFc (s.set i o) c x := ⟨h.est.fr hf o, h.aux.fr hf o, h.done.fr (.inl rfl) hf o, h.held.fr (.inl rfl) hf o, h.data.fr (.inr rfl) hf o⟩
section
variable {s : Store} {d a id : Nat}
theorem x2_0 (a b : AV) (f : AV → Rz) : aExtract 0 (.tuple [a, b]) f = f a := rfl
theorem x2_1 (a b : AV) (f : AV → Rz) : aExtract 1 (.tuple [a, b]) f = f b := rfl

end
end Go.Proofs.Ytkfdgegmahbkiaa.Sim
namespace Go.Proofs.Ytkfdgegmahbkiaa.Sim
set_option linter.unusedSimpArgs false
set_option linter.unusedVariables false

section
variable {s : Store} {d a id : Nat}
end
end Go.Proofs.Ytkfdgegmahbkiaa.Sim
namespace Go.Proofs.Ytkfdgegmahbkiaa.Sim
set_option linter.unusedSimpArgs false
set_option linter.unusedVariables false

/-- The four rows of a call. -/
structure TR (s : Store) (a : Nat) (x : FI) (c : AVs) (lv : AV) (e : Int) (t : Store) : Prop where
  ga : t.get a = .cells (fcs x c) false
  gd : t.get (a + 1) = .cells [lv, .int .i64 e] false
  g2 : ∃ z cz, t.get (a + 2) = .cells (fcs z cz) false
  g3 : ∃ v w, t.get (a + 3) = .cells [v, .int .i64 w] false
  lt : a + 3 < t.next
  ext : Ext s t
  le : s.next ≤ a
section
variable {s t : Store} {a : Nat} {x : FI} {c : AVs} {lv : AV} {e : Int}
theorem TR.step (h : TR s a x c lv e t) {t' : Store} (e2 : Ext t t') : TR s a x c lv e t' :=
  ⟨(e2.get a (by have := h.lt; omega)).trans h.ga, (e2.get (a + 1) (by have := h.lt; omega)).trans h.gd, by obtain ⟨z, cz, q⟩ := h.g2; exact ⟨z, cz, (e2.get (a + 2) (by have := h.lt; omega)).trans q⟩, by obtain ⟨z, cz, q⟩ := h.g3; exact ⟨z, cz, (e2.get (a + 3) h.lt).trans q⟩, Nat.lt_of_lt_of_le h.lt e2.next, h.ext.trans e2, h.le⟩
theorem TR.put (h : TR s a x c lv e t) (x' : FI) (c' : AVs) (lv' : AV) (e' : Int) : TR s a x' c' lv' e' ((t.set a (.cells (fcs x' c') false)).set (a + 1) (.cells [lv', .int .i64 e'] false)) :=
  ⟨by rw [get_set, if_neg (by omega), get_set, if_pos rfl], by rw [get_set, if_pos rfl], by obtain ⟨z, cz, q⟩ := h.g2; exact ⟨z, cz, by rw [get_set, if_neg (by omega), get_set, if_neg (by omega)]; exact q⟩, by obtain ⟨z, cz, q⟩ := h.g3; exact ⟨z, cz, by rw [get_set, if_neg (by omega), get_set, if_neg (by omega)]; exact q⟩, h.lt,
    ⟨h.ext.next, fun j hj => by have := h.le; rw [get_set, if_neg (by omega), get_set, if_neg (by omega)]; exact h.ext.get j hj⟩, h.le⟩
theorem TR.fc (h : TR s a x c lv e t) {x' : FI} {c' : AVs} (hc : IsFc t c' x') (o p : AObj) : IsFc ((t.set a o).set (a + 1) p) c' x' := by
  have h1 := hc.fr (i := a) (.inl ⟨_, _, _, h.ga⟩) o
  exact h1.fr (.inr ⟨_, _, _, by rw [get_set, if_neg (by omega)]; exact h.gd⟩) p
theorem TR.v (h : TR s a x c lv e t) {v : AV} {b : List Int} (hv : IsV t v .u8 b) (o p : AObj) : IsV ((t.set a o).set (a + 1) p) v .u8 b := by
  have h1 := hv.fr (i := a) (.inr rfl) (.inl ⟨_, _, _, h.ga⟩) o
  exact h1.fr (.inr rfl) (.inr ⟨_, _, _, by rw [get_set, if_neg (by omega)]; exact h.gd⟩) p
/-- How a call ends. -/
theorem TR.fin (h : TR s a x c lv e t) {b : List Int} (hc : IsFc t c x) (hv : IsV t lv .u8 b) (k : Nat) : ∃ s', F24.p1 k (.ptr a 0 16) (.ptr (a + 1) 0 2) (.ptr (a + 2) 0 16) (.ptr (a + 3) 0 2) t = some (.tuple [.agg (fcs x c), .agg [lv, .int .i64 e]], s') ∧ IsFc s' c x ∧ IsV s' lv .u8 b ∧ Ext s s' := by
  obtain ⟨z, cz, g2⟩ := h.g2
  obtain ⟨v3, w3, g3⟩ := h.g3
  unfold F24.p1 F24.p0
  rw [rld_all (n := 16) h.ga rfl]
  simp only [bnd]
  rw [rld_all (n := 2) h.gd rfl]
  simp only [bnd]
  rw [rst_all (n := 16) g2 rfl rfl]
  simp only [bnd]
  rw [rld_all (n := 2) (s := t.set (a + 2) _) (cs := [lv, .int .i64 e]) (ro := false) (by rw [get_set, if_neg (by omega)]; exact h.gd) rfl]
  simp only [bnd, aSame_self]
  rw [rst_all (n := 2) (s := t.set (a + 2) _) (cs := [v3, .int .i64 w3]) (by rw [get_set, if_neg (by omega)]; exact g3) rfl rfl]
  simp only [bnd]
  rw [rld_all (n := 16) (s := (t.set (a + 2) _).set (a + 3) _) (cs := fcs x c) (ro := false) (by rw [get_set, if_neg (by omega), get_set, if_pos rfl]) rfl]
  rw [rld_all (n := 2) (s := (t.set (a + 2) _).set (a + 3) _) (cs := [lv, .int .i64 e]) (ro := false) (by rw [get_set, if_pos rfl]) rfl]
  have f2 : FRw t (a + 2) := .inl ⟨_, _, _, g2⟩
  have f3 : ∀ o, FRw (t.set (a + 2) o) (a + 3) := fun o => .inr ⟨_, _, _, by rw [get_set, if_neg (by omega)]; exact g3⟩
  refine ⟨_, rfl, (hc.fr f2 _).fr (f3 _) _, (hv.fr (.inr rfl) f2 _).fr (.inr rfl) (f3 _) _, ⟨h.ext.next, fun j hj => ?_⟩⟩
  have := h.le
  rw [get_set, if_neg (by omega), get_set, if_neg (by omega)]
  exact h.ext.get j hj
end
end Go.Proofs.Ytkfdgegmahbkiaa.Sim
namespace Go.Proofs.Ytkfdgegmahbkiaa.Sim
set_option linter.unusedSimpArgs false
set_option linter.unusedVariables false

def hOf (kd : Int) : ByteArray :=
  if kd = 1 then ⟨#[113, 100, 97, 111, 122, 98]⟩ else if kd = 2 ∨ kd = 5 ∨ kd = 10 then ⟨#[113]⟩ else if kd = 3 then ⟨#[100, 97]⟩ else if kd = 4 then ⟨#[100, 97, 111, 122, 98]⟩
  else if kd = 6 then ⟨#[105, 114, 101]⟩ else if kd = 7 then ⟨#[105, 114, 101, 120]⟩ else if kd = 8 then ⟨#[105, 101]⟩ else if kd = 9 then ⟨#[105, 110, 104]⟩ else ⟨#[]⟩
theorem fields_run (kd : Int) (s : Store) (k : Nat) : rn (k + 1) 23 [.int .u8 kd] s = some (.str (hOf kd), s) := by
  rw [F23.eq]
  unfold F23.f F23.p7 F23.p6 F23.p5 F23.p4 F23.p3 F23.p2 F23.p1 F23.p0 hOf
  have hb : ∀ n : Int, (kd == n) = decide (kd = n) := fun n => rfl
  simp only [eql_i, hb]
  by_cases c1 : kd = 1
  · simp only [c1, decide_true, if_t, if_true]
  · by_cases c2 : kd = 2
    · subst c2; rfl
    · by_cases c5 : kd = 5
      · subst c5; rfl
      · by_cases c10 : kd = 10
        · subst c10; rfl
        · by_cases c3 : kd = 3
          · subst c3; rfl
          · by_cases c4 : kd = 4
            · subst c4; rfl
            · by_cases c6 : kd = 6
              · subst c6; rfl
              · by_cases c7 : kd = 7
                · subst c7; rfl
                · by_cases c8 : kd = 8
                  · subst c8; rfl
                  · by_cases c9 : kd = 9
                    · subst c9; rfl
                    · simp only [c1, c2, c3, c4, c5, c6, c7, c8, c9, c10, decide_false, if_f, if_false, or_false, or_self]
theorem hOf_size (kd : Int) : (hOf kd).size ≤ 6 := by
  unfold hOf
  repeat' split
  all_goals decide

/-! ### what is wrong stays wrong -/
/-! ### bounds -/
end Go.Proofs.Ytkfdgegmahbkiaa.Sim
namespace Go.Proofs.Ytkfdgegmahbkiaa.Sim
set_option linter.unusedSimpArgs false
set_option linter.unusedVariables false

def emptyB (h : ByteArray) : Bool := h.toList == ByteArray.toList ⟨#[]⟩
def mayD (x : FI) : Bool :=
  !(emptyB (hOf x.kd)) && (!((((!absB x (hOf x.kd)) || decide (x.src > 63)) || decide (x.dst > 63)) || (x.src == x.dst)) &&
  (!((decide (x.seq > 4611686018427387904) || decide (x.inst > 4611686018427387904)) || decide (x.round > 4611686018427387904)) &&
  (!((inS (hOf x.kd) 105 && (x.kd != 9)) && (x.inst == 0)) && (!((inS (hOf x.kd) 100 && !(idOk x.idf x.ids)) || decide (x.at_ ≥ 1048576)) &&
  (!(inS (hOf x.kd) 111 && (((decide (x.at_ ≥ x.of_) || decide (x.of_ > 1048576)) || decide (x.size > 1048576)) || decide ((x.data.length : Int) > 65536))) &&
  (runsB x.est && (((runsB x.aux && cntsB x.done) && cntsB x.held) && ((x.kd != 8) || decide ((x.est.length : Int) > 0)))))))))
theorem gv_ff (v : AV) : gv false false v = v := rfl
theorem gv_tt (v : AV) : gv true true v = v := rfl
theorem rmay_run {s : Store} {x : FI} {c : AVs} (hc : IsFc s c x) (hw : WfF x) (k : Nat) (hk : 300 ≤ k) (hk2 : k ≤ 90000) : ∃ s', rn (k + 10) 16 [.agg (fcs x c)] s = some (.bool (mayD x), s') ∧ Ext s s' := by
  rw [F16.eq]
  unfold F16.f F16.p0 mayD
  rw [cells_agg, new_s, show (fcs x c).length = 16 from rfl]
  have hg : (s.push (.cells (fcs x c) false)).get s.next = .cells (fcs x c) false := by rw [get_push, if_pos rfl]
  have e1 := Ext.push s (.cells (fcs x c) false)
  have hlt : s.next < (s.push (.cells (fcs x c) false)).next := Nat.lt_succ_self _
  generalize s.push (.cells (fcs x c) false) = t at *
  have L := FLd.mk' (s := t) (F := s.next) (x := x) (c := c) (ro := false) hg
  have hsz := hOf_size x.kd
  have hf : ∀ st : Store, rn (k + 9) 23 [.int .u8 x.kd] st = some (.str (hOf x.kd), st) := fun st => fields_run x.kd st (k + 8)
  have hes : ∀ f : AV → Rz, aBin .eql (.str (hOf x.kd)) (.str ⟨#[]⟩) f = f (.bool (emptyB (hOf x.kd))) := fun f => rfl
  have hin : ∀ (n : Int) (st : Store), rn (k + 9) 37 [.str (hOf x.kd), .int .u8 n] st = some (.bool (inS (hOf x.kd) n), st) := fun n st => in_run (by omega) n st (k + 8) (by omega)
  have hid : ∀ st : Store, rn (k + 9) 38 [.agg [.int .u8 x.idf, .int .u64 x.ids], .int .i64 64] st = some (.bool (idOk x.idf x.ids), st.push (.cells [.int .u8 x.idf, .int .u64 x.ids] false)) := fun st => ref_id_may hw.idf (k + 8)
  simp only [fld_p, Nat.add_zero, L.l0, hf, bnd, hes]
  cases emptyB (hOf x.kd) with
  | true => exact ⟨t, by simp only [bnd, guard_tt, guard_ff, guard_tf, guard_ft, pick_t, pick_f, if_t, if_f, add_i, sub_i, lss_i, leq_i, gtr_i, geq_i, eql_i, neq_i, min_i, max_i, conv_i, len_sl, len_nil, not_b, cells_agg, new_s, fld_p, nil_p, guard_skip, Bool.not_true, Bool.false_and], e1⟩
  | false =>
  have hab : rn (k + 9) 36 [.agg (fcl x c.e c.a c.d c.h c.b), .str (hOf x.kd)] t = some (.bool (absB x (hOf x.kd)), t.push (.cells (fcs x c) false)) := absent_run (hc.ext e1) (by omega) (k + 7) (by omega)
  simp only [guard_ff, bnd, L.n16, hab, not_b]
  have e2 := Ext.push t (.cells (fcs x c) false)
  have hg2 := (e2.get _ hlt).trans hg
  have hlt2 := Nat.lt_of_lt_of_le hlt e2.next
  have ee2 := e1.trans e2
  generalize t.push (.cells (fcs x c) false) = t2 at *
  have L := FLd.mk' (s := t2) (F := s.next) (x := x) (c := c) (ro := false) hg2
  simp only [bnd, not_b, fld_p, Nat.zero_add, Nat.add_zero, gn_some, gn_same, gn_v, gv_gv, gn_fa, gn_ld, gn_ldn, gn_len, gn_b1, gn_b2, gn_un, gn_pk, gn_cl, gn_ct, gn_cf, gn_dt, gn_df, pn_and, pn_or, pn_tt, pn_tf, pn_ft, pn_ff, gv_ff, gv_tt, neq_i, eql_i, gtr_i, geq_i, lss_i, leq_i, L.l0, L.l1, L.l2, L.l3, L.l4, L.l5, L.l6, L.l7, L.l8, L.l9, L.l10, L.l11, L.l12, L.l13, L.l14, L.l15, L.n3, L.n16, pick_f, hin]
  cases (((!absB x (hOf x.kd)) || decide (x.src > 63)) || decide (x.dst > 63)) || (x.src == x.dst) with
  | true => exact ⟨t2, rfl, ee2⟩
  | false =>
  rw [if_f]
  cases (decide (x.seq > 4611686018427387904) || decide (x.inst > 4611686018427387904)) || decide (x.round > 4611686018427387904) with
  | true => exact ⟨t2, rfl, ee2⟩
  | false =>
  rw [if_f]
  cases (inS (hOf x.kd) 105 && (x.kd != 9)) && (x.inst == 0) with
  | true => exact ⟨t2, rfl, ee2⟩
  | false =>
  rw [if_f]
  have tail : ∀ (t3 : Store) (vb : Bool), Ext t2 t3 → vb = (inS (hOf x.kd) 100 && !(idOk x.idf x.ids)) → True := fun _ _ _ _ => trivial
  cases hbd : inS (hOf x.kd) 100 with
  | true =>
    simp only [guard_tt, bnd, hid, not_b, pick_t]
    have e3 := Ext.push t2 (.cells [.int .u8 x.idf, .int .u64 x.ids] false)
    have hg3 := (e3.get _ hlt2).trans hg2
    have hlt3 := Nat.lt_of_lt_of_le hlt2 e3.next
    have ee3 := ee2.trans e3
    generalize t2.push (.cells [.int .u8 x.idf, .int .u64 x.ids] false) = t3 at *
    have L := FLd.mk' (s := t3) (F := s.next) (x := x) (c := c) (ro := false) hg3
    simp only [bnd, not_b, fld_p, Nat.zero_add, Nat.add_zero, gn_some, gn_same, gn_v, gv_gv, gn_fa, gn_ld, gn_ldn, gn_len, gn_b1, gn_b2, gn_un, gn_pk, gn_cl, gn_ct, gn_cf, gn_dt, gn_df, pn_and, pn_or, pn_tt, pn_tf, pn_ft, pn_ff, gv_ff, gv_tt, neq_i, eql_i, gtr_i, geq_i, lss_i, leq_i, L.l0, L.l1, L.l2, L.l3, L.l4, L.l5, L.l6, L.l7, L.l8, L.l9, L.l10, L.l11, L.l12, L.l13, L.l14, L.l15, L.n3, L.n16, hin, lenV hc.data, Bool.true_and, Bool.false_and, Bool.false_or]
    cases (!(idOk x.idf x.ids) || decide (x.at_ ≥ 1048576)) with
    | true => exact ⟨t3, rfl, ee3⟩
    | false =>
    rw [if_f]
    cases inS (hOf x.kd) 111 && (((decide (x.at_ ≥ x.of_) || decide (x.of_ > 1048576)) || decide (x.size > 1048576)) || decide ((x.data.length : Int) > 65536)) with
    | true => exact ⟨t3, rfl, ee3⟩
    | false =>
    rw [if_f]
    obtain ⟨t4, k4, e4⟩ := rrows_run6 ((hc.ext ee3).est) hw.est hw.estL (k + 3) (by omega) (by omega)
    have k4 : rn (k + 9) 39 [c.e] t3 = some (.bool (runsB x.est), t4) := k4
    rw [k4]
    have ee4 := ee3.trans e4
    have hg4 := (e4.get _ hlt3).trans hg3
    have hlt4 := Nat.lt_of_lt_of_le hlt3 e4.next
    have L := FLd.mk' (s := t4) (F := s.next) (x := x) (c := c) (ro := false) hg4
    cases runsB x.est with
    | false => exact ⟨t4, by simp only [bnd, guard_tt, guard_ff, guard_tf, guard_ft, pick_t, pick_f, if_t, if_f, add_i, sub_i, lss_i, leq_i, gtr_i, geq_i, eql_i, neq_i, min_i, max_i, conv_i, len_sl, len_nil, not_b, cells_agg, new_s, fld_p, nil_p, guard_skip, Bool.false_and, Bool.not_false, Bool.true_and], ee4⟩
    | true =>
    obtain ⟨t5, k5, e5⟩ := rrows_run6 ((hc.ext ee4).aux) hw.aux hw.auxL (k + 3) (by omega) (by omega)
    have k5 : rn (k + 9) 39 [c.a] t4 = some (.bool (runsB x.aux), t5) := k5
    have ee5 := ee4.trans e5
    have hg5 := (e5.get _ hlt4).trans hg4
    have L5 := FLd.mk' (s := t5) (F := s.next) (x := x) (c := c) (ro := false) hg5
    have k6 : rn (k + 9) 40 [c.d] t5 = some (.bool (cntsB x.done), t5) := rcnts_run (hc.ext ee5).done hw.doneL (k + 8) (by omega)
    have k7 : rn (k + 9) 40 [c.h] t5 = some (.bool (cntsB x.held), t5) := rcnts_run (hc.ext ee5).held hw.heldL (k + 8) (by omega)
    refine ⟨t5, ?_, ee5⟩
    simp only [bnd, guard_tt, fld_p, Nat.zero_add, Nat.add_zero, L.l12, k5, pick_t]
    simp only [bnd, not_b, fld_p, Nat.zero_add, Nat.add_zero, gn_some, gn_same, gn_v, gv_gv, gn_fa, gn_ld, gn_ldn, gn_len, gn_b1, gn_b2, gn_un, gn_pk, gn_cl, gn_ct, gn_cf, gn_dt, gn_df, pn_and, pn_or, pn_tt, pn_tf, pn_ft, pn_ff, gv_ff, gv_tt, neq_i, eql_i, gtr_i, geq_i, lss_i, leq_i, L5.l0, L5.l1, L5.l2, L5.l3, L5.l4, L5.l5, L5.l6, L5.l7, L5.l8, L5.l9, L5.l10, L5.l11, L5.l12, L5.l13, L5.l14, L5.l15, L5.n3, L5.n16, k6, k7, len_runs hc.est, Bool.not_false, Bool.true_and]
  | false =>
    simp only [guard_ft, bnd, pick_f]
    have ee3 := ee2
    have hg3 := hg2
    have hlt3 := hlt2
    generalize t2 = t3 at *
    have L := FLd.mk' (s := t3) (F := s.next) (x := x) (c := c) (ro := false) hg3
    simp only [bnd, not_b, fld_p, Nat.zero_add, Nat.add_zero, gn_some, gn_same, gn_v, gv_gv, gn_fa, gn_ld, gn_ldn, gn_len, gn_b1, gn_b2, gn_un, gn_pk, gn_cl, gn_ct, gn_cf, gn_dt, gn_df, pn_and, pn_or, pn_tt, pn_tf, pn_ft, pn_ff, gv_ff, gv_tt, neq_i, eql_i, gtr_i, geq_i, lss_i, leq_i, L.l0, L.l1, L.l2, L.l3, L.l4, L.l5, L.l6, L.l7, L.l8, L.l9, L.l10, L.l11, L.l12, L.l13, L.l14, L.l15, L.n3, L.n16, hin, lenV hc.data, Bool.true_and, Bool.false_and, Bool.false_or]
    cases decide (x.at_ ≥ 1048576) with
    | true => exact ⟨t3, rfl, ee3⟩
    | false =>
    rw [if_f]
    cases inS (hOf x.kd) 111 && (((decide (x.at_ ≥ x.of_) || decide (x.of_ > 1048576)) || decide (x.size > 1048576)) || decide ((x.data.length : Int) > 65536)) with
    | true => exact ⟨t3, rfl, ee3⟩
    | false =>
    rw [if_f]
    obtain ⟨t4, k4, e4⟩ := rrows_run6 ((hc.ext ee3).est) hw.est hw.estL (k + 3) (by omega) (by omega)
    have k4 : rn (k + 9) 39 [c.e] t3 = some (.bool (runsB x.est), t4) := k4
    rw [k4]
    have ee4 := ee3.trans e4
    have hg4 := (e4.get _ hlt3).trans hg3
    have hlt4 := Nat.lt_of_lt_of_le hlt3 e4.next
    have L := FLd.mk' (s := t4) (F := s.next) (x := x) (c := c) (ro := false) hg4
    cases runsB x.est with
    | false => exact ⟨t4, by simp only [bnd, guard_tt, guard_ff, guard_tf, guard_ft, pick_t, pick_f, if_t, if_f, add_i, sub_i, lss_i, leq_i, gtr_i, geq_i, eql_i, neq_i, min_i, max_i, conv_i, len_sl, len_nil, not_b, cells_agg, new_s, fld_p, nil_p, guard_skip, Bool.false_and, Bool.not_false, Bool.true_and], ee4⟩
    | true =>
    obtain ⟨t5, k5, e5⟩ := rrows_run6 ((hc.ext ee4).aux) hw.aux hw.auxL (k + 3) (by omega) (by omega)
    have k5 : rn (k + 9) 39 [c.a] t4 = some (.bool (runsB x.aux), t5) := k5
    have ee5 := ee4.trans e5
    have hg5 := (e5.get _ hlt4).trans hg4
    have L5 := FLd.mk' (s := t5) (F := s.next) (x := x) (c := c) (ro := false) hg5
    have k6 : rn (k + 9) 40 [c.d] t5 = some (.bool (cntsB x.done), t5) := rcnts_run (hc.ext ee5).done hw.doneL (k + 8) (by omega)
    have k7 : rn (k + 9) 40 [c.h] t5 = some (.bool (cntsB x.held), t5) := rcnts_run (hc.ext ee5).held hw.heldL (k + 8) (by omega)
    refine ⟨t5, ?_, ee5⟩
    simp only [bnd, guard_tt, fld_p, Nat.zero_add, Nat.add_zero, L.l12, k5, pick_t]
    simp only [bnd, not_b, fld_p, Nat.zero_add, Nat.add_zero, gn_some, gn_same, gn_v, gv_gv, gn_fa, gn_ld, gn_ldn, gn_len, gn_b1, gn_b2, gn_un, gn_pk, gn_cl, gn_ct, gn_cf, gn_dt, gn_df, pn_and, pn_or, pn_tt, pn_tf, pn_ft, pn_ff, gv_ff, gv_tt, neq_i, eql_i, gtr_i, geq_i, lss_i, leq_i, L5.l0, L5.l1, L5.l2, L5.l3, L5.l4, L5.l5, L5.l6, L5.l7, L5.l8, L5.l9, L5.l10, L5.l11, L5.l12, L5.l13, L5.l14, L5.l15, L5.n3, L5.n16, k6, k7, len_runs hc.est, Bool.not_false, Bool.true_and]

theorem emptyB_eq (h : ByteArray) : emptyB h = (h.data.toList == ([] : List UInt8)) := by
  unfold emptyB
  rw [ba_toList, ba_toList]
theorem may_eq {x : FI} (hw : WfF x) : mayD x = mayC x := by
  have hd := hw.kd
  have wi := hw.inst
  have hkd : x.kd = 1 ∨ x.kd = 2 ∨ x.kd = 3 ∨ x.kd = 4 ∨ x.kd = 5 ∨ x.kd = 6 ∨ x.kd = 7 ∨ x.kd = 8 ∨ x.kd = 9 ∨ x.kd = 10 ∨ (x.kd < 1 ∨ x.kd > 10) := by omega
  rcases hkd with h | h | h | h | h | h | h | h | h | h | h
  · have hr : restF x = { x with idf := 0, ids := 0, seq := 0, at_ := 0, of_ := 0, size := 0, data := [] } := by
      unfold restF
      rw [h]
      simp [wopsOf, kpStep, setF, clrF, h]
    have j113 : inS (hOf 1) 113 = true := by decide
    have j100 : inS (hOf 1) 100 = true := by decide
    have j97 : inS (hOf 1) 97 = true := by decide
    have j111 : inS (hOf 1) 111 = true := by decide
    have j122 : inS (hOf 1) 122 = true := by decide
    have j105 : inS (hOf 1) 105 = false := by decide
    have j114 : inS (hOf 1) 114 = false := by decide
    have j101 : inS (hOf 1) 101 = false := by decide
    have j120 : inS (hOf 1) 120 = false := by decide
    have j110 : inS (hOf 1) 110 = false := by decide
    have j104 : inS (hOf 1) 104 = false := by decide
    have j98 : inS (hOf 1) 98 = true := by decide
    have je : emptyB (hOf 1) = false := by rw [emptyB_eq]; decide
    unfold mayD mayC bareB absB shapedB
    simp only [hr, h, je, j113, j100, j97, j111, j122, j105, j114, j101, j120, j110, j104, j98]
    apply Bool.eq_iff_iff.2
    have el : ∀ {α : Type} (l : List α), l = [] ↔ (l.length : Int) = 0 := fun l => by rw [← List.length_eq_zero_iff]; omega
    by_cases p1 : runsB x.est = true
    case neg => simp [p1]
    by_cases p2 : runsB x.aux = true
    case neg => simp [p2]
    by_cases p3 : cntsB x.done = true
    case neg => simp [p3]
    by_cases p4 : cntsB x.held = true
    case neg => simp [p4]
    by_cases p5 : idOk x.idf x.ids = true
    case neg =>
      simp [p1, p2, p3, p4, p5]
      try simp only [el]
      try omega
    simp [p1, p2, p3, p4, p5]
    try simp only [el]
    try omega
  · have hr : restF x = { x with seq := 0 } := by
      unfold restF
      rw [h]
      simp [wopsOf, kpStep, setF, clrF, h]
    have j113 : inS (hOf 2) 113 = true := by decide
    have j100 : inS (hOf 2) 100 = false := by decide
    have j97 : inS (hOf 2) 97 = false := by decide
    have j111 : inS (hOf 2) 111 = false := by decide
    have j122 : inS (hOf 2) 122 = false := by decide
    have j105 : inS (hOf 2) 105 = false := by decide
    have j114 : inS (hOf 2) 114 = false := by decide
    have j101 : inS (hOf 2) 101 = false := by decide
    have j120 : inS (hOf 2) 120 = false := by decide
    have j110 : inS (hOf 2) 110 = false := by decide
    have j104 : inS (hOf 2) 104 = false := by decide
    have j98 : inS (hOf 2) 98 = false := by decide
    have je : emptyB (hOf 2) = false := by rw [emptyB_eq]; decide
    unfold mayD mayC bareB absB shapedB
    simp only [hr, h, je, j113, j100, j97, j111, j122, j105, j114, j101, j120, j110, j104, j98]
    apply Bool.eq_iff_iff.2
    have el : ∀ {α : Type} (l : List α), l = [] ↔ (l.length : Int) = 0 := fun l => by rw [← List.length_eq_zero_iff]; omega
    by_cases p1 : runsB x.est = true
    case neg => simp [p1]
    by_cases p2 : runsB x.aux = true
    case neg => simp [p2]
    by_cases p3 : cntsB x.done = true
    case neg => simp [p3]
    by_cases p4 : cntsB x.held = true
    case neg => simp [p4]
    by_cases p5 : idOk x.idf x.ids = true
    case neg =>
      simp [p1, p2, p3, p4, p5]
      try simp only [el]
      try omega
    simp [p1, p2, p3, p4, p5]
    try simp only [el]
    try omega
  · have hr : restF x = { x with idf := 0, ids := 0, at_ := 0 } := by
      unfold restF
      rw [h]
      simp [wopsOf, kpStep, setF, clrF, h]
    have j113 : inS (hOf 3) 113 = false := by decide
    have j100 : inS (hOf 3) 100 = true := by decide
    have j97 : inS (hOf 3) 97 = true := by decide
    have j111 : inS (hOf 3) 111 = false := by decide
    have j122 : inS (hOf 3) 122 = false := by decide
    have j105 : inS (hOf 3) 105 = false := by decide
    have j114 : inS (hOf 3) 114 = false := by decide
    have j101 : inS (hOf 3) 101 = false := by decide
    have j120 : inS (hOf 3) 120 = false := by decide
    have j110 : inS (hOf 3) 110 = false := by decide
    have j104 : inS (hOf 3) 104 = false := by decide
    have j98 : inS (hOf 3) 98 = false := by decide
    have je : emptyB (hOf 3) = false := by rw [emptyB_eq]; decide
    unfold mayD mayC bareB absB shapedB
    simp only [hr, h, je, j113, j100, j97, j111, j122, j105, j114, j101, j120, j110, j104, j98]
    apply Bool.eq_iff_iff.2
    have el : ∀ {α : Type} (l : List α), l = [] ↔ (l.length : Int) = 0 := fun l => by rw [← List.length_eq_zero_iff]; omega
    by_cases p1 : runsB x.est = true
    case neg => simp [p1]
    by_cases p2 : runsB x.aux = true
    case neg => simp [p2]
    by_cases p3 : cntsB x.done = true
    case neg => simp [p3]
    by_cases p4 : cntsB x.held = true
    case neg => simp [p4]
    by_cases p5 : idOk x.idf x.ids = true
    case neg =>
      simp [p1, p2, p3, p4, p5]
      try simp only [el]
      try omega
    simp [p1, p2, p3, p4, p5]
    try simp only [el]
    try omega
  · have hr : restF x = { x with idf := 0, ids := 0, at_ := 0, of_ := 0, size := 0, data := [] } := by
      unfold restF
      rw [h]
      simp [wopsOf, kpStep, setF, clrF, h]
    have j113 : inS (hOf 4) 113 = false := by decide
    have j100 : inS (hOf 4) 100 = true := by decide
    have j97 : inS (hOf 4) 97 = true := by decide
    have j111 : inS (hOf 4) 111 = true := by decide
    have j122 : inS (hOf 4) 122 = true := by decide
    have j105 : inS (hOf 4) 105 = false := by decide
    have j114 : inS (hOf 4) 114 = false := by decide
    have j101 : inS (hOf 4) 101 = false := by decide
    have j120 : inS (hOf 4) 120 = false := by decide
    have j110 : inS (hOf 4) 110 = false := by decide
    have j104 : inS (hOf 4) 104 = false := by decide
    have j98 : inS (hOf 4) 98 = true := by decide
    have je : emptyB (hOf 4) = false := by rw [emptyB_eq]; decide
    unfold mayD mayC bareB absB shapedB
    simp only [hr, h, je, j113, j100, j97, j111, j122, j105, j114, j101, j120, j110, j104, j98]
    apply Bool.eq_iff_iff.2
    have el : ∀ {α : Type} (l : List α), l = [] ↔ (l.length : Int) = 0 := fun l => by rw [← List.length_eq_zero_iff]; omega
    by_cases p1 : runsB x.est = true
    case neg => simp [p1]
    by_cases p2 : runsB x.aux = true
    case neg => simp [p2]
    by_cases p3 : cntsB x.done = true
    case neg => simp [p3]
    by_cases p4 : cntsB x.held = true
    case neg => simp [p4]
    by_cases p5 : idOk x.idf x.ids = true
    case neg =>
      simp [p1, p2, p3, p4, p5]
      try simp only [el]
      try omega
    simp [p1, p2, p3, p4, p5]
    try simp only [el]
    try omega
  · have hr : restF x = { x with seq := 0 } := by
      unfold restF
      rw [h]
      simp [wopsOf, kpStep, setF, clrF, h]
    have j113 : inS (hOf 5) 113 = true := by decide
    have j100 : inS (hOf 5) 100 = false := by decide
    have j97 : inS (hOf 5) 97 = false := by decide
    have j111 : inS (hOf 5) 111 = false := by decide
    have j122 : inS (hOf 5) 122 = false := by decide
    have j105 : inS (hOf 5) 105 = false := by decide
    have j114 : inS (hOf 5) 114 = false := by decide
    have j101 : inS (hOf 5) 101 = false := by decide
    have j120 : inS (hOf 5) 120 = false := by decide
    have j110 : inS (hOf 5) 110 = false := by decide
    have j104 : inS (hOf 5) 104 = false := by decide
    have j98 : inS (hOf 5) 98 = false := by decide
    have je : emptyB (hOf 5) = false := by rw [emptyB_eq]; decide
    unfold mayD mayC bareB absB shapedB
    simp only [hr, h, je, j113, j100, j97, j111, j122, j105, j114, j101, j120, j110, j104, j98]
    apply Bool.eq_iff_iff.2
    have el : ∀ {α : Type} (l : List α), l = [] ↔ (l.length : Int) = 0 := fun l => by rw [← List.length_eq_zero_iff]; omega
    by_cases p1 : runsB x.est = true
    case neg => simp [p1]
    by_cases p2 : runsB x.aux = true
    case neg => simp [p2]
    by_cases p3 : cntsB x.done = true
    case neg => simp [p3]
    by_cases p4 : cntsB x.held = true
    case neg => simp [p4]
    by_cases p5 : idOk x.idf x.ids = true
    case neg =>
      simp [p1, p2, p3, p4, p5]
      try simp only [el]
      try omega
    simp [p1, p2, p3, p4, p5]
    try simp only [el]
    try omega
  · have hr : restF x = { x with inst := 0, round := 0, est := [] } := by
      unfold restF
      rw [h]
      simp [wopsOf, kpStep, setF, clrF, h]
    have j113 : inS (hOf 6) 113 = false := by decide
    have j100 : inS (hOf 6) 100 = false := by decide
    have j97 : inS (hOf 6) 97 = false := by decide
    have j111 : inS (hOf 6) 111 = false := by decide
    have j122 : inS (hOf 6) 122 = false := by decide
    have j105 : inS (hOf 6) 105 = true := by decide
    have j114 : inS (hOf 6) 114 = true := by decide
    have j101 : inS (hOf 6) 101 = true := by decide
    have j120 : inS (hOf 6) 120 = false := by decide
    have j110 : inS (hOf 6) 110 = false := by decide
    have j104 : inS (hOf 6) 104 = false := by decide
    have j98 : inS (hOf 6) 98 = false := by decide
    have je : emptyB (hOf 6) = false := by rw [emptyB_eq]; decide
    unfold mayD mayC bareB absB shapedB
    simp only [hr, h, je, j113, j100, j97, j111, j122, j105, j114, j101, j120, j110, j104, j98]
    apply Bool.eq_iff_iff.2
    have el : ∀ {α : Type} (l : List α), l = [] ↔ (l.length : Int) = 0 := fun l => by rw [← List.length_eq_zero_iff]; omega
    by_cases p1 : runsB x.est = true
    case neg => simp [p1]
    by_cases p2 : runsB x.aux = true
    case neg => simp [p2]
    by_cases p3 : cntsB x.done = true
    case neg => simp [p3]
    by_cases p4 : cntsB x.held = true
    case neg => simp [p4]
    by_cases p5 : idOk x.idf x.ids = true
    case neg =>
      simp [p1, p2, p3, p4, p5]
      try simp only [el]
      try omega
    simp [p1, p2, p3, p4, p5]
    try simp only [el]
    try omega
  · have hr : restF x = { x with inst := 0, round := 0, est := [], aux := [] } := by
      unfold restF
      rw [h]
      simp [wopsOf, kpStep, setF, clrF, h]
    have j113 : inS (hOf 7) 113 = false := by decide
    have j100 : inS (hOf 7) 100 = false := by decide
    have j97 : inS (hOf 7) 97 = false := by decide
    have j111 : inS (hOf 7) 111 = false := by decide
    have j122 : inS (hOf 7) 122 = false := by decide
    have j105 : inS (hOf 7) 105 = true := by decide
    have j114 : inS (hOf 7) 114 = true := by decide
    have j101 : inS (hOf 7) 101 = true := by decide
    have j120 : inS (hOf 7) 120 = true := by decide
    have j110 : inS (hOf 7) 110 = false := by decide
    have j104 : inS (hOf 7) 104 = false := by decide
    have j98 : inS (hOf 7) 98 = false := by decide
    have je : emptyB (hOf 7) = false := by rw [emptyB_eq]; decide
    unfold mayD mayC bareB absB shapedB
    simp only [hr, h, je, j113, j100, j97, j111, j122, j105, j114, j101, j120, j110, j104, j98]
    apply Bool.eq_iff_iff.2
    have el : ∀ {α : Type} (l : List α), l = [] ↔ (l.length : Int) = 0 := fun l => by rw [← List.length_eq_zero_iff]; omega
    by_cases p1 : runsB x.est = true
    case neg => simp [p1]
    by_cases p2 : runsB x.aux = true
    case neg => simp [p2]
    by_cases p3 : cntsB x.done = true
    case neg => simp [p3]
    by_cases p4 : cntsB x.held = true
    case neg => simp [p4]
    by_cases p5 : idOk x.idf x.ids = true
    case neg =>
      simp [p1, p2, p3, p4, p5]
      try simp only [el]
      try omega
    simp [p1, p2, p3, p4, p5]
    try simp only [el]
    try omega
  · have hr : restF x = { x with inst := 0, est := [] } := by
      unfold restF
      rw [h]
      simp [wopsOf, kpStep, setF, clrF, h]
    have j113 : inS (hOf 8) 113 = false := by decide
    have j100 : inS (hOf 8) 100 = false := by decide
    have j97 : inS (hOf 8) 97 = false := by decide
    have j111 : inS (hOf 8) 111 = false := by decide
    have j122 : inS (hOf 8) 122 = false := by decide
    have j105 : inS (hOf 8) 105 = true := by decide
    have j114 : inS (hOf 8) 114 = false := by decide
    have j101 : inS (hOf 8) 101 = true := by decide
    have j120 : inS (hOf 8) 120 = false := by decide
    have j110 : inS (hOf 8) 110 = false := by decide
    have j104 : inS (hOf 8) 104 = false := by decide
    have j98 : inS (hOf 8) 98 = false := by decide
    have je : emptyB (hOf 8) = false := by rw [emptyB_eq]; decide
    unfold mayD mayC bareB absB shapedB
    simp only [hr, h, je, j113, j100, j97, j111, j122, j105, j114, j101, j120, j110, j104, j98]
    apply Bool.eq_iff_iff.2
    have el : ∀ {α : Type} (l : List α), l = [] ↔ (l.length : Int) = 0 := fun l => by rw [← List.length_eq_zero_iff]; omega
    by_cases p1 : runsB x.est = true
    case neg => simp [p1]
    by_cases p2 : runsB x.aux = true
    case neg => simp [p2]
    by_cases p3 : cntsB x.done = true
    case neg => simp [p3]
    by_cases p4 : cntsB x.held = true
    case neg => simp [p4]
    by_cases p5 : idOk x.idf x.ids = true
    case neg =>
      simp [p1, p2, p3, p4, p5]
      try simp only [el]
      try omega
    simp [p1, p2, p3, p4, p5]
    try simp only [el]
    try omega
  · have hr : restF x = { x with inst := 0, done := [], held := [] } := by
      unfold restF
      rw [h]
      simp [wopsOf, kpStep, setF, clrF, h]
    have j113 : inS (hOf 9) 113 = false := by decide
    have j100 : inS (hOf 9) 100 = false := by decide
    have j97 : inS (hOf 9) 97 = false := by decide
    have j111 : inS (hOf 9) 111 = false := by decide
    have j122 : inS (hOf 9) 122 = false := by decide
    have j105 : inS (hOf 9) 105 = true := by decide
    have j114 : inS (hOf 9) 114 = false := by decide
    have j101 : inS (hOf 9) 101 = false := by decide
    have j120 : inS (hOf 9) 120 = false := by decide
    have j110 : inS (hOf 9) 110 = true := by decide
    have j104 : inS (hOf 9) 104 = true := by decide
    have j98 : inS (hOf 9) 98 = false := by decide
    have je : emptyB (hOf 9) = false := by rw [emptyB_eq]; decide
    unfold mayD mayC bareB absB shapedB
    simp only [hr, h, je, j113, j100, j97, j111, j122, j105, j114, j101, j120, j110, j104, j98]
    apply Bool.eq_iff_iff.2
    have el : ∀ {α : Type} (l : List α), l = [] ↔ (l.length : Int) = 0 := fun l => by rw [← List.length_eq_zero_iff]; omega
    by_cases p1 : runsB x.est = true
    case neg => simp [p1]
    by_cases p2 : runsB x.aux = true
    case neg => simp [p2]
    by_cases p3 : cntsB x.done = true
    case neg => simp [p3]
    by_cases p4 : cntsB x.held = true
    case neg => simp [p4]
    by_cases p5 : idOk x.idf x.ids = true
    case neg =>
      simp [p1, p2, p3, p4, p5]
      try simp only [el]
      try omega
    simp [p1, p2, p3, p4, p5]
    try simp only [el]
    try omega
  · have hr : restF x = { x with seq := 0 } := by
      unfold restF
      rw [h]
      simp [wopsOf, kpStep, setF, clrF, h]
    have j113 : inS (hOf 10) 113 = true := by decide
    have j100 : inS (hOf 10) 100 = false := by decide
    have j97 : inS (hOf 10) 97 = false := by decide
    have j111 : inS (hOf 10) 111 = false := by decide
    have j122 : inS (hOf 10) 122 = false := by decide
    have j105 : inS (hOf 10) 105 = false := by decide
    have j114 : inS (hOf 10) 114 = false := by decide
    have j101 : inS (hOf 10) 101 = false := by decide
    have j120 : inS (hOf 10) 120 = false := by decide
    have j110 : inS (hOf 10) 110 = false := by decide
    have j104 : inS (hOf 10) 104 = false := by decide
    have j98 : inS (hOf 10) 98 = false := by decide
    have je : emptyB (hOf 10) = false := by rw [emptyB_eq]; decide
    unfold mayD mayC bareB absB shapedB
    simp only [hr, h, je, j113, j100, j97, j111, j122, j105, j114, j101, j120, j110, j104, j98]
    apply Bool.eq_iff_iff.2
    have el : ∀ {α : Type} (l : List α), l = [] ↔ (l.length : Int) = 0 := fun l => by rw [← List.length_eq_zero_iff]; omega
    by_cases p1 : runsB x.est = true
    case neg => simp [p1]
    by_cases p2 : runsB x.aux = true
    case neg => simp [p2]
    by_cases p3 : cntsB x.done = true
    case neg => simp [p3]
    by_cases p4 : cntsB x.held = true
    case neg => simp [p4]
    by_cases p5 : idOk x.idf x.ids = true
    case neg =>
      simp [p1, p2, p3, p4, p5]
      try simp only [el]
      try omega
    simp [p1, p2, p3, p4, p5]
    try simp only [el]
    try omega
  · have hh : hOf x.kd = ⟨#[]⟩ := by
      unfold hOf
      rw [if_neg (by omega), if_neg (by omega), if_neg (by omega), if_neg (by omega), if_neg (by omega), if_neg (by omega), if_neg (by omega), if_neg (by omega)]
    have je : emptyB (hOf x.kd) = true := by rw [hh, emptyB_eq]; rfl
    unfold mayD mayC
    rw [je]
    rcases h with h | h
    · rw [decide_eq_true h]; rfl
    · rw [decide_eq_true h, Bool.or_true]; rfl
end Go.Proofs.Ytkfdgegmahbkiaa.Sim
namespace Go.Proofs.Ytkfdgegmahbkiaa.Sim
set_option linter.unusedSimpArgs false
set_option linter.unusedVariables false

end Go.Proofs.Ytkfdgegmahbkiaa.Sim
namespace Go.Proofs.Ytkfdgegmahbkiaa.Sim
set_option linter.unusedSimpArgs false
set_option linter.unusedVariables false

def numsW (l : List Int) : List Int := (l.map numB).flatten
theorem rnums_loop (k : Nat) (hk : 20 ≤ k) (hk2 : k ≤ 90000) {s0 : Store} {lv : AV} {l : List Int} (hv : IsV s0 lv .u64 l) (hu : ∀ x ∈ l, 0 ≤ x ∧ x < 18446744073709551616) (hl : l.length ≤ 100) : ∀ (n i : Nat) (s : Store) (v : AV) (xs : List Int), Ext s0 s → OwnV s v .u8 xs s0.next → xs.length + (l.length - i) * 9 ≤ 90000 → i ≤ l.length → l.length - i < n →
    ∃ v' s', F27.l0 (k + 1) n lv v (.int .i64 l.length) (.int .i64 (i : Int)) s = some (v', s') ∧ OwnV s' v' .u8 (xs ++ numsW (l.drop i)) s0.next ∧ Ext s0 s'
  | 0, i, _, _, _, _, _, _, hi, hn => by omega
  | n + 1, i, s, v, xs, e, ho, hb, hi, hn => by
    have hs : F27.l0 (k + 1) (n + 1) = fun x0 x3 x10 x11 s => F27.p4 (k + 1) (F27.l0 (k + 1) n) x0 x3 x10 x11 s := rfl
    rw [hs]
    clear hs
    simp only
    unfold F27.p4 F27.p3
    rw [lss_i]
    by_cases h : i < l.length
    · rw [decide_eq_true (show (i : Int) < (l.length : Int) by omega), if_t]
      unfold F27.p2 F27.p1
      obtain ⟨p, p1, p2⟩ := atV (hv.ext e) (i := (i : Int)) (by omega) (by omega)
      have hd : l.getD ((i : Int)).toNat 0 = l[i] := by simp [h]
      have hx := hu _ (List.getElem_mem h)
      obtain ⟨w, s1, k1, k2, k3⟩ := rnum_run (s := s) hx.1 hx.2 k hk (by omega)
      have hnl := numB_len l[i]
      obtain ⟨v2, s2, j1, j2, j3, _⟩ := appV (bytes := 1) (ho.ext k3) (Nat.le_trans e.next k3.next) k2.is (by omega) (by omega)
      have hw2 : IntKind.i64.wrap ((i : Int) + 1) = ((i + 1 : Nat) : Int) := by rw [w_i64 (by omega) (by omega)]; omega
      rw [p1, p2, hd, k1, bnd]
      simp only
      rw [j1, add_i, hw2]
      obtain ⟨v', s', g1, g2, g3⟩ := rnums_loop k hk hk2 hv hu hl n (i + 1) s2 v2 (xs ++ numB l[i]) ((e.trans k3).lo' j3) j2 (by simp only [List.length_append]; omega) (by omega) (by omega)
      refine ⟨v', s', g1, ?_, g3⟩
      rw [List.drop_eq_getElem_cons h]
      show OwnV s' v' .u8 (xs ++ (numB l[i] ++ numsW (l.drop (i + 1)))) _
      rw [← List.append_assoc]; exact g2
    · rw [decide_eq_false (show ¬ (i : Int) < (l.length : Int) by omega), if_f, List.drop_eq_nil_of_le (by omega)]
      exact ⟨v, s, rfl, by simpa [numsW] using ho, e⟩
theorem rnums_run {s : Store} {lv : AV} {l : List Int} (hv : IsV s lv .u64 l) (hu : ∀ x ∈ l, 0 ≤ x ∧ x < 18446744073709551616) (hl : l.length ≤ 100) (k : Nat) (hk : 200 ≤ k) (hk2 : k ≤ 90000) : ∃ v' s', rn (k + 2) 27 [lv] s = some (v', s') ∧ OwnV s' v' .u8 (numB l.length ++ numsW l) s.next ∧ Ext s s' := by
  rw [F27.eq]
  unfold F27.f F27.p7 F27.p6
  obtain ⟨w, s1, k1, k2, k3⟩ := rnum_run (s := s) (n := (l.length : Int)) (by omega) (by omega) k (by omega) (by omega)
  rw [lenV hv, conv_i, w_u64 (by omega) (by omega), k1, bnd]
  unfold F27.p5
  have hnl := numB_len (l.length : Int)
  simp only
  rw [lenV hv]
  obtain ⟨v', s', g1, g2, g3⟩ := rnums_loop k (by omega) hk2 hv hu hl (k + 1) 0 s1 w (numB l.length) k3 k2 (by omega) (by omega) (by omega)
  rw [Int.natCast_zero] at g1
  rw [List.drop_zero] at g2
  exact ⟨v', s', g1, g2, g3⟩
theorem eq_2s (a b : Int) {α : Type} (f : Bool → Option α) : aEq (.struct [.int, .int]) (.agg [.int .u8 a, .int .u64 b]) (.agg [.int .u8 a, .int .u64 b]) f = f true := by
  simp only [aEq, eqCells, if_true, Option.map_some, beq_self_eq_true, Bool.true_and]
theorem same_run6 {s : Store} {x : FI} {c c' : AVs} (hc : IsFc s c x) (hc' : IsFc s c' x) (hw : WfF x) (k : Nat) (hk : 300 ≤ k) (hk2 : k ≤ 80000) : ∃ s', rn (k + 10) 10 [.agg (fcs x c), .agg (fcs x c')] s = some (.bool true, s') ∧ Ext s s' := by
  rw [F10.eq]
  unfold F10.f F10.p3
  rw [cells_agg, new_s, cells_agg, new_s]
  simp only [show ∀ (y : FI) (d : AVs), (fcs y d).length = 16 from fun _ _ => rfl, next_push]
  have e1 := Ext.push s (.cells (fcs x c) false)
  have e2 := Ext.push (s.push (.cells (fcs x c) false)) (.cells (fcs x c') false)
  have ga : ((s.push (.cells (fcs x c) false)).push (.cells (fcs x c') false)).get s.next = .cells (fcs x c) false := by
    rw [e2.get s.next (Nat.lt_succ_self _), get_push, if_pos rfl]
  have gb : ((s.push (.cells (fcs x c) false)).push (.cells (fcs x c') false)).get (s.next + 1) = .cells (fcs x c') false := by
    simp only [get_push, next_push, if_true]
  have hlt : s.next + 1 < ((s.push (.cells (fcs x c) false)).push (.cells (fcs x c') false)).next := Nat.lt_succ_self _
  have ee := e1.trans e2
  generalize (s.push (.cells (fcs x c) false)).push (.cells (fcs x c') false) = t at *
  have A := FLd.mk' (s := t) (F := s.next) (x := x) (c := c) (ro := false) ga
  have B := FLd.mk' (s := t) (F := s.next + 1) (x := x) (c := c') (ro := false) gb
  unfold F10.p2
  simp only [bnd, guard_tt, guard_ff, guard_tf, guard_ft, pick_t, pick_f, if_t, if_f, add_i, sub_i, lss_i, leq_i, gtr_i, geq_i, eql_i, neq_i, min_i, max_i, conv_i, len_sl, len_nil, not_b, cells_agg, new_s, fld_p, nil_p, Nat.zero_add, Nat.add_zero, bne_self_eq_false, eq_2s, A.l0, A.l1, A.l2, A.n3, A.l5, A.l6, A.l7, A.l8, A.l9, A.l10, B.l0, B.l1, B.l2, B.n3, B.l5, B.l6, B.l7, B.l8, B.l9, B.l10, Bool.not_true]
  unfold F10.p1 F10.p0
  have hs1 : rn (k + 9) 26 [c.e, c'.e] t = some (.bool true, t) := by
    have := same_run (hc.ext ee).est (hc'.ext ee).est (by have := hw.estL; omega) (k + 8) (by have := hw.estL; omega)
    rwa [decide_eq_true rfl] at this
  have hs2 : rn (k + 9) 26 [c.a, c'.a] t = some (.bool true, t) := by
    have := same_run (hc.ext ee).aux (hc'.ext ee).aux (by have := hw.auxL; omega) (k + 8) (by have := hw.auxL; omega)
    rwa [decide_eq_true rfl] at this
  have num : ∀ {u : Store} {v : AV} {l : List Int}, IsV u v .u64 l → (∀ x ∈ l, 0 ≤ x ∧ x < 18446744073709551616) → l.length ≤ 100 → ∃ w u', rn (k + 9) 27 [v] u = some (w, u') ∧ IsV u' w .u8 (numB l.length ++ numsW l) ∧ Ext u u' := fun h1 h2 h3 => by
    obtain ⟨w, u', q1, q2, q3⟩ := rnums_run h1 h2 h3 (k + 7) (by omega) (by omega)
    exact ⟨w, u', q1, q2.is, q3⟩
  obtain ⟨w1, s1, q1, r1, x1⟩ := num (hc.ext ee).done hw.done hw.doneL
  have y1 := ee.trans x1
  have B1 := FLd.mk' (s := s1) (F := s.next + 1) (x := x) (c := c') (ro := false) ((x1.get _ hlt).trans gb)
  have A1 := FLd.mk' (s := s1) (F := s.next) (x := x) (c := c) (ro := false) ((x1.get _ (by omega)).trans ga)
  obtain ⟨w2, s2, q2, r2, x2⟩ := num (hc'.ext y1).done hw.done hw.doneL
  have y2 := y1.trans x2
  have x12 := x1.trans x2
  have A2 := FLd.mk' (s := s2) (F := s.next) (x := x) (c := c) (ro := false) ((x12.get _ (by omega)).trans ga)
  have B2 := FLd.mk' (s := s2) (F := s.next + 1) (x := x) (c := c') (ro := false) ((x12.get _ hlt).trans gb)
  obtain ⟨w3, s3, q3, r3, x3⟩ := num (hc.ext y2).held hw.held hw.heldL
  have y3 := y2.trans x3
  have x13 := x12.trans x3
  have B3 := FLd.mk' (s := s3) (F := s.next + 1) (x := x) (c := c') (ro := false) ((x13.get _ hlt).trans gb)
  obtain ⟨w4, s4, q4, r4, x4⟩ := num (hc'.ext y3).held hw.held hw.heldL
  have y4 := y3.trans x4
  have x14 := x13.trans x4
  have A4 := FLd.mk' (s := s4) (F := s.next) (x := x) (c := c) (ro := false) ((x14.get _ (by omega)).trans ga)
  have B4 := FLd.mk' (s := s4) (F := s.next + 1) (x := x) (c := c') (ro := false) ((x14.get _ hlt).trans gb)
  refine ⟨s4, ?_, y4⟩
  simp only [bnd, guard_tt, guard_ff, guard_tf, guard_ft, pick_t, pick_f, if_t, if_f, add_i, sub_i, lss_i, leq_i, gtr_i, geq_i, eql_i, neq_i, min_i, max_i, conv_i, len_sl, len_nil, not_b, cells_agg, new_s, fld_p, nil_p, Nat.zero_add, A.l11, B.l11, hs1, A.l12, B.l12, hs2, A.l13, q1, strV r1, B1.l13, B.l13, aSame_self, q2, strV (r1.ext x2), strV r2, eq_str_same]
  simp only [bnd, guard_tt, guard_ff, guard_tf, guard_ft, pick_t, pick_f, if_t, if_f, add_i, sub_i, lss_i, leq_i, gtr_i, geq_i, eql_i, neq_i, min_i, max_i, conv_i, len_sl, len_nil, not_b, cells_agg, new_s, fld_p, nil_p, Nat.zero_add, A2.l14, q3, strV r3, B3.l14, B2.l14, aSame_self, q4, strV (r3.ext x4), strV r4, eq_str_same, A4.l15, B4.l15, strV (hc.ext y4).data, strV (hc'.ext y4).data]

def wholeB (xs : List Int) : List Int := markB (numB ((xs.length : Int) + 4) ++ xs)
theorem wholeB_u8 {xs : List Int} (hu : ∀ x ∈ xs, 0 ≤ x ∧ x < 256) : ∀ x ∈ wholeB xs, 0 ≤ x ∧ x < 256 := markB_u8 fun x hx => by
  rcases List.mem_append.1 hx with h | h
  · exact numB_u8 _ x h
  · exact hu x h
theorem wholeB_len (xs : List Int) : (wholeB xs).length ≤ xs.length + 13 := by
  have hnl := numB_len ((xs.length : Int) + 4)
  unfold wholeB markB
  simp only [List.length_append, footB_len]
  omega
end Go.Proofs.Ytkfdgegmahbkiaa.Sim
namespace Go.Proofs.Ytkfdgegmahbkiaa.Sim
set_option linter.unusedSimpArgs false
set_option linter.unusedVariables false

def getF (x : FI) (j : Nat) : Int :=
  if j = 3 then x.idf else if j = 4 then x.ids else if j = 5 then x.seq else if j = 6 then x.at_ else if j = 7 then x.of_ else if j = 8 then x.size else if j = 9 then x.inst else x.round
def runW (r : Rn) : List Int := numB r.1 ++ (numB r.2.1 ++ numB r.2.2)
def runsW (l : List Rn) : List Int := (l.map runW).flatten
/-- What a field is written as. -/
def opB (x : FI) (o : WOp) : List Int :=
  match o with
  | .num j => numB (getF x j)
  | .small j => numB (getF x j)
  | .who j => numB (getF x j)
  | .data _ => rowB x.data
  | .runs j => if j = 11 then numB x.est.length ++ runsW x.est else numB x.aux.length ++ runsW x.aux
  | .nums j => if j = 13 then numB x.done.length ++ numsW x.done else numB x.held.length ++ numsW x.held
/-- One row behind bytes. -/
theorem rows1_run {s : Store} {bv lv : AV} {b r : List Int} (hb : IsV s bv .u8 b) (hv : IsVV s lv [r]) (hbl : b.length ≤ 80000) (hr : r.length ≤ 80000) (k : Nat) (hk : 200 ≤ k) (hk2 : k ≤ 90000) :
    ∃ v' s', rn (k + 4) 104 [bv, lv] s = some (v', s') ∧ OwnV s' v' .u8 (b ++ rowB r) s.next ∧ Ext s s' := by
  rw [F104.eq]
  unfold F104.f F104.p7 F104.p6
  obtain ⟨v1, s1, k1, k2, k3⟩ := clone_u8 hb (by omega) (k + 2)
  have k1' : rn (k + 3) 45 [bv] s = some (v1, s1) := k1
  rw [k1', bnd]
  unfold F104.p5
  simp only
  rw [lenVV (hv.ext k3)]
  obtain ⟨p, hh, p1, p2, p3⟩ := atVV hv (i := 0) (by simp)
  have hs : ∀ m, F104.l0 (k + 3) (m + 1) = fun x5 x10 x11 x12 s => F104.p4 (k + 3) (F104.l0 (k + 3) m) x5 x10 x11 x12 s := fun m => rfl
  have p3 : IsV s hh .u8 r := p3
  have hnl := numB_len (r.length : Int)
  obtain ⟨v2, s2, q1, q2, q3⟩ := put_run (n := (r.length : Int)) k2 k3.next (by omega) (by omega) (by omega) k (by omega) (by omega)
  have e1 := k3.lo' q3
  have p3' : IsV s2 hh .u8 r := p3.ext e1
  obtain ⟨v3, s3, j1, j2, j3, _⟩ := appV (bytes := 1) q2 (Nat.le_trans k3.next q3.next) p3' (by simp only [List.length_append]; omega) (by omega)
  have w0 : IntKind.i64.wrap (0 + 1) = 1 := by decide
  have p10 : ∀ f : AV → Rz, aIndexSl 1 lv (.int .i64 0) f = f p := fun f => p1 .i64 f
  rw [show k + 3 = (k + 1) + 1 + 1 from rfl, hs]
  simp only
  unfold F104.p4 F104.p3
  rw [lss_i, show decide ((0 : Int) < (([r] : List (List Int)).length : Int)) = true from rfl, if_t]
  unfold F104.p2 F104.p1
  have q1 : rn (k + 1 + 1 + 1) 55 [v1, .int .u64 r.length] s1 = some (v2, s2) := q1
  rw [p10, p2 k3, lenV (p3.ext k3), conv_i, w_u64 (by omega) (by omega), q1, bnd]
  simp only
  rw [j1, add_i, w0, hs]
  simp only
  unfold F104.p4 F104.p3 F104.p0
  rw [lss_i, show decide ((1 : Int) < (([r] : List (List Int)).length : Int)) = false from rfl, if_f]
  refine ⟨v3, s3, rfl, ?_, e1.lo' j3⟩
  rw [rowB, ← List.append_assoc]; exact j2

section
variable {sB s : Store} {W id off ep : Nat} {bv : AV} {b : List Int}
/-- The writer. -/
structure IsWr (sB : Store) (W : Nat) (b : List Int) (s : Store) : Prop where
  ext : Ext sB s
  le : sB.next ≤ W
  lt : W < s.next
  row : ∃ bv, s.get W = .cells [bv] false ∧ IsV s bv .u8 b
theorem put_one1 (h : IsWr sB W b s) (hb : b.length ≤ 70000) {n : Int} (h0 : 0 ≤ n) (h1 : n < 18446744073709551616) (k : Nat) (hk : 1100 ≤ k) (hk2 : k ≤ 90000) : ∃ bv v' s2, s.get W = .cells [bv] false ∧ (s.push (.cells [.int .u64 n] false)).get W = .cells [bv] false ∧ rn (k + 4) 31 [bv, .sl s.next 0 1 1 1] (s.push (.cells [.int .u64 n] false)) = some (v', s2) ∧ (∀ f : Store → Rz, aStore 1 (.ptr W 0 1) v' s2 f = f (s2.set W (.cells [v'] false))) ∧ IsWr sB W (b ++ numB n) (s2.set W (.cells [v'] false)) := by
  obtain ⟨bv, g, hv⟩ := h.row
  have e1 := Ext.push s (.cells [.int .u64 n] false)
  have hl : IsV (s.push (.cells [.int .u64 n] false)) (.sl s.next 0 1 1 1) .u64 [n] := .inr ⟨s.next, 0, [n], false, rfl, Nat.lt_succ_self _, by rw [get_push, if_pos rfl]; rfl, by simp, rfl⟩
  obtain ⟨v', s2, k1, k2, k3⟩ := puts_run (hv.ext e1) hl (by omega) (by simp) (fun x hx => by rw [List.mem_singleton.1 hx]; exact ⟨h0, h1⟩) k hk (by omega)
  have hn : numsB [n] = numB n := by simp [numsB]
  rw [hn] at k2
  have g1 := (e1.get W h.lt).trans g
  have g2 := (k3.get W (Nat.lt_of_lt_of_le h.lt e1.next)).trans g1
  have hne : ∀ i o m d f, v' = .sl i o m d f → i ≠ W := fun i o m d f q => by
    rcases k2 with ⟨q2, _⟩ | ⟨l, q2, q3, _⟩
    · rw [q2] at q; cases q
    · rw [q2] at q; cases q
      have := Nat.lt_of_lt_of_le h.lt e1.next
      omega
  have hs : ∀ f : Store → Rz, aStore 1 (.ptr W 0 1) v' s2 f = f (s2.set W (.cells [v'] false)) := fun f => st_cell (off := 0) (ep := 1) g2 rfl (by omega) (fun f => cellsW k2.is f) f
  refine ⟨bv, v', s2, g, g1, k1, hs, ⟨⟨Nat.le_trans h.ext.next (Nat.le_trans e1.next k3.next), fun l hl => ?_⟩, h.le, Nat.lt_of_lt_of_le h.lt (Nat.le_trans e1.next k3.next), v', by rw [get_set, if_pos rfl], k2.is.fr1 (Fr1.set W s2 _) hne⟩⟩
  have := h.le
  have := h.ext.next
  rw [get_set, if_neg (by omega), k3.get l (Nat.lt_of_lt_of_le (by omega) e1.next), e1.get l (by omega)]
  exact h.ext.get l hl
variable {cs : List AV} {ro : Bool}
theorem wr_num_at (h : IsWr sB W b s) (hb : b.length ≤ 70000) (hg : sB.get id = .cells cs ro) (hl : cs.length = ep) (hid : id < sB.next) {n : Int} (hn : cs[off]? = some (.int .u64 n)) (h0 : 0 ≤ n) (h1 : n < 18446744073709551616) (k : Nat) (hk : 1100 ≤ k) (hk2 : k ≤ 90000) : ∃ s', rn (k + 5) 101 [.ptr W 0 1, .ptr id off ep] s = some (.tuple [], s') ∧ IsWr sB W (b ++ numB n) s' := by
  rw [F101.eq]
  unfold F101.f F101.p0
  obtain ⟨bv, v', s2, g, g1, k1, k2, k3⟩ := put_one1 h hb h0 h1 k hk hk2
  have lw : ∀ f : AV → Rz, aLoad1 (.ptr W 0 1) s f = f bv := fun f => load_1 g rfl rfl
  have lw1 : ∀ f : AV → Rz, aLoad1 (.ptr W 0 1) (s.push (.cells [.int .u64 n] false)) f = f bv := fun f => load_1 g1 rfl rfl
  have ln : ∀ f : AV → Rz, aLoad1 (.ptr id off ep) s f = f (.int .u64 n) := fun f => load_1 ((h.ext.get id hid).trans hg) hl hn
  have hbd : ∀ f : List AV → Rz, aBuild [(0, 1, .int .u64 n)] [AV.int .u64 0] f = f [.int .u64 n] := fun f => rfl
  simp only [bnd, nil_p, fld_p, Nat.add_zero, lw, ln, hbd, lw1, aSame_self, k1, k2]
  exact ⟨_, rfl, k3⟩
theorem wr_small_at (h : IsWr sB W b s) (hb : b.length ≤ 70000) (hg : sB.get id = .cells cs ro) (hl : cs.length = ep) (hid : id < sB.next) {n : Int} (hn : cs[off]? = some (.int .u32 n)) (h0 : 0 ≤ n) (h1 : n < 4294967296) (k : Nat) (hk : 1100 ≤ k) (hk2 : k ≤ 90000) : ∃ s', rn (k + 5) 102 [.ptr W 0 1, .ptr id off ep] s = some (.tuple [], s') ∧ IsWr sB W (b ++ numB n) s' := by
  rw [F102.eq]
  unfold F102.f F102.p0
  obtain ⟨bv, v', s2, g, g1, k1, k2, k3⟩ := put_one1 h hb h0 (by omega) k hk hk2
  have lw : ∀ f : AV → Rz, aLoad1 (.ptr W 0 1) s f = f bv := fun f => load_1 g rfl rfl
  have lw1 : ∀ f : AV → Rz, aLoad1 (.ptr W 0 1) (s.push (.cells [.int .u64 n] false)) f = f bv := fun f => load_1 g1 rfl rfl
  have ln : ∀ f : AV → Rz, aLoad1 (.ptr id off ep) s f = f (.int .u32 n) := fun f => load_1 ((h.ext.get id hid).trans hg) hl hn
  have hbd : ∀ f : List AV → Rz, aBuild [(0, 1, .int .u64 n)] [AV.int .u64 0] f = f [.int .u64 n] := fun f => rfl
  have hw : IntKind.u64.wrap n = n := w_u64 h0 (by omega)
  simp only [bnd, nil_p, fld_p, Nat.add_zero, lw, ln, conv_i, hw, hbd, lw1, aSame_self, k1, k2]
  exact ⟨_, rfl, k3⟩
theorem wr_who_at (h : IsWr sB W b s) (hb : b.length ≤ 70000) (hg : sB.get id = .cells cs ro) (hl : cs.length = ep) (hid : id < sB.next) {n : Int} (hn : cs[off]? = some (.int .u8 n)) (h0 : 0 ≤ n) (h1 : n < 256) (k : Nat) (hk : 1100 ≤ k) (hk2 : k ≤ 90000) : ∃ s', rn (k + 5) 103 [.ptr W 0 1, .ptr id off ep] s = some (.tuple [], s') ∧ IsWr sB W (b ++ numB n) s' := by
  rw [F103.eq]
  unfold F103.f F103.p0
  obtain ⟨bv, v', s2, g, g1, k1, k2, k3⟩ := put_one1 h hb h0 (by omega) k hk hk2
  have lw : ∀ f : AV → Rz, aLoad1 (.ptr W 0 1) s f = f bv := fun f => load_1 g rfl rfl
  have lw1 : ∀ f : AV → Rz, aLoad1 (.ptr W 0 1) (s.push (.cells [.int .u64 n] false)) f = f bv := fun f => load_1 g1 rfl rfl
  have ln : ∀ f : AV → Rz, aLoad1 (.ptr id off ep) s f = f (.int .u8 n) := fun f => load_1 ((h.ext.get id hid).trans hg) hl hn
  have hbd : ∀ f : List AV → Rz, aBuild [(0, 1, .int .u64 n)] [AV.int .u64 0] f = f [.int .u64 n] := fun f => rfl
  have hw : IntKind.u64.wrap n = n := w_u64 h0 (by omega)
  simp only [bnd, nil_p, fld_p, Nat.add_zero, lw, ln, conv_i, hw, hbd, lw1, aSame_self, k1, k2]
  exact ⟨_, rfl, k3⟩
theorem wr_many (h : IsWr sB W b s) (hb : b.length ≤ 70000) {n : Int} (h0 : 0 ≤ n) (h1 : n < 1000000) (k : Nat) (hk : 1100 ≤ k) (hk2 : k ≤ 90000) : ∃ s', rn (k + 5) 100 [.ptr W 0 1, .int .i64 n] s = some (.int .i64 n, s') ∧ IsWr sB W (b ++ numB n) s' := by
  rw [F100.eq]
  unfold F100.f F100.p0
  obtain ⟨bv, v', s2, g, g1, k1, k2, k3⟩ := put_one1 h hb h0 (by omega) k hk hk2
  have lw : ∀ f : AV → Rz, aLoad1 (.ptr W 0 1) s f = f bv := fun f => load_1 g rfl rfl
  have hbd : ∀ f : List AV → Rz, aBuild [(0, 1, .int .u64 n)] [AV.int .u64 0] f = f [.int .u64 n] := fun f => rfl
  have hw : IntKind.u64.wrap n = n := w_u64 h0 (by omega)
  simp only [bnd, nil_p, fld_p, Nat.add_zero, lw, conv_i, hw, hbd, k1, k2]
  exact ⟨_, rfl, k3⟩
theorem wr_data_at (h : IsWr sB W b s) (hb : b.length ≤ 70000) (hg : sB.get id = .cells cs ro) (hl : cs.length = ep) (hid : id < sB.next) {v : AV} {r : List Int} (hn : cs[off]? = some v) (hv : IsV sB v .u8 r) (hr : r.length ≤ 70000) (k : Nat) (hk : 1100 ≤ k) (hk2 : k ≤ 90000) : ∃ s', rn (k + 5) 99 [.ptr W 0 1, .ptr id off ep] s = some (.tuple [], s') ∧ IsWr sB W (b ++ rowB r) s' := by
  rw [F99.eq]
  unfold F99.f F99.p0
  obtain ⟨bv, g, hbv⟩ := h.row
  have hvs := hv.ext h.ext
  have e1 := Ext.push s (.cells [v] false)
  obtain ⟨v', s2, k1, k2, k3⟩ := rows1_run (hbv.ext e1) (isvv_one hvs) (by omega) (by omega) k (by omega) hk2
  have g1 := (e1.get W h.lt).trans g
  have g2 := (k3.get W (Nat.lt_of_lt_of_le h.lt e1.next)).trans g1
  have hne : ∀ i o m d f, v' = .sl i o m d f → i ≠ W := fun i o m d f q => by
    rcases k2 with ⟨q2, _⟩ | ⟨l, q2, q3, _⟩
    · rw [q2] at q; cases q
    · rw [q2] at q; cases q
      have := Nat.lt_of_lt_of_le h.lt e1.next
      omega
  have lw : ∀ f : AV → Rz, aLoad1 (.ptr W 0 1) s f = f bv := fun f => load_1 g rfl rfl
  have lw1 : ∀ f : AV → Rz, aLoad1 (.ptr W 0 1) (s.push (.cells [v] false)) f = f bv := fun f => load_1 g1 rfl rfl
  have ln : ∀ f : AV → Rz, aLoad1 (.ptr id off ep) s f = f v := fun f => load_1 ((h.ext.get id hid).trans hg) hl hn
  have hbd : ∀ {α : Type} (f : List AV → Option α), aBuild [(0, 1, v)] [AV.nilsl] f = f [v] := fun f => build_v hv f
  have hs : ∀ f : Store → Rz, aStore 1 (.ptr W 0 1) v' s2 f = f (s2.set W (.cells [v'] false)) := fun f => st_cell (off := 0) (ep := 1) g2 rfl (by omega) (fun f => cellsW k2.is f) f
  simp only [bnd, nil_p, fld_p, Nat.add_zero, lw, ln, hbd, lw1, aSame_self, k1, hs]
  refine ⟨_, rfl, ⟨⟨Nat.le_trans h.ext.next (Nat.le_trans e1.next k3.next), fun l hl => ?_⟩, h.le, Nat.lt_of_lt_of_le h.lt (Nat.le_trans e1.next k3.next), v', by rw [get_set, if_pos rfl], k2.is.fr1 (Fr1.set W s2 _) hne⟩⟩
  have := h.le
  have := h.ext.next
  rw [get_set, if_neg (by omega), k3.get l (Nat.lt_of_lt_of_le (by omega) e1.next), e1.get l (by omega)]
  exact h.ext.get l hl

/-! ### lists are written -/
variable {F j : Nat} {ev : AV}
theorem wruns_loop (k : Nat) (hk : 1150 ≤ k) (hk2 : k ≤ 80000) (hgF : sB.get F = .cells cs false) (hcs : cs.length = 16) (hF : F < sB.next) (hj : cs[j]? = some ev) {l : List Rn} (hv : IsRuns sB ev l) (hw : ∀ r ∈ l, WfR r) (hl : l.length ≤ 100) : ∀ (n i : Nat) (s : Store) (b : List Int), IsWr sB W b s → b.length + (l.length - i) * 27 ≤ 60000 → i ≤ l.length → l.length - i < n →
    ∃ s', F48.l0 (k + 5) n (.iface 68 (.ptr W 0 1)) (.ptr F j 16) (.int .i64 l.length) (.int .i64 (i : Int)) s = some (.tuple [], s') ∧ IsWr sB W (b ++ runsW (l.drop i)) s'
  | 0, i, _, _, _, _, hi, hn => by omega
  | n + 1, i, s, b, h, hb, hi, hn => by
    have hs : F48.l0 (k + 5) (n + 1) = fun x0 x1 x16 x17 s => F48.p8 (k + 5) (F48.l0 (k + 5) n) x0 x1 x16 x17 s := rfl
    rw [hs]
    clear hs
    simp only
    unfold F48.p8 F48.p7
    rw [lss_i]
    by_cases q : i < l.length
    · rw [decide_eq_true (show (i : Int) < (l.length : Int) by omega), if_t]
      unfold F48.p6 F48.p5
      have ld : ∀ f : AV → Rz, aLoad1 (.ptr F j 16) s f = f ev := fun f => load_1 ((h.ext.get F hF).trans hgF) hcs hj
      rw [nil_p, ld, len_runs hv, geq_i, decide_eq_false (show ¬ (i : Int) ≥ (l.length : Int) by omega), if_f]
      unfold F48.p4
      rw [nil_p, ld]
      have hv0 := hv
      rcases hv with ⟨_, hv⟩ | ⟨id, ro, hev, hid, hg⟩
      · rw [hv] at q; simp at q
      rw [hev, idxL q]
      unfold F48.p3
      have hfl := flat_len l
      have hget := flat_get l i q
      have cell : ∀ t, t < 3 → ((l.map rcells).flatten)[0 + i * 3 + t]? = (rcells l[i])[t]? := fun t ht => by
        rw [← hget, List.getElem?_take, if_pos ht, List.getElem?_drop, Nat.zero_add]
      have hwr := hw _ (List.getElem_mem q)
      have nl1 := numB_len l[i].1
      have nl2 := numB_len l[i].2.1
      have nl3 := numB_len l[i].2.2
      simp only [bnd, nil_p, fld_p, nil_m meth_68.who, inv_wr_who]
      obtain ⟨s1, a1, b1⟩ := wr_who_at (off := 0 + i * 3 + 0) h (by omega) hg hfl hid (n := l[i].1) (by rw [cell 0 (by omega)]; rfl) hwr.1.1 hwr.1.2 k (by omega) (by omega)
      rw [a1]
      simp only [bnd]
      unfold F48.p2
      simp only [bnd, nil_p, fld_p, nil_m meth_68.num, inv_wr_num]
      obtain ⟨s2, a2, b2⟩ := wr_num_at (off := 0 + i * 3 + 1) b1 (by simp only [List.length_append]; omega) hg hfl hid (n := l[i].2.1) (by rw [cell 1 (by omega)]; rfl) hwr.2.1.1 hwr.2.1.2 k (by omega) (by omega)
      rw [a2]
      simp only [bnd]
      unfold F48.p1
      simp only [bnd, nil_p, fld_p, nil_m meth_68.num, inv_wr_num]
      obtain ⟨s3, a3, b3⟩ := wr_num_at (off := 0 + i * 3 + 2) b2 (by simp only [List.length_append]; omega) hg hfl hid (n := l[i].2.2) (by rw [cell 2 (by omega)]; rfl) hwr.2.2.1 hwr.2.2.2 k (by omega) (by omega)
      rw [a3]
      simp only [bnd]
      unfold F48.p0
      have hwi : IntKind.i64.wrap ((i : Int) + 1) = ((i + 1 : Nat) : Int) := by rw [w_i64 (by omega) (by omega)]; omega
      rw [add_i, hwi]
      obtain ⟨s', z1, z2⟩ := wruns_loop k hk hk2 hgF hcs hF hj hv0 hw hl n (i + 1) s3 (b ++ numB l[i].1 ++ numB l[i].2.1 ++ numB l[i].2.2) b3 (by simp only [List.length_append]; omega) (by omega) (by omega)
      refine ⟨s', z1, ?_⟩
      rw [List.drop_eq_getElem_cons q]
      show IsWr sB W (b ++ (runW l[i] ++ runsW (l.drop (i + 1)))) s'
      unfold runW
      simpa only [List.append_assoc] using z2
    · rw [decide_eq_false (show ¬ (i : Int) < (l.length : Int) by omega), if_f, List.drop_eq_nil_of_le (by omega)]
      exact ⟨s, rfl, by simpa [runsW] using h⟩
theorem wnums_loop (k : Nat) (hk : 1150 ≤ k) (hk2 : k ≤ 80000) (hgF : sB.get F = .cells cs false) (hcs : cs.length = 16) (hF : F < sB.next) (hj : cs[j]? = some ev) {l : List Int} (hv : IsV sB ev .u64 l) (hw : ∀ r ∈ l, 0 ≤ r ∧ r < 18446744073709551616) (hl : l.length ≤ 100) : ∀ (n i : Nat) (s : Store) (b : List Int), IsWr sB W b s → b.length + (l.length - i) * 9 ≤ 60000 → i ≤ l.length → l.length - i < n →
    ∃ s', F49.l0 (k + 5) n (.iface 68 (.ptr W 0 1)) (.ptr F j 16) (.int .i64 l.length) (.int .i64 (i : Int)) s = some (.tuple [], s') ∧ IsWr sB W (b ++ numsW (l.drop i)) s'
  | 0, i, _, _, _, _, hi, hn => by omega
  | n + 1, i, s, b, h, hb, hi, hn => by
    have hs : F49.l0 (k + 5) (n + 1) = fun x0 x1 x15 x16 s => F49.p5 (k + 5) (F49.l0 (k + 5) n) x0 x1 x15 x16 s := rfl
    rw [hs]
    clear hs
    simp only
    unfold F49.p5 F49.p4
    rw [lss_i]
    by_cases q : i < l.length
    · rw [decide_eq_true (show (i : Int) < (l.length : Int) by omega), if_t]
      unfold F49.p3 F49.p2
      have ld : ∀ f : AV → Rz, aLoad1 (.ptr F j 16) s f = f ev := fun f => load_1 ((h.ext.get F hF).trans hgF) hcs hj
      rw [nil_p, ld, lenV hv, geq_i, decide_eq_false (show ¬ (i : Int) ≥ (l.length : Int) by omega), if_f]
      unfold F49.p1
      have hv0 := hv
      rcases hv with ⟨_, hv⟩ | ⟨id, off, ys, ro, hev, hid, hg, h4, h5⟩
      · rw [hv] at q; simp at q
      have hix : ∀ {α : Type} (f : AV → Option α), aIndexSl 1 (.sl id off l.length 1 ys.length) (.int .i64 (i : Int)) f = f (.ptr id (off + i) ys.length) := fun f => by rw [idxV (by omega) (by omega), Int.toNat_natCast]
      have hcell : (ys.map (AV.int .u64))[off + i]? = some (.int .u64 l[i]) := by
        have : ((ys.drop off).take l.length)[i]? = l[i]? := by rw [h5]
        rw [List.getElem?_take, if_pos (by omega), List.getElem?_drop, List.getElem?_eq_getElem q] at this
        rw [List.getElem?_map, this]; rfl
      have hwr := hw _ (List.getElem_mem q)
      have nl1 := numB_len l[i]
      simp only [bnd, nil_p, ld, hev, hix, nil_m meth_68.num, inv_wr_num]
      obtain ⟨s1, a1, b1⟩ := wr_num_at (off := off + i) (ep := ys.length) h (by omega) hg (by simp) hid (n := l[i]) hcell hwr.1 hwr.2 k (by omega) (by omega)
      rw [a1]
      simp only [bnd]
      unfold F49.p0
      have hwi : IntKind.i64.wrap ((i : Int) + 1) = ((i + 1 : Nat) : Int) := by rw [w_i64 (by omega) (by omega)]; omega
      rw [add_i, hwi]
      obtain ⟨s', z1, z2⟩ := wnums_loop k hk hk2 hgF hcs hF hj hv0 hw hl n (i + 1) s1 (b ++ numB l[i]) b1 (by simp only [List.length_append]; omega) (by omega) (by omega)
      refine ⟨s', z1, ?_⟩
      rw [List.drop_eq_getElem_cons q]
      show IsWr sB W (b ++ (numB l[i] ++ numsW (l.drop (i + 1)))) s'
      rw [← List.append_assoc]; exact z2
    · rw [decide_eq_false (show ¬ (i : Int) < (l.length : Int) by omega), if_f, List.drop_eq_nil_of_le (by omega)]
      exact ⟨s, rfl, by simpa [numsW] using h⟩
end
end Go.Proofs.Ytkfdgegmahbkiaa.Sim
namespace Go.Proofs.Ytkfdgegmahbkiaa.Sim
set_option linter.unusedSimpArgs false
set_option linter.unusedVariables false

structure WI (sB : Store) (W : Nat) (b : List Int) (rem : List WOp) (s : Store) : Prop where
  wr : IsWr sB W b s
  good : ∀ o ∈ rem, goodOp o
  len : b.length + rem.length * 3100 ≤ 22000
section
variable {sB : Store} {W F : Nat} {x : FI} {c : AVs}
theorem runsW_len (l : List Rn) : (runsW l).length ≤ l.length * 27 := by
  induction l with
  | nil => simp [runsW]
  | cons r l ih =>
    have h1 := numB_len r.1
    have h2 := numB_len r.2.1
    have h3 := numB_len r.2.2
    show (runW r ++ runsW l).length ≤ _
    unfold runW
    simp only [List.length_append, List.length_cons]
    omega
theorem numsW_len (l : List Int) : (numsW l).length ≤ l.length * 9 := numsB_len l
theorem opB_len {o : WOp} (hw : WfF x) (hd : x.data.length ≤ 3000) : (opB x o).length ≤ 3100 := by
  have := hw.estL
  have := hw.auxL
  have := hw.doneL
  have := hw.heldL
  cases o with
  | num j => exact Nat.le_trans (numB_len _) (by omega)
  | small j => exact Nat.le_trans (numB_len _) (by omega)
  | who j => exact Nat.le_trans (numB_len _) (by omega)
  | data j =>
    have := numB_len (x.data.length : Int)
    unfold opB rowB
    simp only [List.length_append]
    omega
  | runs j =>
    have h1 := numB_len (x.est.length : Int)
    have h2 := numB_len (x.aux.length : Int)
    have h3 := runsW_len x.est
    have h4 := runsW_len x.aux
    unfold opB
    simp only
    split <;> simp only [List.length_append] <;> omega
  | nums j =>
    have h1 := numB_len (x.done.length : Int)
    have h2 := numB_len (x.held.length : Int)
    have h3 := numsW_len x.done
    have h4 := numsW_len x.held
    unfold opB
    simp only
    split <;> simp only [List.length_append] <;> omega
theorem wr_step (hgF : sB.get F = .cells (fcs x c) false) (hF : F < sB.next) (hc : IsFc sB c x) (hw : WfF x) (hd : x.data.length ≤ 3000) (op : WOp) (rem : List WOp) (b : List Int) (s : Store) (k : Nat) (hk : 1200 ≤ k) (hk2 : k ≤ 80000) (h : WI sB W b (op :: rem) s) : ∃ w s', callOp (.iface 68 (.ptr W 0 1)) F k op s = some (w, s') ∧ WI sB W (b ++ opB x op) rem s' := by
  obtain ⟨k, rfl⟩ : ∃ z, k = z + 6 := ⟨k - 6, by omega⟩
  have hg := h.good op List.mem_cons_self
  have hb : b.length ≤ 22000 := by have := h.len; omega
  have hop := opB_len (o := op) hw hd
  have nx : ∀ {s' : Store}, IsWr sB W (b ++ opB x op) s' → WI sB W (b ++ opB x op) rem s' := fun q => ⟨q, fun o ho => h.good o (List.mem_cons_of_mem _ ho), by
    have := h.len
    simp only [List.length_append, List.length_cons] at this ⊢
    omega⟩
  cases op with
  | num j =>
    unfold callOp
    simp only [inv_wr_num]
    have hn : (fcs x c)[j]? = some (.int .u64 (getF x j)) ∧ 0 ≤ getF x j ∧ getF x j < 18446744073709551616 := by
      rcases hg with rfl | rfl | rfl | rfl
      · exact ⟨rfl, hw.ids⟩
      · exact ⟨rfl, hw.seq⟩
      · exact ⟨rfl, hw.inst⟩
      · exact ⟨rfl, hw.round⟩
    obtain ⟨s', r1, r2⟩ := wr_num_at (off := j) h.wr (by omega) hgF (rfl : (fcs x c).length = 16) hF hn.1 hn.2.1 hn.2.2 (k + 1) (by omega) (by omega)
    have r1 : rn (k + 6) 101 [.ptr W 0 1, .ptr F j 16] s = some (.tuple [], s') := r1
    rw [r1, bnd]
    exact ⟨_, s', rfl, nx r2⟩
  | small j =>
    unfold callOp
    simp only [inv_wr_small]
    have hn : (fcs x c)[j]? = some (.int .u32 (getF x j)) ∧ 0 ≤ getF x j ∧ getF x j < 4294967296 := by
      rcases hg with rfl | rfl | rfl
      · exact ⟨rfl, hw.at_⟩
      · exact ⟨rfl, hw.of_⟩
      · exact ⟨rfl, hw.size⟩
    obtain ⟨s', r1, r2⟩ := wr_small_at (off := j) h.wr (by omega) hgF (rfl : (fcs x c).length = 16) hF hn.1 hn.2.1 hn.2.2 (k + 1) (by omega) (by omega)
    have r1 : rn (k + 6) 102 [.ptr W 0 1, .ptr F j 16] s = some (.tuple [], s') := r1
    rw [r1, bnd]
    exact ⟨_, s', rfl, nx r2⟩
  | who j =>
    unfold callOp
    simp only [inv_wr_who]
    have hg : j = 3 := hg
    subst hg
    obtain ⟨s', r1, r2⟩ := wr_who_at (off := 3) (n := x.idf) h.wr (by omega) hgF (rfl : (fcs x c).length = 16) hF rfl hw.idf.1 hw.idf.2 (k + 1) (by omega) (by omega)
    have r1 : rn (k + 6) 103 [.ptr W 0 1, .ptr F 3 16] s = some (.tuple [], s') := r1
    rw [r1, bnd]
    exact ⟨_, s', rfl, nx r2⟩
  | data j =>
    unfold callOp
    simp only [inv_wr_data]
    have hg : j = 15 := hg
    subst hg
    obtain ⟨s', r1, r2⟩ := wr_data_at (off := 15) (v := c.b) h.wr (by omega) hgF (rfl : (fcs x c).length = 16) hF rfl hc.data (by omega) (k + 1) (by omega) (by omega)
    have r1 : rn (k + 6) 99 [.ptr W 0 1, .ptr F 15 16] s = some (.tuple [], s') := r1
    rw [r1, bnd]
    exact ⟨_, s', rfl, nx r2⟩
  | runs j =>
    unfold callOp
    simp only
    rw [F48.eq]
    unfold F48.f F48.p10
    have go : ∀ (ev : AV) (l : List Rn), (fcs x c)[j]? = some ev → IsRuns sB ev l → (∀ r ∈ l, WfR r) → l.length ≤ 100 → opB x (.runs j) = numB l.length ++ runsW l → ∃ w s', ((some (.iface 68 (.ptr W 0 1), s)).bind fun q1 => (some (AV.ptr F j 16, q1.2)).bind fun q2 => (aNilCheck q2.1 fun v4 => some (v4, q2.2)).bind fun q3 => (aLoad1 q3.1 q3.2 fun v6 => some (v6, q3.2)).bind fun q5 => (aLen q5.1 fun v8 => some (v8, q5.2)).bind fun q7 => (some ((AV.meth "unison/wire.many" q1.1), q7.2)).bind fun q9 => (aNilCheck q9.1 fun v11 => some (v11, q9.2)).bind fun q10 => (some (q1.1, q10.2)).bind fun q12 => (aInvoke Try.prog (rn (k + 5)) q12.1 "unison/wire.many" [q7.1] q12.2 fun v14 s15 => some (v14, s15)).bind fun q13 => (some (q13.1, q13.2)).bind fun q16 => F48.p9 (k + 5) (.iface 68 (.ptr W 0 1)) (.ptr F j 16) q16.1 q16.2) = some (w, s') ∧ WI sB W (b ++ opB x (.runs j)) rem s' := by
      intro ev l hev hv hwl hl ho
      have ld : ∀ f : AV → Rz, aLoad1 (.ptr F j 16) s f = f ev := fun f => load_1 ((h.wr.ext.get F hF).trans hgF) rfl hev
      obtain ⟨s1, r1, r2⟩ := wr_many h.wr (by omega) (n := (l.length : Int)) (by omega) (by omega) k (by omega) (by omega)
      have nl := numB_len (l.length : Int)
      simp only [bnd, nil_p, ld, len_runs hv, nil_m meth_68.many, inv_wr_many, r1]
      unfold F48.p9
      obtain ⟨s', z1, z2⟩ := wruns_loop k (by omega) (by omega) hgF rfl hF hev hv hwl hl (k + 5) 0 s1 (b ++ numB l.length) r2 (by simp only [List.length_append]; omega) (by omega) (by omega)
      rw [Int.natCast_zero] at z1
      rw [List.drop_zero, List.append_assoc, ← ho] at z2
      exact ⟨_, s', z1, nx z2⟩
    rcases hg with rfl | rfl
    · exact go c.e x.est rfl hc.est hw.est hw.estL rfl
    · exact go c.a x.aux rfl hc.aux hw.aux hw.auxL rfl
  | nums j =>
    unfold callOp
    simp only
    rw [F49.eq]
    unfold F49.f F49.p7
    have go : ∀ (ev : AV) (l : List Int), (fcs x c)[j]? = some ev → IsV sB ev .u64 l → (∀ r ∈ l, 0 ≤ r ∧ r < 18446744073709551616) → l.length ≤ 100 → opB x (.nums j) = numB l.length ++ numsW l → ∃ w s', ((some (.iface 68 (.ptr W 0 1), s)).bind fun q1 => (some (AV.ptr F j 16, q1.2)).bind fun q2 => (aNilCheck q2.1 fun v4 => some (v4, q2.2)).bind fun q3 => (aLoad1 q3.1 q3.2 fun v6 => some (v6, q3.2)).bind fun q5 => (aLen q5.1 fun v8 => some (v8, q5.2)).bind fun q7 => (some ((AV.meth "unison/wire.many" q1.1), q7.2)).bind fun q9 => (aNilCheck q9.1 fun v11 => some (v11, q9.2)).bind fun q10 => (some (q1.1, q10.2)).bind fun q12 => (aInvoke Try.prog (rn (k + 5)) q12.1 "unison/wire.many" [q7.1] q12.2 fun v14 s15 => some (v14, s15)).bind fun q13 => (some (q13.1, q13.2)).bind fun q16 => F49.p6 (k + 5) (.iface 68 (.ptr W 0 1)) (.ptr F j 16) q16.1 q16.2) = some (w, s') ∧ WI sB W (b ++ opB x (.nums j)) rem s' := by
      intro ev l hev hv hwl hl ho
      have ld : ∀ f : AV → Rz, aLoad1 (.ptr F j 16) s f = f ev := fun f => load_1 ((h.wr.ext.get F hF).trans hgF) rfl hev
      obtain ⟨s1, r1, r2⟩ := wr_many h.wr (by omega) (n := (l.length : Int)) (by omega) (by omega) k (by omega) (by omega)
      have nl := numB_len (l.length : Int)
      simp only [bnd, nil_p, ld, lenV hv, nil_m meth_68.many, inv_wr_many, r1]
      unfold F49.p6
      obtain ⟨s', z1, z2⟩ := wnums_loop k (by omega) (by omega) hgF rfl hF hev hv hwl hl (k + 5) 0 s1 (b ++ numB l.length) r2 (by simp only [List.length_append]; omega) (by omega) (by omega)
      rw [Int.natCast_zero] at z1
      rw [List.drop_zero, List.append_assoc, ← ho] at z2
      exact ⟨_, s', z1, nx z2⟩
    rcases hg with rfl | rfl
    · exact go c.d x.done rfl hc.done hw.done hw.doneL rfl
    · exact go c.h x.held rfl hc.held hw.held hw.heldL rfl
end
theorem fold_app (x : FI) : ∀ (L : List WOp) (b : List Int), L.foldl (fun st op => st ++ opB x op) b = b ++ L.flatMap (opB x)
  | [], b => by simp
  | o :: L, b => by rw [List.foldl_cons, fold_app x L, List.flatMap_cons, List.append_assoc]
/-- What stands between a frame's length and its sum. -/
def bodyW (x : FI) : List Int := [1, x.kd, x.src, x.dst] ++ (wopsOf x.kd).flatMap (opB x)
theorem wops_len (kd : Int) : (wopsOf kd).length ≤ 7 := by
  unfold wopsOf
  repeat' split
  all_goals decide
theorem put_run6 {s : Store} {x : FI} {c : AVs} (hc : IsFc s c x) (hw : WfF x) (hd : x.data.length ≤ 3000) (k : Nat) (hk : 30000 ≤ k) (hk2 : k ≤ 70000) : ∃ v s', rn (k + 12) 13 [.agg (fcs x c)] s = some (.tuple [v, .int .i64 (if mayC x = true then 0 else 1)], s') ∧ (mayC x = true → IsV s' v .u8 (wholeB (bodyW x)) ∧ OwnV s' v .u8 (wholeB (bodyW x)) s.next) ∧ Ext s s' := by
  rw [F13.eq]
  unfold F13.f F13.p5
  rw [cells_agg, new_s, show (fcs x c).length = 16 from rfl]
  have hg : (s.push (.cells (fcs x c) false)).get s.next = .cells (fcs x c) false := by rw [get_push, if_pos rfl]
  have e1 := Ext.push s (.cells (fcs x c) false)
  have hlt : s.next < (s.push (.cells (fcs x c) false)).next := Nat.lt_succ_self _
  generalize s.push (.cells (fcs x c) false) = t at *
  unfold F13.p4
  rw [rld_all (n := 16) hg rfl]
  obtain ⟨t1, k1, e2⟩ := may_run6 (hc.ext e1) hw (k + 1) (by omega) (by omega)
  have k1 : rn (k + 11) 14 [.agg (fcs x c)] t = some (.bool (mayC x), t1) := k1
  rw [k1, bnd]
  simp only
  rw [not_b]
  have ee := e1.trans e2
  cases hm : mayC x with
  | false =>
    rw [Bool.not_false, if_t]
    exact ⟨_, t1, rfl, fun q => (nomatch q), ee⟩
  | true =>
  rw [Bool.not_true, if_f]
  have g1 := (e2.get _ hlt).trans hg
  have l1 := Nat.lt_of_lt_of_le hlt e2.next
  have L := FLd.mk' (s := t1) (F := s.next) (x := x) (c := c) (ro := false) g1
  unfold F13.p3
  have hb4 : ∀ (p q r : Int) (f : List AV → Rz), aBuild [(0, 1, .int .u8 1), (1, 1, .int .u8 p), (2, 1, .int .u8 q), (3, 1, .int .u8 r)] [AV.int .u8 0, AV.int .u8 0, AV.int .u8 0, AV.int .u8 0] f = f [.int .u8 1, .int .u8 p, .int .u8 q, .int .u8 r] := fun p q r f => rfl
  have hb1 : ∀ (n : Nat) (f : List AV → Rz), aBuild [(0, 1, .sl n 0 4 1 4)] [AV.nilsl] f = f [.sl n 0 4 1 4] := fun n f => rfl
  simp only [fld_p, Nat.zero_add, Nat.add_zero, L.l0, L.l1, L.l2, hb4, hb1, cells_agg, new_s, List.length_singleton]
  have e3 := Ext.push t1 (.cells [AV.int .u8 1, .int .u8 x.kd, .int .u8 x.src, .int .u8 x.dst] false)
  have v3 : IsV (t1.push (.cells [AV.int .u8 1, .int .u8 x.kd, .int .u8 x.src, .int .u8 x.dst] false)) (.sl t1.next 0 4 1 4) .u8 [1, x.kd, x.src, x.dst] := .inr ⟨t1.next, 0, [1, x.kd, x.src, x.dst], false, rfl, Nat.lt_succ_self _, by rw [get_push, if_pos rfl]; rfl, by simp, rfl⟩
  have g3 := (e3.get _ l1).trans g1
  have l3 := Nat.lt_of_lt_of_le l1 e3.next
  have hc3 := hc.ext (ee.trans e3)
  have ee3 := ee.trans e3
  generalize t1.push (.cells [AV.int .u8 1, .int .u8 x.kd, .int .u8 x.src, .int .u8 x.dst] false) = t3 at *
  have e4 := Ext.push t3 (.cells [.sl t1.next 0 4 1 4] false)
  have hW : IsWr t3 t3.next [1, x.kd, x.src, x.dst] (t3.push (.cells [.sl t1.next 0 4 1 4] false)) := ⟨e4, Nat.le_refl _, Nat.lt_succ_self _, _, by rw [get_push, if_pos rfl], v3.ext e4⟩
  generalize t3.push (.cells [.sl t1.next 0 4 1 4] false) = t4 at *
  unfold F13.p2
  have hk7 := wops_len x.kd
  obtain ⟨t5, k5, w5⟩ := visit_run (t := 68) (v := .ptr t3.next 0 1) (F := s.next) (kd := x.kd) (I := fun b rem st => WI t3 t3.next b rem st) (stepA := fun o b => b ++ opB x o) meth_68 (fun b rem st q => ⟨fcs x c, (q.wr.ext.get _ l3).trans g3, rfl, rfl⟩) (fun op rem b st kk h1 h2 q => wr_step g3 l3 hc3 hw hd op rem b st kk h1 h2 q) (k + 8) (by omega) (by omega) [1, x.kd, x.src, x.dst] t4 ⟨hW, (wopsOf_good _).1, by simp; omega⟩
  have k5 : rn (k + 11) 19 [.ptr s.next 0 16, .iface 68 (.ptr t3.next 0 1)] t4 = some (.tuple [], t5) := k5
  rw [k5, bnd]
  simp only
  unfold F13.p1 F13.p0
  have hfold : (wopsOf x.kd).foldl (fun st op => st ++ opB x op) [1, x.kd, x.src, x.dst] = bodyW x := fold_app x _ _
  have w5 : WI t3 t3.next ((wopsOf x.kd).foldl (fun st op => st ++ opB x op) [1, x.kd, x.src, x.dst]) [] t5 := w5
  rw [hfold] at w5
  have hlen := w5.len
  simp only [List.length_nil, Nat.zero_mul, Nat.add_zero] at hlen
  obtain ⟨bv, gW, vb⟩ := w5.wr.row
  have lb : ∀ f : AV → Rz, aLoad1 (.ptr t3.next 0 1) t5 f = f bv := fun f => load_1 gW rfl rfl
  have ha : IntKind.i64.wrap (((bodyW x).length : Int) + 4) = ((bodyW x).length : Int) + 4 := w_i64 (by omega) (by omega)
  have hv : IntKind.u64.wrap (((bodyW x).length : Int) + 4) = ((bodyW x).length : Int) + 4 := w_u64 (by omega) (by omega)
  have hbn : ∀ (n : Int) (f : List AV → Rz), aBuild [(0, 1, .int .u64 n)] [AV.int .u64 0] f = f [.int .u64 n] := fun n f => rfl
  have e6 := Ext.push t5 (.cells [.int .u64 (((bodyW x).length : Int) + 4)] false)
  have hl6 : IsV (t5.push (.cells [.int .u64 (((bodyW x).length : Int) + 4)] false)) (.sl t5.next 0 1 1 1) .u64 [((bodyW x).length : Int) + 4] := .inr ⟨t5.next, 0, [((bodyW x).length : Int) + 4], false, rfl, Nat.lt_succ_self _, by rw [get_push, if_pos rfl]; rfl, by simp, rfl⟩
  obtain ⟨v7, t7, k7, o7, e7⟩ := puts_run (b := []) (bv := .nilsl) (.inl ⟨rfl, rfl⟩) hl6 (by simp) (by simp) (fun y hy => by rw [List.mem_singleton.1 hy]; omega) (k + 7) (by omega) (by omega)
  have k7 : rn (k + 11) 31 [.nilsl, .sl t5.next 0 1 1 1] (t5.push (.cells [.int .u64 (((bodyW x).length : Int) + 4)] false)) = some (v7, t7) := k7
  have hnn : ([] : List Int) ++ numsB [((bodyW x).length : Int) + 4] = numB (((bodyW x).length : Int) + 4) := by simp [numsB]
  rw [hnn] at o7
  have gW6 := (e6.get _ w5.wr.lt).trans gW
  have gW7 := (e7.get _ (Nat.lt_of_lt_of_le w5.wr.lt e6.next)).trans gW6
  have lb6 : ∀ f : AV → Rz, aLoad1 (.ptr t3.next 0 1) (t5.push (.cells [.int .u64 (((bodyW x).length : Int) + 4)] false)) f = f bv := fun f => load_1 gW6 rfl rfl
  have lb7 : ∀ f : AV → Rz, aLoad1 (.ptr t3.next 0 1) t7 f = f bv := fun f => load_1 gW7 rfl rfl
  have vb7 := vb.ext (e6.trans e7)
  have hb2 : ∀ f : List AV → Rz, aBuild [(0, 1, v7), (1, 1, bv)] [AV.nilsl, AV.nilsl] f = f [v7, bv] := fun f => by
    rcases o7 with ⟨q, _⟩ | ⟨_, q, _⟩ <;> subst q <;> rcases vb with ⟨q, _⟩ | ⟨_, _, _, _, q, _⟩ <;> subst q <;> rfl
  have e8 := Ext.push t7 (.cells [v7, bv] false)
  have vv : IsVV (t7.push (.cells [v7, bv] false)) (.sl t7.next 0 2 1 2) [numB (((bodyW x).length : Int) + 4), bodyW x] :=
    ⟨[v7, bv], .inr ⟨t7.next, false, rfl, Nat.lt_succ_self _, by rw [get_push, if_pos rfl]; rfl⟩, rfl, fun i a b h1 h2 => by
      match i with
      | 0 => cases h1; cases h2; exact o7.is.ext e8
      | 1 => cases h1; cases h2; exact vb7.ext e8
      | i + 2 => simp at h1⟩
  have hnl := numB_len (((bodyW x).length : Int) + 4)
  have hbu : ∀ y ∈ bodyW x, 0 ≤ y ∧ y < 256 := by
    have hrow : ∀ r : Int, ∀ y ∈ numB r, 0 ≤ y ∧ y < 256 := fun r => numB_u8 r
    have hruns : ∀ l : List Rn, ∀ y ∈ runsW l, 0 ≤ y ∧ y < 256 := fun l y hy => by
      obtain ⟨z, hz, hy⟩ := List.mem_flatten.1 hy
      obtain ⟨r, _, rfl⟩ := List.mem_map.1 hz
      unfold runW at hy
      rcases List.mem_append.1 hy with h | h
      · exact hrow _ y h
      · rcases List.mem_append.1 h with h | h <;> exact hrow _ y h
    have hnums : ∀ l : List Int, ∀ y ∈ numsW l, 0 ≤ y ∧ y < 256 := numsB_u8
    intro y hy
    rcases List.mem_append.1 hy with h | h
    · simp only [List.mem_cons, List.not_mem_nil, or_false] at h
      have q1 := hw.kd
      have q2 := hw.src
      have q3 := hw.dst
      omega
    · obtain ⟨o, _, ho⟩ := List.mem_flatMap.1 h
      cases o with
      | num j => exact hrow _ y ho
      | small j => exact hrow _ y ho
      | who j => exact hrow _ y ho
      | data j =>
        rcases List.mem_append.1 ho with h | h
        · exact hrow _ y h
        · exact hw.data y h
      | runs j =>
        unfold opB at ho
        simp only at ho
        split at ho <;> (rcases List.mem_append.1 ho with h | h; exact hrow _ y h; exact hruns _ y h)
      | nums j =>
        unfold opB at ho
        simp only at ho
        split at ho <;> (rcases List.mem_append.1 ho with h | h; exact hrow _ y h; exact hnums _ y h)
  obtain ⟨v9, t9, k9, o9, e9⟩ := mark_run vv (fun r hr => by
    simp only [List.mem_cons, List.not_mem_nil, or_false] at hr
    rcases hr with rfl | rfl
    · exact numB_u8 _
    · exact hbu) (k + 8) (by omega) (fun r hr => by
    simp only [List.mem_cons, List.not_mem_nil, or_false] at hr
    rcases hr with rfl | rfl <;> omega) (by omega) (by simp) (by simp only [List.flatten_cons, List.flatten_nil, List.append_nil, List.length_append]; omega)
  have k9 : rn (k + 11) 30 [.sl t7.next 0 2 1 2] (t7.push (.cells [v7, bv] false)) = some (v9, t9) := k9
  have hfl : ([numB (((bodyW x).length : Int) + 4), bodyW x] : List (List Int)).flatten = numB (((bodyW x).length : Int) + 4) ++ bodyW x := by simp
  rw [hfl] at o9
  refine ⟨v9, t9, ?_, fun _ => ⟨o9.is, o9.mono ?_⟩, ?_⟩
  · simp only [bnd, nil_p, fld_p, Nat.add_zero, lb, lenV vb, add_i, ha, conv_i, hv, hbn, k7, lb7, lb6, aSame_self, hb2, k9, if_true]
  · have := ee3.next
    have := w5.wr.ext.next
    have := e6.next
    have := e7.next
    have := e8.next
    omega
  · exact (((ee3.trans w5.wr.ext).trans e6).trans (e7.trans e8)).trans e9
end Go.Proofs.Ytkfdgegmahbkiaa.Sim
namespace Go.Proofs.Ytkfdgegmahbkiaa.Sim
set_option linter.unusedSimpArgs false
set_option linter.unusedVariables false

end Go.Proofs.Ytkfdgegmahbkiaa.Sim
namespace Go.Proofs.Ytkfdgegmahbkiaa.Sim
set_option linter.unusedSimpArgs false
set_option linter.unusedVariables false

def bitsOf (b : List Int) : List Bool := b.flatMap fun x => bitsN 8 (BitVec.ofInt 32 x)
theorem crc_bits : ∀ (b : List Int) (r : BitVec 32), (∀ x ∈ b, 0 ≤ x ∧ x < 256) → crcB r b = (bitsOf b).foldl stb r
  | [], _, _ => rfl
  | x :: b, r, hu => by
    have hx := hu x List.mem_cons_self
    show crcB (stB r x) b = _
    rw [crc_bits b _ fun y hy => hu y (List.mem_cons_of_mem _ hy), ← stB_bits r hx.1 hx.2]
    unfold bitsOf
    rw [List.flatMap_cons, List.foldl_append]
theorem stb_xor (r r' : BitVec 32) (b b' : Bool) : stb r b ^^^ stb r' b' = stb (r ^^^ r') (b ^^ b') := by
  unfold stb
  have a1 : ∀ p q s t : BitVec 32, (p ^^^ s) ^^^ (q ^^^ t) = (p ^^^ q) ^^^ (s ^^^ t) := fun p q s t => by
    rw [BitVec.xor_assoc, BitVec.xor_assoc, ← BitVec.xor_assoc s q t, BitVec.xor_comm s q, BitVec.xor_assoc q s t]
  rw [← st_xor, a1]
  congr 2
  cases b <;> cases b' <;> decide
theorem fold_xor : ∀ (l l' : List Bool) (r r' : BitVec 32), l.length = l'.length → l.foldl stb r ^^^ l'.foldl stb r' = (List.zipWith (fun a b => a ^^ b) l l').foldl stb (r ^^^ r')
  | [], [], _, _, _ => rfl
  | b :: l, b' :: l', r, r', h => by
    rw [List.zipWith_cons_cons, List.foldl_cons, List.foldl_cons, List.foldl_cons, fold_xor l l' _ _ (by simpa using h), stb_xor]
theorem bitsN_get : ∀ (n : Nat) (w : BitVec 32) (i : Nat), (bitsN n w)[i]? = if i < n then some (w.getLsbD i) else none
  | 0, _, i => by simp [bitsN]
  | n + 1, w, 0 => by simp [bitsN]
  | n + 1, w, i + 1 => by
    show (bitsN n (w >>> 1))[i]? = _
    rw [bitsN_get n, BitVec.getLsbD_ushiftRight, Nat.add_comm 1 i]
    by_cases h : i < n <;> simp [h]
theorem bitsOf_get : ∀ (b : List Int) (j : Nat), (bitsOf b)[j]? = (b[j / 8]?).map fun x => (BitVec.ofInt 32 x).getLsbD (j % 8)
  | [], j => by simp [bitsOf]
  | x :: b, j => by
    have hb : bitsOf (x :: b) = bitsN 8 (BitVec.ofInt 32 x) ++ bitsOf b := by unfold bitsOf; rw [List.flatMap_cons]
    rw [hb]
    by_cases h : j < 8
    · rw [List.getElem?_append_left (by rw [bitsN_len]; exact h), bitsN_get, if_pos h, show j / 8 = 0 by omega, show j % 8 = j by omega]
      rfl
    · rw [List.getElem?_append_right (by rw [bitsN_len]; omega), bitsN_len, bitsOf_get b (j - 8), show j / 8 = (j - 8) / 8 + 1 by omega, show (j - 8) % 8 = j % 8 by omega]
      rfl
theorem bitsOf_len (b : List Int) : (bitsOf b).length = 8 * b.length := by
  induction b with
  | nil => rfl
  | cons x b ih =>
    have hb : bitsOf (x :: b) = bitsN 8 (BitVec.ofInt 32 x) ++ bitsOf b := by unfold bitsOf; rw [List.flatMap_cons]
    rw [hb, List.length_append, bitsN_len, ih, List.length_cons]
    omega
theorem foot_bits (v : BitVec 32) : bitsOf (footB v) = bitsN 32 v := by
  apply List.ext_getElem?
  intro j
  rw [bitsOf_get, bitsN_get]
  by_cases h : j < 32
  · rw [if_pos h]
    have hv : ∀ (q t : Nat), q < 32 → t < 8 → (BitVec.ofInt 32 ((v.toNat / 2 ^ q % 256 : Nat) : Int)).getLsbD t = v.getLsbD (q + t) := fun q t hq ht => by
      rw [BitVec.ofInt_natCast, BitVec.getLsbD_ofNat, show (256 : Nat) = 2 ^ 8 from rfl, Nat.testBit_mod_two_pow, Nat.testBit_div_two_pow]
      simp only [show t < 32 by omega, ht, decide_true, Bool.true_and]
      rw [Nat.add_comm t q]
      rfl
    have hq : j / 8 = 0 ∨ j / 8 = 1 ∨ j / 8 = 2 ∨ j / 8 = 3 := by omega
    rcases hq with q | q | q | q
    · rw [q, show j = 0 + j % 8 by omega]
      have := hv 0 (j % 8) (by omega) (by omega)
      rw [show v.toNat / 2 ^ 0 = v.toNat by simp] at this
      show some ((BitVec.ofInt 32 ((v.toNat % 256 : Nat) : Int)).getLsbD ((0 + j % 8) % 8)) = _
      rw [show (0 + j % 8) % 8 = j % 8 by omega, this]
    · rw [q]
      have := hv 8 (j % 8) (by omega) (by omega)
      show some ((BitVec.ofInt 32 ((v.toNat / 256 % 256 : Nat) : Int)).getLsbD (j % 8)) = _
      rw [show (256 : Nat) = 2 ^ 8 from rfl] at this ⊢
      rw [this, show 8 + j % 8 = j by omega]
    · rw [q]
      have := hv 16 (j % 8) (by omega) (by omega)
      show some ((BitVec.ofInt 32 ((v.toNat / 65536 % 256 : Nat) : Int)).getLsbD (j % 8)) = _
      rw [show (65536 : Nat) = 2 ^ 16 from rfl, this, show 16 + j % 8 = j by omega]
    · rw [q]
      have := hv 24 (j % 8) (by omega) (by omega)
      show some ((BitVec.ofInt 32 ((v.toNat / 16777216 % 256 : Nat) : Int)).getLsbD (j % 8)) = _
      rw [show (16777216 : Nat) = 2 ^ 24 from rfl, this, show 24 + j % 8 = j by omega]
  · rw [if_neg h, List.getElem?_eq_none (by rw [footB_len]; omega)]
    rfl
theorem shr_32 (v : BitVec 32) : v >>> 32 = 0#32 := by
  apply BitVec.eq_of_getLsbD_eq
  intro i hi
  rw [BitVec.getLsbD_ushiftRight, BitVec.getLsbD_of_ge v _ (by omega), BitVec.getLsbD_zero]
theorem word_bits (r v : BitVec 32) : (bitsN 32 v).foldl stb r = stq 32 (r ^^^ v) := by
  rw [stq_bits, shr_32, BitVec.xor_zero]
/-- The register behind bytes that bear their own sum. -/
theorem fits_crc {x : List Int} (hu : ∀ y ∈ x, 0 ≤ y ∧ y < 256) : crcB (~~~ 0#32) (markB x) = stq 32 (BitVec.allOnes 32) := by
  unfold markB
  rw [crcB_app, crc_bits (footB (sumB x)) _ (footB_u8 _), foot_bits, word_bits]
  unfold sumB
  congr 1
  apply BitVec.eq_of_getLsbD_eq
  intro i hi
  rw [BitVec.getLsbD_xor, BitVec.getLsbD_not, BitVec.getLsbD_allOnes, decide_eq_true hi, Bool.true_and]
  cases (crcB (~~~ 0#32) x).getLsbD i <;> rfl
theorem fold_false : ∀ (m : Nat) (r : BitVec 32), (List.replicate m false).foldl stb r = stq m r
  | 0, _ => rfl
  | m + 1, r => by
    rw [List.replicate_succ, List.foldl_cons, fold_false m]
    unfold stb
    simp only [Bool.false_eq_true, if_false, BitVec.xor_zero]
    rfl
/-- A burst. -/
def burst (at_ : Nat) (w : BitVec 32) (m : Nat) : List Bool := List.replicate at_ false ++ (bitsN 32 w ++ List.replicate m false)
theorem burst_fold (a : Nat) (w : BitVec 32) (m : Nat) : (burst a w m).foldl stb 0#32 = stq m (stq 32 w) := by
  unfold burst
  rw [List.foldl_append, List.foldl_append, fold_false m, fold_false a, stq_zero, word_bits, BitVec.zero_xor]
theorem burst_get (a : Nat) (w : BitVec 32) (m j : Nat) (h : j < a + 32 + m) : (burst a w m)[j]? = some (decide (a ≤ j ∧ j < a + 32) && w.getLsbD (j - a)) := by
  unfold burst
  by_cases h1 : j < a
  · rw [List.getElem?_append_left (by simpa using h1)]
    rw [List.getElem?_replicate, if_pos h1, decide_eq_false (by omega), Bool.false_and]
  · rw [List.getElem?_append_right (by simp; omega), List.length_replicate]
    by_cases h2 : j < a + 32
    · rw [List.getElem?_append_left (by rw [bitsN_len]; omega), bitsN_get, if_pos (by omega), decide_eq_true ⟨by omega, h2⟩, Bool.true_and]
    · rw [List.getElem?_append_right (by rw [bitsN_len]; omega), bitsN_len, decide_eq_false (by omega), Bool.false_and, List.getElem?_replicate, if_pos (by omega)]
theorem burst_seen {b b' : List Int} (hu : ∀ x ∈ b, 0 ≤ x ∧ x < 256) (hu' : ∀ x ∈ b', 0 ≤ x ∧ x < 256) (hl : b'.length = b.length) {a : Nat} {w : BitVec 32} (hw : w ≠ 0#32) (ha : a + 32 ≤ 8 * b.length)
    (hb : ∀ j, (bitsOf b')[j]? = ((bitsOf b)[j]?).map fun v => v ^^ (decide (a ≤ j ∧ j < a + 32) && w.getLsbD (j - a))) : crcB (~~~ 0#32) b ≠ crcB (~~~ 0#32) b' := by
  intro he
  have hx := fold_xor (bitsOf b) (bitsOf b') (~~~ 0#32) (~~~ 0#32) (by rw [bitsOf_len, bitsOf_len, hl])
  rw [← crc_bits b _ hu, ← crc_bits b' _ hu', he, BitVec.xor_self, BitVec.xor_self] at hx
  have hz : List.zipWith (fun a b => a ^^ b) (bitsOf b) (bitsOf b') = burst a w (8 * b.length - (a + 32)) := by
    apply List.ext_getElem?
    intro j
    by_cases hj : j < 8 * b.length
    · rw [burst_get _ _ _ _ (by omega), List.getElem?_zipWith, hb j, List.getElem?_eq_getElem (show j < (bitsOf b).length by rw [bitsOf_len]; exact hj)]
      simp only [Option.map_some]
      congr 1
      cases (bitsOf b)[j]'(by rw [bitsOf_len]; exact hj) <;> simp
    · rw [List.getElem?_eq_none (by rw [List.length_zipWith, bitsOf_len]; omega), List.getElem?_eq_none (by unfold burst; simp only [List.length_append, List.length_replicate, bitsN_len]; omega)]
  rw [hz, burst_fold] at hx
  exact hw (stq_inj _ (stq_inj _ hx.symm))

/-! ### bits are turned -/
def x8 (x : Int) (t : Nat) : Int := ((BitVec.ofInt 8 x ^^^ BitVec.ofInt 8 (2 ^ t)).toNat : Int)
theorem x8_u8 (x : Int) (t : Nat) : 0 ≤ x8 x t ∧ x8 x t < 256 := by
  unfold x8
  have := (BitVec.ofInt 8 x ^^^ BitVec.ofInt 8 (2 ^ t)).isLt
  omega
theorem x8_bits : ∀ x : Fin 256, ∀ t u : Fin 8, (BitVec.ofInt 32 (x8 (x.val : Int) t.val)).getLsbD u.val = ((BitVec.ofInt 32 (x.val : Int)).getLsbD u.val ^^ decide (u.val = t.val)) := by decide +kernel
def flipI (b : List Int) (k : Nat) : List Int := b.set (k / 8) (x8 (b.getD (k / 8) 0) (k % 8))
theorem flip_u8 {b : List Int} (hu : ∀ x ∈ b, 0 ≤ x ∧ x < 256) (k : Nat) : ∀ x ∈ flipI b k, 0 ≤ x ∧ x < 256 := fun x hx => by
  rcases List.mem_or_eq_of_mem_set hx with h | h
  · exact hu x h
  · rw [h]; exact x8_u8 _ _
theorem flip_get {b : List Int} (hu : ∀ x ∈ b, 0 ≤ x ∧ x < 256) {k : Nat} (hk : k < 8 * b.length) (j : Nat) : (bitsOf (flipI b k))[j]? = ((bitsOf b)[j]?).map fun v => v ^^ decide (j = k) := by
  rw [bitsOf_get, bitsOf_get]
  unfold flipI
  by_cases h : j / 8 = k / 8
  · have hq : k / 8 < b.length := by omega
    have hx := hu _ (List.getElem_mem hq)
    rw [h, List.getElem?_set_self hq, List.getElem?_eq_getElem hq]
    simp only [Option.map_some]
    have hg : b.getD (k / 8) 0 = b[k / 8] := by simp [hq]
    rw [hg]
    have := x8_bits ⟨(b[k / 8]).toNat, by omega⟩ ⟨k % 8, by omega⟩ ⟨j % 8, by omega⟩
    simp only at this
    rw [show (((b[k / 8]).toNat : Nat) : Int) = b[k / 8] by omega] at this
    rw [this]
    congr 2
    apply decide_eq_decide.2
    omega
  · rw [List.getElem?_set_ne (fun q => h q.symm)]
    cases b[j / 8]? with
    | none => rfl
    | some x =>
      simp only [Option.map_some]
      rw [decide_eq_false (show ¬ j = k from fun q => h (by rw [q])), Bool.xor_false]
def flips (b : List Int) (a : Nat) (w : BitVec 32) : Nat → List Int
  | 0 => b
  | i + 1 => if w.getLsbD i = true then flipI (flips b a w i) (a + i) else flips b a w i
theorem flips_len (b : List Int) (a : Nat) (w : BitVec 32) : ∀ i, (flips b a w i).length = b.length
  | 0 => rfl
  | i + 1 => by
    unfold flips
    split
    · unfold flipI; rw [List.length_set, flips_len b a w i]
    · exact flips_len b a w i
theorem flips_u8 {b : List Int} (hu : ∀ x ∈ b, 0 ≤ x ∧ x < 256) (a : Nat) (w : BitVec 32) : ∀ i, ∀ x ∈ flips b a w i, 0 ≤ x ∧ x < 256
  | 0 => hu
  | i + 1 => by
    unfold flips
    split
    · exact flip_u8 (flips_u8 hu a w i) _
    · exact flips_u8 hu a w i
theorem flips_get {b : List Int} (hu : ∀ x ∈ b, 0 ≤ x ∧ x < 256) {a : Nat} {w : BitVec 32} (ha : a + 32 ≤ 8 * b.length) : ∀ (i : Nat), i ≤ 32 → ∀ j, (bitsOf (flips b a w i))[j]? = ((bitsOf b)[j]?).map fun v => v ^^ (decide (a ≤ j ∧ j < a + i) && w.getLsbD (j - a))
  | 0, _, j => by
    have : decide (a ≤ j ∧ j < a + 0) = false := decide_eq_false (by omega)
    rw [this]
    show (bitsOf b)[j]? = _
    cases (bitsOf b)[j]? <;> simp
  | i + 1, hi, j => by
    have ih := flips_get hu (w := w) ha i (by omega) j
    unfold flips
    by_cases h : w.getLsbD i = true
    · rw [if_pos h, flip_get (flips_u8 hu a w i) (by rw [flips_len]; omega), ih, Option.map_map]
      congr 1
      funext v
      show (v ^^ (decide (a ≤ j ∧ j < a + i) && w.getLsbD (j - a)) ^^ decide (j = a + i)) = _
      by_cases hj : j = a + i
      · subst hj
        rw [decide_eq_true rfl, decide_eq_false (by omega), decide_eq_true (by omega), show a + i - a = i by omega, h]
        cases v <;> rfl
      · rw [decide_eq_false hj]
        have : decide (a ≤ j ∧ j < a + i) = decide (a ≤ j ∧ j < a + (i + 1)) := decide_eq_decide.2 (by omega)
        rw [this, Bool.xor_false]
    · rw [if_neg h, ih]
      congr 1
      funext v
      by_cases hj : j = a + i
      · subst hj
        have h' : w.getLsbD i = false := by simpa using h
        rw [show a + i - a = i by omega, h', Bool.and_false, Bool.and_false]
      · have : decide (a ≤ j ∧ j < a + i) = decide (a ≤ j ∧ j < a + (i + 1)) := decide_eq_decide.2 (by omega)
        rw [this]
theorem turned_law {x : List Int} (hu : ∀ y ∈ x, 0 ≤ y ∧ y < 256) {a : Nat} {w : BitVec 32} (hw : w ≠ 0#32) (ha : a + 32 ≤ 8 * (markB x).length) : getI (flips (markB x) a w 32) = (FI.zero, 5) := by
  have hu2 := markB_u8 hu
  have hl := flips_len (markB x) a w 32
  have hu3 := flips_u8 hu2 a w 32
  have hl4 : 4 ≤ (markB x).length := by unfold markB; rw [List.length_append, footB_len]; omega
  have hb := burst_seen hu2 hu3 hl hw ha (flips_get hu2 ha 32 (by omega))
  have hf : fitsI (flips (markB x) a w 32) = ([], 5) := by
    unfold fitsI
    rw [if_neg (by omega), if_neg]
    intro q
    apply hb
    have h4 : ¬ (flips (markB x) a w 32).length < 4 := by omega
    rw [fits_crc hu, ← (take_foot h4).2 q, fits_crc fun y hy => hu3 y (List.mem_of_mem_take hy)]
  unfold getI bodyI
  rw [hf, if_pos (by decide), if_pos (by decide)]
theorem whole_11 {x : FI} (h : mayC x = true) : 11 ≤ (wholeB (bodyW x)).length := by
  have hk : 1 ≤ x.kd ∧ x.kd ≤ 10 := by
    unfold mayC at h
    rw [Bool.and_eq_true] at h
    have := h.1
    simp at this
    omega
  have hb : 5 ≤ (bodyW x).length := by
    unfold bodyW
    have n1 : ∀ n : Int, 1 ≤ (numB n).length := fun n => by simp [numB]
    have hop : 1 ≤ ((wopsOf x.kd).flatMap (opB x)).length := by
      have : x.kd = 1 ∨ x.kd = 2 ∨ x.kd = 3 ∨ x.kd = 4 ∨ x.kd = 5 ∨ x.kd = 6 ∨ x.kd = 7 ∨ x.kd = 8 ∨ x.kd = 9 ∨ x.kd = 10 := by omega
      rcases this with q | q | q | q | q | q | q | q | q | q <;> rw [q]
      · show 1 ≤ (numB x.seq ++ _).length; have := n1 x.seq; simp only [List.length_append]; omega
      · show 1 ≤ (numB x.seq ++ _).length; have := n1 x.seq; simp only [List.length_append]; omega
      · show 1 ≤ (numB x.idf ++ _).length; have := n1 x.idf; simp only [List.length_append]; omega
      · show 1 ≤ (numB x.idf ++ _).length; have := n1 x.idf; simp only [List.length_append]; omega
      · show 1 ≤ (numB x.seq ++ _).length; have := n1 x.seq; simp only [List.length_append]; omega
      · show 1 ≤ (numB x.inst ++ _).length; have := n1 x.inst; simp only [List.length_append]; omega
      · show 1 ≤ (numB x.inst ++ _).length; have := n1 x.inst; simp only [List.length_append]; omega
      · show 1 ≤ (numB x.inst ++ _).length; have := n1 x.inst; simp only [List.length_append]; omega
      · show 1 ≤ (numB x.inst ++ _).length; have := n1 x.inst; simp only [List.length_append]; omega
      · show 1 ≤ (numB x.seq ++ _).length; have := n1 x.seq; simp only [List.length_append]; omega
    simp only [List.length_append, List.length_cons, List.length_nil]
    omega
  have h2 : 2 ≤ (numB (((bodyW x).length : Int) + 4)).length := by
    unfold numB
    rw [List.length_cons, leI_succ, if_neg (by omega), List.length_cons]
    omega
  unfold wholeB markB
  simp only [List.length_append, footB_len]
  omega
end Go.Proofs.Ytkfdgegmahbkiaa.Sim
