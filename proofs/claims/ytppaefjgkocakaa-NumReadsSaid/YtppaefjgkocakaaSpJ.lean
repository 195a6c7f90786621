/- Seat 01: the law NumReads, its run. No condition. -/
import Derived.Test.YtppaefjgkocakaaSpI
namespace Go.Proofs.Ytppaefjgkocakaa.Sim
set_option linter.unusedSimpArgs false
set_option linter.unusedVariables false

/-- What is asked: a row or a number, how long, how great. -/
abbrev Ask := Bool × Int × Int
def acells (a : Ask) : List AV := [.bool a.1, .int .i64 a.2.1, .int .u64 a.2.2]
theorem ac_len (a : Ask) : (acells a).length = 3 := rfl
theorem put_asks (o : Option (List Ask)) (s : Store) (hw : (shSlice (shPair shBool (shPair (shInt .i64) (shInt .u64)))).wf o) : ∃ v xs, ((shSlice (shPair shBool (shPair (shInt .i64) (shInt .u64)))).put o s).1 = [v] ∧ IsL acells 3 ((shSlice (shPair shBool (shPair (shInt .i64) (shInt .u64)))).put o s).2 v xs ∧ (∀ a ∈ xs, a.2.1 < 9223372036854775808) ∧ Ext s ((shSlice (shPair shBool (shPair (shInt .i64) (shInt .u64)))).put o s).2 := by
  cases o with
  | none => exact ⟨.nilsl, [], rfl, .inl ⟨rfl, rfl⟩, fun x hx => by simp at hx, Ext.refl _⟩
  | some l =>
    have hp : ∀ l : List Ask, (shPair shBool (shPair (shInt .i64) (shInt .u64))).putL l s = ((l.map acells).flatten, s) := fun l => by
      induction l with
      | nil => rfl
      | cons x l ih =>
        show (acells x ++ ((shPair shBool (shPair (shInt .i64) (shInt .u64))).putL l s).1, ((shPair shBool (shPair (shInt .i64) (shInt .u64))).putL l s).2) = _
        rw [ih]
        rfl
    obtain ⟨h1, h2⟩ := hw l rfl
    have hput : (shSlice (shPair shBool (shPair (shInt .i64) (shInt .u64)))).put (some l) s = ([.sl s.next 0 l.length 3 (l.length * 3)], s.push (.cells (l.map acells).flatten true)) := by
      show ([AV.sl ((shPair shBool (shPair (shInt .i64) (shInt .u64))).putL l s).2.next 0 l.length 3 (l.length * 3)], ((shPair shBool (shPair (shInt .i64) (shInt .u64))).putL l s).2.push (.cells ((shPair shBool (shPair (shInt .i64) (shInt .u64))).putL l s).1 true)) = _
      rw [hp]
    rw [hput]
    exact ⟨_, l, rfl, .inr ⟨s.next, true, rfl, Nat.lt_succ_self _, by rw [get_push, if_pos rfl]⟩, fun x hx => (i64_of (h2 x hx).2.1).2, Ext.push _ _⟩

theorem IsV.back {s0 s : Store} {v : AV} {k : IntKind} {xs : List Int} (h : IsV s v k xs) (e : Ext s0 s) (hlt : ∀ i b c d f, v = .sl i b c d f → i < s0.next) : IsV s0 v k xs := by
  rcases h with h | ⟨l, off, ys, ro, h1, h2, h3, h4⟩
  · exact .inl h
  · have := hlt _ _ _ _ _ h1
    exact .inr ⟨l, off, ys, ro, h1, this, by rw [← e.get l this]; exact h3, h4⟩

/-- The copy is written over. -/
theorem over_loop (k : Nat) {x0 x1 x6 : AV} {oid N : Nat} : ∀ (n i : Nat) (s : Store) (ys : List Int), ys.length = N → s.get oid = .cells (ys.map (.int .u8)) false → N ≤ 1000 → i ≤ N → N - i < n →
    ∃ s', unisonlaw01_NumReads.l1 k n x0 x1 (.sl oid 0 N 1 N) x6 (.int .i64 i) s = unisonlaw01_NumReads.p14 k x0 x1 x6 s' ∧ Fr1 oid s s' ∧ s'.next = s.next
  | 0, i, _, _, _, _, _, hi, hn => by omega
  | n + 1, i, s, ys, hl, hg, hN, hi, hn => by
    have hst : unisonlaw01_NumReads.l1 k (n + 1) = fun x0 x1 x5 x6 x7 s => unisonlaw01_NumReads.p17 k (unisonlaw01_NumReads.l1 k n) x0 x1 x5 x6 x7 s := rfl
    rw [hst]
    clear hst
    simp only
    unfold unisonlaw01_NumReads.p17
    rw [len_sl, lss_i]
    by_cases h : i < N
    · rw [decide_eq_true (by omega), if_t]
      unfold unisonlaw01_NumReads.p16 unisonlaw01_NumReads.p15
      have hw1 : IntKind.i64.wrap ((i : Int) + 1) = ((i + 1 : Nat) : Int) := by rw [w_i64 (by omega) (by omega)]; omega
      have hst2 : ∀ {α : Type} (f : Store → Option α), aStore 1 (.ptr oid i N) (.int .u8 99) s f = f (s.set oid (.cells ((ys.set i 99).map (.int .u8)) false)) := by
        intro α f
        have := storeV (i := i) (n := 99) hg (by omega) f
        rw [hl] at this; exact this
      rw [idxV (by omega) (by omega), Nat.zero_add, Int.toNat_natCast, hst2, add_i, hw1]
      obtain ⟨s', k1, k2, k3⟩ := over_loop k (x0 := x0) (x1 := x1) (x6 := x6) (oid := oid) (N := N) n (i + 1) (s.set oid (.cells ((ys.set i 99).map (.int .u8)) false)) (ys.set i 99) (by simp [hl]) (by rw [get_set, if_pos rfl]) hN (by omega) (by omega)
      exact ⟨s', k1, (Fr1.set oid s _).trans k2, k3⟩
    · rw [decide_eq_false (by omega), if_f]
      exact ⟨s, rfl, Fr1.refl _ _, rfl⟩

section
variable {s0 : Store} {x1 : AV} {id m : Nat}

/-- The two readers are held against one another. -/
theorem reads_check (k : Nat) {R0 : AV → AV → AV → AV → Store → Option (AV × Store)} {s : Store} {b : List Int} {e : Int} {Q : Nat → Prop} {mv : AV} (hr : IsRd s id b e Q) (hm : s.get m = .cells [mv, .int .i64 e] false) (hv : IsV s mv .u8 b) {i : Nat} (hi : i < 1000) :
    ∃ s', unisonlaw01_NumReads.p3 (k + 2) R0 x1 (.ptr id 0 2) (.ptr m 0 2) (.int .i64 i) s = R0 x1 (.ptr id 0 2) (.ptr m 0 2) (.int .i64 ((i + 1 : Nat) : Int)) s' ∧ Ext s s' := by
  unfold unisonlaw01_NumReads.p3 unisonlaw01_NumReads.p2 unisonlaw01_NumReads.p1
  have hw1 : IntKind.i64.wrap ((i : Int) + 1) = ((i + 1 : Nat) : Int) := by rw [w_i64 (by omega) (by omega)]; omega
  have h11 : rn (k + 2) 11 [.ptr id 0 2] s = some (.int .i64 e, s) := err_run hr (k + 1)
  have h10 : rn (k + 2) 10 [.ptr id 0 2] s = some (.int .i64 b.length, s) := left_run hr (k + 1)
  have h13 : rn (k + 2) 13 [.ptr id 0 2] s = some (.int .i64 (endR b e), s) := end_run hr k
  obtain ⟨s', h23, e1⟩ := rr_end (e := e) hv (k + 1)
  have h23' : rn (k + 2) 23 [.agg [mv, .int .i64 e]] s = some (.int .i64 (endR b e), s') := h23
  have n1 : (e != e) = false := by simp
  have n2 : (((b.length : Nat) : Int) != ((b.length : Nat) : Int)) = false := by simp
  have n3 : (endR b e != endR b e) = false := by simp
  simp only [bnd, guard_tt, guard_ff, guard_tf, guard_ft, pick_t, pick_f, if_t, if_f, add_i, sub_i, lss_i, leq_i, gtr_i, geq_i, eql_i, neq_i, min_i, max_i, conv_i, len_sl, len_nil, not_b, cells_agg, new_s, fld_p, nil_p, h11, ld_f1 hm, aSame_self, n1, h10, ld_f0 hm, lenV hv, n2, h13, ldN hm, h23', n3, hw1]
  exact ⟨s', rfl, e1⟩

theorem fld3 {s : Store} {q : Nat} {a : Ask} (h : s.get q = .cells (acells a) false) : (∀ {α : Type} (f : AV → Option α), aLoad1 (.ptr q (0 + 0) 3) s f = f (.bool a.1)) ∧ (∀ {α : Type} (f : AV → Option α), aLoad1 (.ptr q (0 + 1) 3) s f = f (.int .i64 a.2.1)) ∧ (∀ {α : Type} (f : AV → Option α), aLoad1 (.ptr q (0 + 2) 3) s f = f (.int .u64 a.2.2)) :=
  ⟨fun f => load_1 h rfl rfl, fun f => load_1 h rfl rfl, fun f => load_1 h rfl rfl⟩

theorem rdNum_u8 {b : List Int} {e most : Int} (hu : ∀ x ∈ b, 0 ≤ x ∧ x < 256) : ∀ x ∈ (rdNum b e most).2.1, 0 ≤ x ∧ x < 256 := by
  unfold rdNum
  split
  · exact hu
  · split
    · exact hu
    · intro x hx
      unfold numR at hx
      split at hx
      · simp at hx
      · rename_i k r
        split at hx
        · simp at hx
        · split at hx
          · simp at hx
          · split at hx
            · simp at hx
            · split at hx
              · simp at hx
              · exact hu x (List.mem_cons_of_mem _ (List.mem_of_mem_drop hx))
theorem rdNum_len {b : List Int} {e most : Int} : (rdNum b e most).2.1.length ≤ b.length := by
  unfold rdNum
  split
  · exact Nat.le_refl _
  · split
    · exact Nat.le_refl _
    · exact numR_len b most
theorem numR_left_u8 {b : List Int} {most : Int} (hu : ∀ x ∈ b, 0 ≤ x ∧ x < 256) : ∀ x ∈ (numR b most).2.1, 0 ≤ x ∧ x < 256 := by
  intro x hx
  unfold numR at hx
  split at hx
  · simp at hx
  · rename_i k r
    split at hx
    · simp at hx
    · split at hx
      · simp at hx
      · split at hx
        · simp at hx
        · split at hx
          · simp at hx
          · exact hu x (List.mem_cons_of_mem _ (List.mem_of_mem_drop hx))
theorem rdRow_u8 {b : List Int} {e most : Int} (hu : ∀ x ∈ b, 0 ≤ x ∧ x < 256) : ∀ x ∈ (rdRow b e most).2.1, 0 ≤ x ∧ x < 256 := by
  unfold rdRow
  split
  · exact hu
  · split
    · exact hu
    · split
      · exact hu
      · split
        · exact hu
        · exact fun x hx => numR_left_u8 hu x (List.mem_of_mem_drop hx)
theorem rdRow_len {b : List Int} {e most : Int} : (rdRow b e most).2.1.length ≤ b.length := by
  unfold rdRow
  have := numR_len b 18446744073709551615
  split
  · exact Nat.le_refl _
  · split
    · exact Nat.le_refl _
    · split
      · exact Nat.le_refl _
      · split
        · exact Nat.le_refl _
        · simp; omega

theorem reads_loop (k : Nat) (hk : 60 ≤ k) (hk2 : k ≤ 80000) {asks : List Ask} (h1 : IsL acells 3 s0 x1 asks) (hal : asks.length ≤ 60) (hat : ∀ a ∈ asks, a.2.1 < 9223372036854775808) (hid : s0.next ≤ id) (hm0 : s0.next ≤ m) (hidm : id < m) : ∀ (n i : Nat) (s : Store) (b : List Int) (e : Int) (mv : AV), Ext s0 s → m < s.next → IsRd s id b e (fun i => s0.next ≤ i ∧ i < m) → s.get m = .cells [mv, .int .i64 e] false → IsV s0 mv .u8 b → (∀ x ∈ b, 0 ≤ x ∧ x < 256) → b.length ≤ 600 → i ≤ asks.length → asks.length - i < n →
    ∃ s', unisonlaw01_NumReads.l0 (k + 4) n x1 (.ptr id 0 2) (.ptr m 0 2) (.int .i64 i) s = some (.bool true, s')
  | 0, i, _, _, _, _, _, _, _, _, _, _, _, hi, hn => by omega
  | n + 1, i, s, b, e, mv, he, hms, hr, hg, hv, hu, hb, hi, hn => by
    have hst : unisonlaw01_NumReads.l0 (k + 4) (n + 1) = fun x1 x6 x8 x9 s => unisonlaw01_NumReads.p12 (k + 4) (unisonlaw01_NumReads.l0 (k + 4) n) x1 x6 x8 x9 s := rfl
    rw [hst]
    clear hst
    simp only
    unfold unisonlaw01_NumReads.p12
    rw [lenL (h1.ext he), lss_i]
    by_cases h : i < asks.length
    · rw [decide_eq_true (by omega), if_t]
      unfold unisonlaw01_NumReads.p11 unisonlaw01_NumReads.p10 unisonlaw01_NumReads.p9
      obtain ⟨p, p1, p2⟩ := elemL ac_len (h1.ext he) h
      have hmost := hat _ (List.getElem_mem h)
      obtain ⟨q, hq⟩ : ∃ q, q = s.next := ⟨_, rfl⟩
      have e1 : Ext s ((s.push (.cells [AV.bool false, AV.int .i64 0, AV.int .u64 0] false)).set q (.cells (acells asks[i]) false)) := ⟨by simp only [next_set, next_push]; omega, fun l hl => by rw [get_set, if_neg (by omega), get_push, if_neg (by omega)]⟩
      have gq : ((s.push (.cells [AV.bool false, AV.int .i64 0, AV.int .u64 0] false)).set q (.cells (acells asks[i]) false)).get q = .cells (acells asks[i]) false := by rw [get_set, if_pos rfl]
      have nq : ((s.push (.cells [AV.bool false, AV.int .i64 0, AV.int .u64 0] false)).set q (.cells (acells asks[i]) false)).next = q + 1 := by rw [hq]; rfl
      have st3 : ∀ {α : Type} (f : Store → Option α), aStore 3 (.ptr q 0 3) (.agg (acells asks[i])) (s.push (.cells [AV.bool false, AV.int .i64 0, AV.int .u64 0] false)) f = f ((s.push (.cells [AV.bool false, AV.int .i64 0, AV.int .u64 0] false)).set q (.cells (acells asks[i]) false)) := by
        intro α f
        have g0 : (s.push (.cells [AV.bool false, AV.int .i64 0, AV.int .u64 0] false)).get q = .cells [AV.bool false, AV.int .i64 0, AV.int .u64 0] false := by rw [get_push, if_pos hq]
        simp [aStore, aCells, aOwn, g0, acells, putAll]
      rw [p1, p2, new_s, show ([AV.bool false, AV.int .i64 0, AV.int .u64 0] : List AV).length = 3 from rfl, ← hq, st3]
      generalize (s.push (.cells [AV.bool false, AV.int .i64 0, AV.int .u64 0] false)).set q (.cells (acells asks[i]) false) = s1 at *
      obtain ⟨a0, a1, a2⟩ := fld3 gq
      have he1 := he.trans e1
      have hr1 := hr.ext e1
      have hg1 := (e1.get m hms).trans hg
      rw [fld_p, a0]
      generalize hask : asks[i] = ask at *
      obtain ⟨isRow, most, top⟩ := ask
      simp only at *
      have vlt := hv.lt
      cases isRow with
      | true =>
        rw [if_t]
        unfold unisonlaw01_NumReads.p7 unisonlaw01_NumReads.p6 unisonlaw01_NumReads.p5
        obtain ⟨wv, lv, s2, k2, w2, l2, l2', e2, w2'⟩ := rr_row (e := e) (hv.ext he1) hu (by omega) hmost (k + 1) (by omega) (by omega)
        have k2' : rn (k + 4) 20 [.agg [mv, .int .i64 e], .int .i64 most] s1 = _ := k2
        rw [ldN hg1, fld_p, a1, k2', bnd]
        have ex : ∀ (x y : AV) {α : Type} (f : AV → Option α), aExtract 0 (.tuple [x, y]) f = f x ∧ aExtract 1 (.tuple [x, y]) f = f y := fun x y α f => ⟨rfl, rfl⟩
        simp only [(ex _ _ _).1, (ex _ _ _).2, new_s, List.length_cons, List.length_nil, Nat.zero_add, Nat.reduceAdd]
        have hg2 := (e2.get m (by omega)).trans hg1
        have gq2 := (e2.get q (by omega)).trans gq
        obtain ⟨d, hd⟩ : ∃ d, d = s2.next := ⟨_, rfl⟩
        have hn2 := e2.next
        have e3 : Ext s2 ((s2.push (.cells [.nilsl, .int .i64 0] false)).set d (.cells [lv, .int .i64 (rdRow b e most).2.2] false)) := ⟨by simp only [next_set, next_push]; omega, fun l hl => by rw [get_set, if_neg (by omega), get_push, if_neg (by omega)]⟩
        have gd0 : (s2.push (.cells [.nilsl, .int .i64 0] false)).get d = .cells [.nilsl, .int .i64 0] false := by rw [get_push, if_pos hd]
        have gd : ((s2.push (.cells [.nilsl, .int .i64 0] false)).set d (.cells [lv, .int .i64 (rdRow b e most).2.2] false)).get d = .cells [lv, .int .i64 (rdRow b e most).2.2] false := by rw [get_set, if_pos rfl]
        have n3 : ((s2.push (.cells [.nilsl, .int .i64 0] false)).set d (.cells [lv, .int .i64 (rdRow b e most).2.2] false)).next = d + 1 := by rw [hd]; rfl
        rw [← hd, stN _ _ gd0 rfl]
        generalize (s2.push (.cells [.nilsl, .int .i64 0] false)).set d (.cells [lv, .int .i64 (rdRow b e most).2.2] false) = s3 at *
        have hg3 := (e3.get m (by omega)).trans hg2
        have gq3 := (e3.get q (by omega)).trans gq2
        rw [ldN gd, stN _ _ hg3 rfl]
        -- behind the reference's turn
        have f4 := Fr1.set m s3 (.cells [lv, .int .i64 (rdRow b e most).2.2] false)
        have g4 : (s3.set m (.cells [lv, .int .i64 (rdRow b e most).2.2] false)).get m = .cells [lv, .int .i64 (rdRow b e most).2.2] false := by rw [get_set, if_pos rfl]
        have gq4 : (s3.set m (.cells [lv, .int .i64 (rdRow b e most).2.2] false)).get q = .cells (acells (true, most, top)) false := by rw [get_set, if_neg (by omega)]; exact gq3
        have n4 : (s3.set m (.cells [lv, .int .i64 (rdRow b e most).2.2] false)).next = d + 1 := n3
        have e04 : Ext s0 (s3.set m (.cells [lv, .int .i64 (rdRow b e most).2.2] false)) := f4.ext ((he1.trans e2).trans e3) hm0
        have hr4 : IsRd (s3.set m (.cells [lv, .int .i64 (rdRow b e most).2.2] false)) id b e (fun i => s0.next ≤ i ∧ i < m) := by
          obtain ⟨bv, y1, y2, y3, y4, y5⟩ := (hr1.ext e2).ext e3
          exact ⟨bv, by rw [get_set, if_neg (by omega)]; exact y1, y2, y3, y4.fr1 f4 fun i x c z f q => by have := (y5 i x c z f q).2; omega, y5⟩
        have woff : ∀ i x c z f, wv = .sl i x c z f → i ≠ m ∧ i ≠ id := fun i x c z f q => by
          rcases w2' i x c z f q with ⟨_, _, _, _, q'⟩ | q'
          · have := vlt _ _ _ _ _ q'; omega
          · omega
        have w4 : IsV (s3.set m (.cells [lv, .int .i64 (rdRow b e most).2.2] false)) wv .u8 (rdRow b e most).1 := by
          exact IsV.fr1 (w2.ext e3) f4 fun i x c z f q => (woff i x c z f q).1
        generalize s3.set m (.cells [lv, .int .i64 (rdRow b e most).2.2] false) = s4 at *
        obtain ⟨b0, b1, b2⟩ := fld3 gq4
        obtain ⟨v5, s5, k5, v5', r5, f5⟩ := row_run hr4 hu (by omega) most hmost (k + 2) (by omega)
        have k5' : rn (k + 4) 21 [.ptr id 0 2, .int .i64 most] s4 = some (v5, s5) := k5
        have e05 := f5.ext e04 hid
        have w5 := w4.fr1 f5 fun i x c z f q => (woff i x c z f q).2
        have g5 : s5.get m = .cells [lv, .int .i64 (rdRow b e most).2.2] false := (f5.get m (by omega) (by omega)).trans g4
        have llt : ∀ i x c z f, lv = .sl i x c z f → i < s0.next := fun i x c z f q => by obtain ⟨_, _, _, _, q'⟩ := l2' i x c z f q; exact vlt _ _ _ _ _ q'
        have l0 : IsV s0 lv .u8 (rdRow b e most).2.1 := l2.back (he1.trans e2) llt
        obtain ⟨s6, k6, e6⟩ := reads_check (k + 2) (R0 := unisonlaw01_NumReads.l0 (k + 4) n) (x1 := x1) r5 g5 (l0.ext e05) (i := i) (by omega)
        simp only [bnd, guard_tt, guard_ff, guard_tf, guard_ft, pick_t, pick_f, if_t, if_f, add_i, sub_i, lss_i, leq_i, gtr_i, geq_i, eql_i, neq_i, min_i, max_i, conv_i, len_sl, len_nil, not_b, cells_agg, new_s, fld_p, nil_p, b1, k5', strV v5', strV w5, strV w4, aSame_self, ne_str_same]
        unfold unisonlaw01_NumReads.p4
        rw [if_f]
        have k6' : unisonlaw01_NumReads.p3 (k + 4) (unisonlaw01_NumReads.l0 (k + 4) n) x1 (.ptr id 0 2) (.ptr m 0 2) (.int .i64 i) s5 = _ := k6
        rw [k6']
        have hbl := rdRow_len (b := b) (e := e) (most := most)
        exact reads_loop k hk hk2 h1 hal hat hid hm0 hidm n (i + 1) s6 _ _ lv (e05.trans e6) (by have := f5.next; have := e6.next; omega) (r5.ext e6) ((e6.get m (by have := f5.next; omega)).trans g5) l0 (rdRow_u8 hu) (by omega) (by omega) (by omega)
      | false =>
        rw [if_f]
        unfold unisonlaw01_NumReads.p8
        obtain ⟨lv, s2, k2, l2, l2', e2⟩ := rr_num (e := e) (most := top) (hv.ext he1) hu (by omega) (k + 2) (by omega) (by omega)
        have k2' : rn (k + 4) 22 [.agg [mv, .int .i64 e], .int .u64 top] s1 = _ := k2
        rw [ldN hg1, fld_p, a2, k2', bnd]
        have ex : ∀ (x y : AV) {α : Type} (f : AV → Option α), aExtract 0 (.tuple [x, y]) f = f x ∧ aExtract 1 (.tuple [x, y]) f = f y := fun x y α f => ⟨rfl, rfl⟩
        simp only [(ex _ _ _).1, (ex _ _ _).2, new_s, List.length_cons, List.length_nil, Nat.zero_add, Nat.reduceAdd]
        have hg2 := (e2.get m (by omega)).trans hg1
        have gq2 := (e2.get q (by omega)).trans gq
        obtain ⟨d, hd⟩ : ∃ d, d = s2.next := ⟨_, rfl⟩
        have hn2 := e2.next
        have e3 : Ext s2 ((s2.push (.cells [.nilsl, .int .i64 0] false)).set d (.cells [lv, .int .i64 (rdNum b e top).2.2] false)) := ⟨by simp only [next_set, next_push]; omega, fun l hl => by rw [get_set, if_neg (by omega), get_push, if_neg (by omega)]⟩
        have gd0 : (s2.push (.cells [.nilsl, .int .i64 0] false)).get d = .cells [.nilsl, .int .i64 0] false := by rw [get_push, if_pos hd]
        have gd : ((s2.push (.cells [.nilsl, .int .i64 0] false)).set d (.cells [lv, .int .i64 (rdNum b e top).2.2] false)).get d = .cells [lv, .int .i64 (rdNum b e top).2.2] false := by rw [get_set, if_pos rfl]
        have n3 : ((s2.push (.cells [.nilsl, .int .i64 0] false)).set d (.cells [lv, .int .i64 (rdNum b e top).2.2] false)).next = d + 1 := by rw [hd]; rfl
        rw [← hd, stN _ _ gd0 rfl]
        generalize (s2.push (.cells [.nilsl, .int .i64 0] false)).set d (.cells [lv, .int .i64 (rdNum b e top).2.2] false) = s3 at *
        have hg3 := (e3.get m (by omega)).trans hg2
        have gq3 := (e3.get q (by omega)).trans gq2
        rw [ldN gd, stN _ _ hg3 rfl]
        -- behind the reference's turn
        have f4 := Fr1.set m s3 (.cells [lv, .int .i64 (rdNum b e top).2.2] false)
        have g4 : (s3.set m (.cells [lv, .int .i64 (rdNum b e top).2.2] false)).get m = .cells [lv, .int .i64 (rdNum b e top).2.2] false := by rw [get_set, if_pos rfl]
        have gq4 : (s3.set m (.cells [lv, .int .i64 (rdNum b e top).2.2] false)).get q = .cells (acells (false, most, top)) false := by rw [get_set, if_neg (by omega)]; exact gq3
        have n4 : (s3.set m (.cells [lv, .int .i64 (rdNum b e top).2.2] false)).next = d + 1 := n3
        have e04 : Ext s0 (s3.set m (.cells [lv, .int .i64 (rdNum b e top).2.2] false)) := f4.ext ((he1.trans e2).trans e3) hm0
        have hr4 : IsRd (s3.set m (.cells [lv, .int .i64 (rdNum b e top).2.2] false)) id b e (fun i => s0.next ≤ i ∧ i < m) := by
          obtain ⟨bv, y1, y2, y3, y4, y5⟩ := (hr1.ext e2).ext e3
          exact ⟨bv, by rw [get_set, if_neg (by omega)]; exact y1, y2, y3, y4.fr1 f4 fun i x c z f q => by have := (y5 i x c z f q).2; omega, y5⟩
        generalize s3.set m (.cells [lv, .int .i64 (rdNum b e top).2.2] false) = s4 at *
        obtain ⟨b0, b1, b2⟩ := fld3 gq4
        obtain ⟨s5, k5, r5, f5⟩ := num_run hr4 hu (by omega) top (k + 2) (by omega)
        have k5' : rn (k + 4) 12 [.ptr id 0 2, .int .u64 top] s4 = some (.int .u64 (rdNum b e top).1, s5) := k5
        have e05 := f5.ext e04 hid
        have g5 : s5.get m = .cells [lv, .int .i64 (rdNum b e top).2.2] false := (f5.get m (by omega) (by omega)).trans g4
        have llt : ∀ i x c z f, lv = .sl i x c z f → i < s0.next := fun i x c z f q => by obtain ⟨_, _, _, _, q'⟩ := l2' i x c z f q; exact vlt _ _ _ _ _ q'
        have l0 : IsV s0 lv .u8 (rdNum b e top).2.1 := l2.back he1 llt
        have hne : ((rdNum b e top).1 != (rdNum b e top).1) = false := by simp
        obtain ⟨s6, k6, e6⟩ := reads_check (k + 2) (R0 := unisonlaw01_NumReads.l0 (k + 4) n) (x1 := x1) r5 g5 (l0.ext e05) (i := i) (by omega)
        rw [fld_p, b2, k5', bnd, neq_i, hne, if_f]
        have k6' : unisonlaw01_NumReads.p3 (k + 4) (unisonlaw01_NumReads.l0 (k + 4) n) x1 (.ptr id 0 2) (.ptr m 0 2) (.int .i64 i) s5 = _ := k6
        simp only
        rw [k6']
        have hbl := rdNum_len (b := b) (e := e) (most := top)
        exact reads_loop k hk hk2 h1 hal hat hid hm0 hidm n (i + 1) s6 _ _ lv (e05.trans e6) (by have := f5.next; have := e6.next; omega) (r5.ext e6) ((e6.get m (by have := f5.next; omega)).trans g5) l0 (rdNum_u8 hu) (by omega) (by omega) (by omega)
    · rw [decide_eq_false (by omega), if_f]
      unfold unisonlaw01_NumReads.p0
      rw [show rn (k + 4) 8 [] s = some (.bool true, s) from awake_rn (k + 3) s]
      exact ⟨s, rfl⟩
end

theorem law_reads {s : Store} {x0 x1 : AV} {b : List Int} {asks : List Ask} (h0 : IsV s x0 .u8 b) (h1 : IsL acells 3 s x1 asks) (hu : ∀ x ∈ b, 0 ≤ x ∧ x < 256) (hat : ∀ a ∈ asks, a.2.1 < 9223372036854775808) : ∃ s', rn 5001 5 [x0, x1] s = some (.bool true, s') := by
  rw [show 5001 = 5000 + 1 from rfl, unisonlaw01_NumReads.eq]
  unfold unisonlaw01_NumReads.f unisonlaw01_NumReads.p22 unisonlaw01_NumReads.p21
  have haw : ∀ s, rn 5000 8 [] s = some (.bool true, s) := fun s => awake_rn 4999 s
  simp only [lenV h0, bnd, guard_tt, guard_ff, guard_tf, guard_ft, pick_t, pick_f, if_t, if_f, add_i, sub_i, lss_i, leq_i, gtr_i, geq_i, eql_i, neq_i, min_i, max_i, conv_i, len_sl, len_nil, not_b, cells_agg, new_s, fld_p, nil_p]
  by_cases hb : (b.length : Int) > 600
  · simp only [decide_eq_true hb, bnd, guard_tt, guard_ff, guard_tf, guard_ft, pick_t, pick_f, if_t, if_f, add_i, sub_i, lss_i, leq_i, gtr_i, geq_i, eql_i, neq_i, min_i, max_i, conv_i, len_sl, len_nil, not_b, cells_agg, new_s, fld_p, nil_p, haw]
    exact ⟨s, rfl⟩
  · simp only [decide_eq_false hb, bnd, guard_tt, guard_ff, guard_tf, guard_ft, pick_t, pick_f, if_t, if_f, add_i, sub_i, lss_i, leq_i, gtr_i, geq_i, eql_i, neq_i, min_i, max_i, conv_i, len_sl, len_nil, not_b, cells_agg, new_s, fld_p, nil_p, lenL h1]
    by_cases hl : (asks.length : Int) > 60
    · simp only [decide_eq_true hl, bnd, guard_tt, guard_ff, guard_tf, guard_ft, pick_t, pick_f, if_t, if_f, add_i, sub_i, lss_i, leq_i, gtr_i, geq_i, eql_i, neq_i, min_i, max_i, conv_i, len_sl, len_nil, not_b, cells_agg, new_s, fld_p, nil_p, haw]
      exact ⟨s, rfl⟩
    · simp only [decide_eq_false hl, bnd, guard_tt, guard_ff, guard_tf, guard_ft, pick_t, pick_f, if_t, if_f, add_i, sub_i, lss_i, leq_i, gtr_i, geq_i, eql_i, neq_i, min_i, max_i, conv_i, len_sl, len_nil, not_b, cells_agg, new_s, fld_p, nil_p]
      unfold unisonlaw01_NumReads.p20
      obtain ⟨s1, k1, g1, n1, e1⟩ := copyV (bytes := 1) h0 (by omega) (by omega)
      rw [build_0, k1]
      have own1 : IsV s1 (.sl s.next 0 b.length 1 b.length) .u8 b := .inr ⟨s.next, 0, b, false, rfl, n1, g1, by omega, by simp⟩
      unfold unisonlaw01_NumReads.p19
      obtain ⟨id, s2, k2, r2, e2⟩ := new_run own1 (by omega) 4998
      simp only [Nat.reduceAdd] at k2
      rw [k2, bnd]
      unfold unisonlaw01_NumReads.p18
      have hq : s1.next ≤ id ∧ id < s2.next := by obtain ⟨_, _, _, q, _⟩ := r2; exact q
      have g2 : s2.get s.next = .cells (b.map (.int .u8)) false := (e2.get _ n1).trans g1
      have hn1 := e1.next
      have hn2 := e2.next
      obtain ⟨s3, k3, f3, n3⟩ := over_loop 5000 (x0 := x0) (x1 := x1) (x6 := .ptr id 0 2) (oid := s.next) (N := b.length) 5000 0 s2 b rfl g2 (by omega) (by omega) (by omega)
      rw [Int.natCast_zero] at k3
      simp only
      rw [k3]
      have e03 : Ext s s3 := f3.ext (e1.trans e2) (Nat.le_refl _)
      unfold unisonlaw01_NumReads.p14
      have hb2 : ∀ f : List AV → Option (AV × Store), aBuild [(0, 1, x0)] [AV.nilsl, AV.int .i64 0] f = f [x0, .int .i64 0] := by
        intro f
        simp only [aBuild, cellsV h0]
        simp [putAll]
      rw [hb2, new_s]
      simp only [List.length_cons, List.length_nil, Nat.zero_add, Nat.reduceAdd]
      obtain ⟨m, hm⟩ : ∃ m, m = s3.next := ⟨_, rfl⟩
      have gm0 : (s3.push (.cells [.nilsl, .int .i64 0] false)).get m = .cells [.nilsl, .int .i64 0] false := by rw [get_push, if_pos hm]
      rw [← hm, stN _ _ gm0 rfl]
      have e4 : Ext s3 ((s3.push (.cells [.nilsl, .int .i64 0] false)).set m (.cells [x0, .int .i64 0] false)) := ⟨by simp only [next_set, next_push]; omega, fun l hl => by rw [get_set, if_neg (by omega), get_push, if_neg (by omega)]⟩
      have gm : ((s3.push (.cells [.nilsl, .int .i64 0] false)).set m (.cells [x0, .int .i64 0] false)).get m = .cells [x0, .int .i64 0] false := by rw [get_set, if_pos rfl]
      have n4 : ((s3.push (.cells [.nilsl, .int .i64 0] false)).set m (.cells [x0, .int .i64 0] false)).next = m + 1 := by rw [hm]; rfl
      have r3 : IsRd s3 id b 0 (fun i => s.next ≤ i ∧ i < m) := by
        obtain ⟨bv, y1, y2, y3, y4, y5⟩ := r2
        refine ⟨bv, by rw [f3.get id y2 (by omega)]; exact y1, by omega, by omega, y4.fr1 f3 fun i x c z f q => by have := (y5 i x c z f q).2; omega, fun i x c z f q => ⟨(y5 i x c z f q).1, by have := (y5 i x c z f q).2; omega⟩⟩
      unfold unisonlaw01_NumReads.p13
      obtain ⟨s', k'⟩ := reads_loop 4996 (by omega) (by omega) h1 (by omega) hat (by omega) (by omega) (by omega) 5000 0 _ b 0 x0 (e03.trans e4) (by omega) (r3.ext e4) gm h0 hu (by omega) (by omega) (by omega)
      rw [Int.natCast_zero] at k'
      exact ⟨s', k'⟩

set_option linter.unusedVariables false in
theorem lawNumReads (a0 : _) (w0 : (shSlice (shInt .u8)).wf a0) (a1 : _) (w1 : (shSlice (shPair shBool (shPair (shInt .i64) (shInt .u64)))).wf a1) : ∃ k s', rn k 5 ([] ++ ((shSlice (shInt .u8)).put a0 (Store.empty)).1 ++ ((shSlice (shPair shBool (shPair (shInt .i64) (shInt .u64)))).put a1 (((shSlice (shInt .u8)).put a0 Store.empty).2)).1) ((shSlice (shPair shBool (shPair (shInt .i64) (shInt .u64)))).put a1 ((shSlice (shInt .u8)).put a0 Store.empty).2).2 = some (.bool true, s') := by
  obtain ⟨v0, b, p0, h0, u0, _, _⟩ := put_num .u8 a0 Store.empty w0
  obtain ⟨v1, asks, p1, h1, u1, e1⟩ := put_asks a1 ((shSlice (shInt .u8)).put a0 Store.empty).2 w1
  obtain ⟨s', k⟩ := law_reads (h0.ext e1) h1 (fun x hx => u8_of (u0 x hx)) u1
  rw [p0, p1]
  exact ⟨5001, s', k⟩
end Go.Proofs.Ytppaefjgkocakaa.Sim
