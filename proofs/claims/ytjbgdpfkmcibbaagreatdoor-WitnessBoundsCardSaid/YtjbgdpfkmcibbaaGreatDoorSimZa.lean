/- The abstract machine is sound: regions whose order is drawn, in which new rows are made without an order: the walk. No condition. -/
import Derived.Test.YtjbgdpfkmcibbaaGreatDoorSimZ
namespace Go.Proofs.YtjbgdpfkmcibbaaGreatDoor.Sim
open Go.RowKit (Below)
set_option linter.unusedSimpArgs false
set_option linter.unusedVariables false
section
variable {P : Program} {call : CallA} {B : Nat} {w0 : World} {ι : Nat → Loc} {s : Store} {w : World} {α : Type} {r : α} {nt : Nat} {ops : Array Oper} {n0 : Nat}

/-- The text's own order, laid out. -/
structure TrQ (P : Program) (call : CallA) (nt : Nat) (ops : Array Oper) (b : Array Nat) (n0 k : Nat) (l : List Oper) (H : List (Nat × Oper × Store)) (v : Nat → AV) (st : Nat → Store) (fr : Nat → Fr) : Prop where
  step : ∀ (j : Nat) (o : Oper), l[j]? = some o → stepQ P call ops b n0 (fr (k + j)) (k + j) o (st (k + j)) = some (v (k + j), st (k + j + 1))
  put : ∀ (j : Nat) (o : Oper), l[j]? = some o → (∀ t, fr (k + j + 1) t = if o.dst = some t then v (k + j) else fr (k + j) t) ∧ ∀ d, o.dst = some d → d < nt
  chkR : ∀ (i j : Nat) (oi o : Oper), i < j → l[i]? = some oi → l[j]? = some o → opRead P o.op = true → opW2 P oi.op = true → (b.getD (k + j) 0).testBit (k + i) = false → ∃ s', stepA P call ops (fr (k + j)) o (hideL (hidOf ops b n0 (k + j) (k + i)) (st (k + i))) = some (v (k + j), s')
  chkW : ∀ (i j : Nat) (oi o : Oper) (d : Tmp), i < j → l[i]? = some oi → l[j]? = some o → opW2 P o.op = true → opRead P oi.op = true → (b.getD (k + j) 0).testBit (k + i) = false → oi.dst = some d → ∃ s', stepA P call ops (fr (k + j)) oi (hideL (hidOf ops b n0 (k + i) (k + j + 1)) (st (k + j + 1))) = some (fr (k + j) d, s')
  hR : ∀ (j : Nat) (o : Oper), l[j]? = some o → ∀ h ∈ H, opRead P o.op = true → opW2 P h.2.1.op = true → (b.getD (k + j) 0).testBit h.1 = false → ∃ s', stepA P call ops (fr (k + j)) o (hideL (hidOf ops b n0 (k + j) h.1) h.2.2) = some (v (k + j), s')
  hW : ∀ (j : Nat) (o : Oper) (d : Tmp), l[j]? = some o → ∀ h ∈ H, opW2 P o.op = true → opRead P h.2.1.op = true → (b.getD (k + j) 0).testBit h.1 = false → h.2.1.dst = some d → ∃ s', stepA P call ops (fr (k + j)) h.2.1 (hideL (hidOf ops b n0 h.1 (k + j + 1)) (st (k + j + 1))) = some (fr (k + j) d, s')

theorem w2_not_read {o : Op} (h : opW2 P o = true) : ¬ opRead P o = true := by
  intro q; unfold opW2 opWrite at h; rw [q] at h; simp at h

theorem traceQ {b : Array Nat} {κ : Fr → Store → Option α} : ∀ (l : List Oper) (k : Nat) (H : List (Nat × Oper × Store)) (fr0 : Fr) (s0 : Store), execDrawQ P call nt ops b n0 κ ((l.zipIdx k).map fun p => (p.2, p.1)) H fr0 s0 = some r →
    ∃ v st fr, st k = s0 ∧ fr k = fr0 ∧ κ (fr (k + l.length)) (st (k + l.length)) = some r ∧ TrQ P call nt ops b n0 k l H v st fr
  | [], k, H, fr0, s0, h => ⟨fun _ => .junk, fun _ => s0, fun _ => fr0, rfl, rfl, h, ⟨fun j o hj => by simp at hj, fun j o hj => by simp at hj, fun i j oi o _ _ hj => by simp at hj, fun i j oi o d _ _ hj => by simp at hj, fun j o hj => by simp at hj, fun j o d hj => by simp at hj⟩⟩
  | o :: l, k, H, fr0, s0, h => by
    simp only [List.zipIdx_cons, List.map_cons, execDrawQ] at h
    obtain ⟨q, hq, h⟩ := Option.bind_eq_some_iff.1 h
    obtain ⟨hs, h⟩ := sames_use h
    have hput : ∃ fr1, (∀ t, fr1 t = if o.dst = some t then q.1 else fr0 t) ∧ (∀ d, o.dst = some d → d < nt) ∧ execDrawQ P call nt ops b n0 κ ((l.zipIdx (k + 1)).map fun p => (p.2, p.1)) ((k, o, s0) :: H) fr1 q.2 = some r := by
      unfold aPut at h
      split at h
      · rename_i hd; exact ⟨fr0, fun t => by rw [if_neg (by rw [hd]; simp)], fun d hd2 => (by rw [hd] at hd2; cases hd2), h⟩
      · rename_i t hd
        split at h
        · rename_i ht
          refine ⟨_, fun j => ?_, fun d hd2 => (by rw [hd] at hd2; rw [← Option.some.inj hd2]; exact ht), h⟩
          unfold upd
          by_cases e : j = t
          · rw [if_pos e, if_pos (by rw [hd, e])]
          · rw [if_neg e, if_neg (by rw [hd]; intro q; exact e (Option.some.inj q).symm)]
        · cases h
    obtain ⟨fr1, hf1, hf2, h⟩ := hput
    obtain ⟨v, st, fr, e1, e2, e3, T⟩ := traceQ l (k + 1) _ fr1 q.2 h
    have hk := @ins_k k
    have h0 := @ins_0 k
    have hk1 := @ins_k1 k
    have h01 := @ins_01 k
    have hb : ∀ j, k + (j + 1) = k + 1 + j := fun j => by omega
    have hb1 : ∀ j, k + (j + 1) + 1 = k + 1 + j + 1 := fun j => by omega
    refine ⟨ins k q.1 v, ins k s0 st, ins k fr0 fr, h0 _ _, h0 _ _, ?_, ?_⟩
    · have : k + (o :: l).length = k + 1 + l.length := by simp; omega
      rw [this]
      have n1 : k + 1 + l.length ≠ k := by omega
      simp only [ins, if_neg n1]
      exact e3
    · refine ⟨fun j o' hj => ?_, fun j o' hj => ?_, fun i j oi o' hij hi hj r1 r2 r3 => ?_, fun i j oi o' d hij hi hj r1 r2 r3 r4 => ?_, fun j o' hj hh hm r1 r2 r3 => ?_, fun j o' d hj hh hm r1 r2 r3 r4 => ?_⟩
      · cases j with
        | zero =>
          obtain rfl := Option.some.inj hj
          simp only [Nat.add_zero]
          rw [h0, h0, h0, h01, e1]
          exact hq
        | succ j => rw [hk, hk, hk, hk1, hb j]; exact T.step j o' (by simpa using hj)
      · cases j with
        | zero =>
          obtain rfl := Option.some.inj hj
          simp only [Nat.add_zero]
          rw [h0, h0, h01, e2]
          exact ⟨hf1, hf2⟩
        | succ j => rw [hk, hk, hk1]; exact T.put j o' (by simpa using hj)
      · cases j with
        | zero => omega
        | succ j =>
          rw [hk, hk]
          cases i with
          | zero =>
            obtain rfl := Option.some.inj hi
            simp only [Nat.add_zero] at r3 ⊢
            rw [h0]
            have := T.hR j o' (by simpa using hj) (k, o, s0) List.mem_cons_self r1 r2 (by rw [hb] at r3; exact r3)
            rw [hb j]; exact this
          | succ i =>
            rw [hk]
            have := T.chkR i j oi o' (by omega) (by simpa using hi) (by simpa using hj) r1 r2 (by rw [hb j, hb i] at r3; exact r3)
            rw [hb j, hb i]; exact this
      · cases j with
        | zero => omega
        | succ j =>
          rw [hk, hk1]
          cases i with
          | zero =>
            obtain rfl := Option.some.inj hi
            simp only [Nat.add_zero] at r3 ⊢
            have := T.hW j o' d (by simpa using hj) (k, o, s0) List.mem_cons_self r1 r2 (by rw [hb] at r3; exact r3) r4
            rw [hb1 j]; exact this
          | succ i =>
            have := T.chkW i j oi o' d (by omega) (by simpa using hi) (by simpa using hj) r1 r2 (by rw [hb j, hb i] at r3; exact r3) r4
            rw [hb1 j, hb i]; exact this
      · cases j with
        | zero =>
          obtain rfl := Option.some.inj hj
          simp only [Nat.add_zero] at r3 ⊢
          rw [h0, h0]
          have := hs (stepA P call ops fr0 o (hideL (hidOf ops b n0 k hh.1) hh.2.2), q.1) (by
            unfold chkQ
            rw [if_pos r1]
            exact List.mem_filterMap.2 ⟨hh, hm, by rw [if_pos ⟨r2, r3⟩]⟩)
          exact this
        | succ j => rw [hk, hk, hb j]; exact T.hR j o' (by simpa using hj) hh (List.mem_cons_of_mem _ hm) r1 r2 (by rw [hb] at r3; exact r3)
      · cases j with
        | zero =>
          obtain rfl := Option.some.inj hj
          simp only [Nat.add_zero] at r3 ⊢
          rw [h0, h01, e1]
          have := hs (stepA P call ops fr0 hh.2.1 (hideL (hidOf ops b n0 hh.1 (k + 1)) q.2), fr0 d) (by
            unfold chkQ
            rw [if_neg (w2_not_read r1), if_pos r1]
            exact List.mem_filterMap.2 ⟨hh, hm, by rw [if_pos ⟨r2, r3⟩, r4]; rfl⟩)
          exact this
        | succ j => rw [hk, hk1, hb1 j]; exact T.hW j o' d (by simpa using hj) hh (List.mem_cons_of_mem _ hm) r1 r2 (by rw [hb] at r3; exact r3) r4

/-! ### what the region is like -/
structure DrQ (P : Program) (ops : Array Oper) (b : Array Nat) : Prop where
  mixed : P.follows .mixedOrders = true
  back : ∀ (j : Nat) (o : Oper), ops[j]? = some o → ∀ e ∈ o.after.toList, Region.binds .any e = true → e.on < j
  slot : ∀ (j : Nat) (o : Oper), ops[j]? = some o → opRead P o.op = true → ∃ d, o.dst = some d
  seen : ∀ (i j : Nat) (oi o : Oper) (d : Tmp), ops[i]? = some oi → ops[j]? = some o → oi.dst = some d → d ∈ looks ops o → (b.getD j 0).testBit i = true ∨ (opRead P o.op = false ∧ j < i ∧ (b.getD i 0).testBit j = true)
  wr : ∀ (i j : Nat) (oi o : Oper), ops[i]? = some oi → ops[j]? = some o → i < j → opW2 P o.op = true → opW2 P oi.op = true → (b.getD j 0).testBit i = true
  one : ∀ (i j : Nat) (oi o : Oper) (d : Tmp), ops[i]? = some oi → ops[j]? = some o → i < j → oi.dst = some d → o.dst ≠ some d

theorem mem_rows2 {j : Nat} {o : Oper} (h : ops[j]? = some o) : (rowOf2 P ops o, j) ∈ (ops.toList.map (rowOf2 P ops)).zipIdx := by
  rw [List.mem_zipIdx_iff_getElem?]; simp [h]

theorem read_kind {o : Oper} (hr : opRead P o.op = true) : opAlloc o.op = false ∧ opPure P o.op = false := by
  cases hop : o.op <;> rw [hop] at hr <;> simp only [opRead, Bool.false_eq_true] at hr <;> simp only [opPure, opAlloc, true_and]
  · split at hr
    · rename_i h1 h2; rw [h1, h2]
    · cases hr
  · split at hr
    · rename_i hc
      rw [hc]
      simp only
      split at hr
      · rename_i hu; rw [hu]
      · cases hr
    · cases hr

theorem drq_of (h : drawOk P ops (ops.toList.map (rowOf2 P ops)) (Region.before ops).toList = true) : DrQ P ops (Region.before ops) := by
  unfold drawOk at h
  rw [Bool.and_eq_true, Bool.and_eq_true] at h
  obtain ⟨⟨hm, he⟩, h⟩ := h
  have h1 := fun (j : Nat) (o : Oper) (ho : ops[j]? = some o) => List.all_eq_true.1 h (rowOf2 P ops o, j) (mem_rows2 ho)
  simp only [Bool.and_eq_true] at h1
  have bit : ∀ j i, ((Region.before ops).toList.getD j 0).testBit i = ((Region.before ops).getD j 0).testBit i := fun j i => by simp
  have kr : ∀ o : Oper, opRead P o.op = true → (rowOf2 P ops o).2.2 = 1 := fun o hr => by
    obtain ⟨ha, hp⟩ := read_kind hr
    simp [rowOf2, hp, hr, ha]
  have kw : ∀ o : Oper, opW2 P o.op = true → (rowOf2 P ops o).2.2 = 2 := fun o hw => by
    unfold opW2 opWrite at hw
    rw [Bool.and_eq_true, Bool.and_eq_true] at hw
    simp only [Bool.not_eq_true'] at hw
    simp [rowOf2, hw.1.1, hw.1.2, hw.2]
  have kd : ∀ (o : Oper) d, o.dst = some d → (rowOf2 P ops o).1 = d + 1 := fun o d hd => by simp [rowOf2, hd]
  refine ⟨hm, fun j o ho e hem hb => ?_, fun j o ho hr => ?_, fun i j oi o d hi hj hd hl => ?_, fun i j oi o hi hj hij hw hwi => ?_, fun i j oi o d hi hj hij hd => ?_⟩
  · have := List.all_eq_true.1 (List.all_eq_true.1 he (o, j) (mem_zip ho)) e hem
    rw [hb] at this
    simpa using this
  · have := (h1 j o ho).1
    simp only [kr o hr] at this
    cases hd : o.dst with
    | none => simp [rowOf2, hd] at this
    | some d => exact ⟨d, rfl⟩
  · have := List.all_eq_true.1 (h1 j o hj).2 (rowOf2 P ops oi, i) (mem_rows2 hi)
    rw [Bool.and_eq_true] at this
    have := this.1
    simp only [kd oi d hd, bit] at this
    rw [Bool.or_eq_true, Bool.or_eq_true, Bool.or_eq_true] at this
    rcases this with ((h2 | h2) | h2) | h2
    · simp at h2
    · have hex : ((rowOf2 P ops o).2.1.any fun t => Nat.beq (t + 1) (d + 1)) = true := List.any_eq_true.2 ⟨d, hl, by simp⟩
      rw [hex] at h2; cases h2
    · exact .inl h2
    · rw [Bool.and_eq_true, Bool.and_eq_true] at h2
      refine .inr ⟨?_, by simpa using h2.1.2, h2.2⟩
      cases hr : opRead P o.op
      · rfl
      · rw [kr o hr] at h2; simp at h2
  · have := List.all_eq_true.1 (h1 j o hj).2 (rowOf2 P ops oi, i) (mem_rows2 hi)
    rw [Bool.and_eq_true] at this
    have := this.2
    have hb : Nat.blt i j = true := by simpa using hij
    simp only [hb, kw o hw, kw oi hwi, bit, Bool.not_true, Bool.false_or, Bool.and_eq_true] at this
    have := this.1
    simpa using this
  · have := List.all_eq_true.1 (h1 j o hj).2 (rowOf2 P ops oi, i) (mem_rows2 hi)
    rw [Bool.and_eq_true] at this
    have := this.2
    have hb : Nat.blt i j = true := by simpa using hij
    simp only [hb, Bool.not_true, Bool.false_or, Bool.and_eq_true] at this
    intro hd2
    have := this.2
    simp only [kd o d hd2, kd oi d hd] at this
    simp at this

theorem ancQ_lt (D : DrQ P ops (Region.before ops)) : ∀ j i, ((Region.before ops).getD j 0).testBit i = true → i < j := by
  intro j
  induction j using Nat.strongRecOn with
  | _ j ih =>
    intro i h
    obtain ⟨o, ho, e, he, hb, h1 | ⟨h1, h2⟩⟩ := before_spec ops h
    · have := D.back j o ho e he hb; omega
    · have := ih e.on h1 i h2; omega
theorem ancQ_in {L : Nat → Prop} (hcl : ∀ (j : Nat) (o : Oper), ops[j]? = some o → L j → ∀ e ∈ o.after.toList, Region.binds .any e = true → L e.on) : ∀ j i, ((∀ o, ops[j]? = some o → ∀ e ∈ o.after.toList, Region.binds .any e = true → L e.on)) →
    ((Region.before ops).getD j 0).testBit i = true → L i := by
  intro j
  induction j using Nat.strongRecOn with
  | _ j ih =>
    intro i hj h
    obtain ⟨o, ho, e, he, hb, h1 | ⟨h1, h2⟩⟩ := before_spec ops h
    · rw [← h1]; exact hj o ho e he hb
    · exact ih e.on h1 i (fun o' ho' => hcl e.on o' ho' (hj o ho e he hb)) h2

/-! ### rows that are kept -/
theorem mem_hid {b : Array Nat} {p q l : Nat} : l ∈ hidOf ops b n0 p q ↔ ∃ i, i < q ∧ allocAt ops i = true ∧ (b.getD p 0).testBit i = false ∧ l = n0 + i := by
  unfold hidOf
  rw [List.mem_filterMap]
  constructor
  · rintro ⟨i, hi, e⟩
    split at e
    · rename_i hc
      rw [Bool.and_eq_true] at hc
      exact ⟨i, List.mem_range.1 hi, hc.1, by simpa using hc.2, (Option.some.inj e).symm⟩
    · cases e
  · rintro ⟨i, h1, h2, h3, h4⟩
    exact ⟨i, List.mem_range.2 h1, by rw [if_pos (by rw [h2, h3]; rfl), h4]⟩
theorem alloc_at {j : Nat} {o : Oper} (h : ops[j]? = some o) : allocAt ops j = opAlloc o.op := by unfold allocAt; rw [h]
theorem alloc_lt {j : Nat} (h : allocAt ops j = true) : ∃ o, ops[j]? = some o ∧ opAlloc o.op = true := by
  unfold allocAt at h
  split at h
  · rename_i o ho; exact ⟨o, ho, h⟩
  · cases h
/-- The rows that an operation doesn't need, or that come from the place x on. -/
def HX (ops : Array Oper) (b : Array Nat) (n0 j x l : Nat) : Prop := ∃ i, allocAt ops i = true ∧ ((b.getD j 0).testBit i = false ∨ x ≤ i) ∧ l = n0 + i
theorem hide_eq {b : Array Nat} {j x : Nat} (hz : ∀ i, x ≤ i → allocAt ops i = true → s.get (n0 + i) = .none) : hideL (hidOf ops b n0 j x) s = addT (HX ops b n0 j x) (fun _ => .none) s := by
  unfold hideL addT
  congr 1
  funext l
  by_cases h : HX ops b n0 j x l
  · rw [if_pos h]
    obtain ⟨i, h1, h2, rfl⟩ := h
    by_cases hm : n0 + i ∈ hidOf ops b n0 j x
    · rw [if_pos hm]
    · rw [if_neg hm]
      refine hz i ?_ h1
      rcases h2 with h2 | h2
      · rcases Nat.lt_or_ge i x with h3 | h3
        · exact absurd (mem_hid.2 ⟨i, h3, h1, h2, rfl⟩) hm
        · exact h3
      · exact h2
  · rw [if_neg h, if_neg]
    intro hm
    obtain ⟨i, h1, h2, h3, rfl⟩ := mem_hid.1 hm
    exact h ⟨i, h2, .inl h3, rfl⟩
theorem addT_back (H : Nat → Prop) (T : Nat → AObj) (s : Store) (h : ∀ l, H l → T l = s.get l) : addT H T (addT H (fun _ => .none) s) = s := by
  cases s with
  | mk n g =>
    unfold addT
    congr 1
    funext l
    by_cases e : H l
    · simp [e, h l e]
    · simp [e]
theorem none_hid (H : Nat → Prop) (s : Store) (h : ∀ l, H l → l < s.next) : Hid H (addT H (fun _ => .none) s) := fun l hl => ⟨by simp [addT, hl], h l hl⟩

/-- What a guarded new row does. -/
theorem stepA_alloc {o : Oper} (ha : opAlloc o.op = true) {fr : Fr} {q : Nat} {g : Nat → AObj} {v : AV} {s1 : Store} (h : stepA P call ops fr o ⟨q, g⟩ = some (v, s1)) :
    (aop P call (evalA fr) o ⟨q, g⟩ pairK = some (v, s1) ∧ ∃ ob, ∀ l, s1.get l = if l = q then ob else g l) ∨ (s1.get = g ∧ v = .tuple [] ∧ ∀ s2, stepA P call ops fr o s2 = some (.tuple [], s2)) := by
  unfold stepA at h ⊢
  cases hg : o.guard with
  | none =>
    rw [hg] at h
    obtain ⟨ob, h1, _⟩ := alloc_run ha h
    exact .inl ⟨h, ob, h1⟩
  | some jw =>
    obtain ⟨j, want⟩ := jw
    rw [hg] at h
    simp only at h ⊢
    cases ht : (ops[j]?).bind (·.dst) with
    | none => rw [ht] at h; cases h
    | some t =>
      rw [ht] at h
      simp only at h ⊢
      rcases guard_use h with ⟨h1, h2⟩ | ⟨h1, h2, h3⟩
      · obtain ⟨ob, k1, _⟩ := alloc_run ha h2
        exact .inl ⟨h2, ob, k1⟩
      · obtain ⟨rfl, rfl⟩ := Prod.mk.inj h2
        exact .inr ⟨rfl, rfl, fun s2 => h3 _ _⟩

section
variable {v : Nat → AV} {st : Nat → Store} {fr : Nat → Fr} {b : Array Nat}

theorem trq_get {H : List (Nat × Oper × Store)} (T : TrQ P call nt ops b n0 0 ops.toList H v st fr) (j : Nat) (o : Oper) (h : ops[j]? = some o) :
    stepQ P call ops b n0 (fr j) j o (st j) = some (v j, st (j + 1)) ∧ (∀ t, fr (j + 1) t = if o.dst = some t then v j else fr j t) ∧ ∀ d, o.dst = some d → d < nt := by
  have h' : ops.toList[j]? = some o := by simpa using h
  have h1 := T.step j o h'
  have h2 := T.put j o h'
  simp only [Nat.zero_add] at h1 h2
  exact ⟨h1, h2.1, h2.2⟩
theorem trq_alloc (T : TrQ P call nt ops b n0 0 ops.toList [] v st fr) {j : Nat} {o : Oper} (h : ops[j]? = some o) (ha : opAlloc o.op = true) : ∃ s1, stepA P call ops (fr j) o ⟨n0 + j, (st j).get⟩ = some (v j, s1) ∧ st (j + 1) = ⟨(st j).next, s1.get⟩ := by
  have := (trq_get T j o h).1
  unfold stepQ at this
  rw [if_pos ha] at this
  exact at_of this
theorem trq_step (T : TrQ P call nt ops b n0 0 ops.toList [] v st fr) {j : Nat} {o : Oper} (h : ops[j]? = some o) (ha : opAlloc o.op = false) : ∃ s1, stepA P call ops (fr j) o (hideL (hidOf ops b n0 j j) (st j)) = some (v j, s1) ∧ st (j + 1) = backL (hidOf ops b n0 j j) (st j) s1 := by
  have := (trq_get T j o h).1
  unfold stepQ at this
  rw [if_neg (by rw [ha]; simp)] at this
  exact under_of this

theorem back_hide (L : List Nat) (s : Store) : backL L s (hideL L s) = s := by
  cases s with
  | mk n g =>
    unfold backL hideL
    congr 1
    funext l
    by_cases e : l ∈ L
    · simp [e]
    · simp [e]

/-- An operation's step: other rows than its own stay, if it only reckons or reads or makes a row. -/
theorem keep1 (T : TrQ P call nt ops b n0 0 ops.toList [] v st fr) {j : Nat} {o : Oper} (h : ops[j]? = some o) (hw : opW2 P o.op = false) : (st (j + 1)).next = (st j).next ∧ ∀ l, (allocAt ops j = true → l ≠ n0 + j) → (st (j + 1)).get l = (st j).get l := by
  cases ha : opAlloc o.op
  · obtain ⟨s1, h1, h2⟩ := trq_step T h ha
    have hw' : opWrite P o.op = false := by unfold opW2 at hw; rw [ha] at hw; simpa using hw
    obtain rfl := stepA_keeps hw' h1
    rw [back_hide] at h2
    rw [h2]
    exact ⟨rfl, fun _ _ => rfl⟩
  · obtain ⟨s1, h1, h2⟩ := trq_alloc T h ha
    rw [h2]
    refine ⟨rfl, fun l hl => ?_⟩
    have hne := hl (by rw [alloc_at h]; exact ha)
    rcases stepA_alloc ha h1 with ⟨_, ob, k⟩ | ⟨k, _⟩
    · show s1.get l = _
      rw [k, if_neg hne]
    · show s1.get l = _
      rw [k]
theorem keepN (T : TrQ P call nt ops b n0 0 ops.toList [] v st fr) (x : Nat) : ∀ d, x + d ≤ ops.size → (∀ (j : Nat) (o : Oper), x ≤ j → j < x + d → ops[j]? = some o → opW2 P o.op = false) → (st (x + d)).next = (st x).next ∧ ∀ l, (∀ j, x ≤ j → j < x + d → allocAt ops j = true → l ≠ n0 + j) → (st (x + d)).get l = (st x).get l
  | 0, _, _ => ⟨rfl, fun _ _ => rfl⟩
  | d + 1, hd, hn => by
    have ho : ops[x + d]? = some (ops[x + d]'(by omega)) := Array.getElem?_eq_getElem (by omega)
    obtain ⟨h1, h2⟩ := keep1 T ho (hn (x + d) _ (by omega) (by omega) ho)
    obtain ⟨k1, k2⟩ := keepN T x d (by omega) (fun j o h1 h2 h3 => hn j o h1 (by omega) h3)
    rw [show x + (d + 1) = x + d + 1 by omega]
    exact ⟨h1.trans k1, fun l hl => (h2 l (hl (x + d) (by omega) (by omega))).trans (k2 l fun j g1 g2 => hl j g1 (by omega))⟩
theorem keep' (T : TrQ P call nt ops b n0 0 ops.toList [] v st fr) {x y : Nat} (hxy : x ≤ y) (hy : y ≤ ops.size) (hn : ∀ (j : Nat) (o : Oper), x ≤ j → j < y → ops[j]? = some o → opW2 P o.op = false) : (st y).next = (st x).next ∧ ∀ l, (∀ j, x ≤ j → j < y → allocAt ops j = true → l ≠ n0 + j) → (st y).get l = (st x).get l := by
  have := keepN T x (y - x) (by omega) (fun j o h1 h2 h3 => hn j o h1 (by omega) h3)
  rw [show x + (y - x) = y by omega] at this
  exact this

/-- A row that is not there yet: nobody makes it but its own operation. -/
theorem none_inv (hC : ∀ H T, CallFr H T call) (hb : ∀ j i, (b.getD j 0).testBit i = true → i < j) (T : TrQ P call nt ops b n0 0 ops.toList [] v st fr) (h0 : ∀ i, allocAt ops i = true → (st 0).get (n0 + i) = .none ∧ n0 + i < (st 0).next) :
    ∀ j, j ≤ ops.size → ∀ i, j ≤ i → allocAt ops i = true → (st j).get (n0 + i) = .none ∧ n0 + i < (st j).next
  | 0, _, i, _, ha => h0 i ha
  | j + 1, hj, i, hi, ha => by
    have ih := none_inv hC hb T h0 j (by omega)
    have ho : ops[j]? = some (ops[j]'(by omega)) := Array.getElem?_eq_getElem (by omega)
    generalize ops[j]'(by omega) = o at ho
    cases hal : opAlloc o.op
    · obtain ⟨s1, h1, h2⟩ := trq_step T ho hal
      have hh : Hid (fun l => l = n0 + i) (hideL (hidOf ops b n0 j j) (st j)) := fun l hl => by
        subst hl
        have := ih i (by omega) ha
        refine ⟨?_, this.2⟩
        unfold hideL
        by_cases e : n0 + i ∈ hidOf ops b n0 j j
        · simp [e]
        · simp [e, this.1]
      have k := (stepA_fr (T := fun _ => .none) (hC _ _) hh h1).1 (n0 + i) rfl
      rw [h2]
      refine ⟨?_, k.2⟩
      unfold backL
      have hno : n0 + i ∉ hidOf ops b n0 j j := fun hm => by
        obtain ⟨i', g1, _, _, g4⟩ := mem_hid.1 hm
        omega
      simp only [if_neg hno]
      exact k.1
    · obtain ⟨h1, h2⟩ := keep1 T ho (by unfold opW2; rw [hal]; simp)
      rw [h1, h2 (n0 + i) (fun _ => by omega)]
      exact ih i (by omega) ha

/-- A row for which nobody of these waits stays as it is. -/
theorem row_keep (T : TrQ P call nt ops b n0 0 ops.toList [] v st fr) {i : Nat} (hi : allocAt ops i = true) : ∀ d, i + 1 + d ≤ ops.size → (∀ (p : Nat) (o : Oper), i < p → p < i + 1 + d → ops[p]? = some o → opW2 P o.op = true → (b.getD p 0).testBit i = false) → (st (i + 1 + d)).get (n0 + i) = (st (i + 1)).get (n0 + i)
  | 0, _, _ => rfl
  | d + 1, hd, hn => by
    have ho : ops[i + 1 + d]? = some (ops[i + 1 + d]'(by omega)) := Array.getElem?_eq_getElem (by omega)
    generalize ops[i + 1 + d]'(by omega) = o at ho
    have ih := row_keep T hi d (by omega) (fun p o h1 h2 => hn p o h1 (by omega))
    rw [show i + 1 + (d + 1) = i + 1 + d + 1 by omega, ← ih]
    cases hw : opW2 P o.op
    · exact (keep1 T ho hw).2 _ (fun _ => by omega)
    · have hal : opAlloc o.op = false := by
        cases h : opAlloc o.op
        · rfl
        · unfold opW2 at hw; rw [h] at hw; simp at hw
      obtain ⟨s1, _, h2⟩ := trq_step T ho hal
      rw [h2]
      unfold backL
      have : n0 + i ∈ hidOf ops b n0 (i + 1 + d) (i + 1 + d) := mem_hid.2 ⟨i, by omega, hi, hn _ _ (by omega) (by omega) ho hw, rfl⟩
      simp only [if_pos this]
end
end
end Go.Proofs.YtjbgdpfkmcibbaaGreatDoor.Sim
