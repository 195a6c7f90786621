/- The abstract machine is sound: regions whose order is drawn. No condition. -/
import Derived.Test.YtjbgdpfkmcibbaaGreatDoorSimN
import Derived.Orders
namespace Go.Proofs.YtjbgdpfkmcibbaaGreatDoor.Sim
open Go.RowKit (Below)
set_option linter.unusedSimpArgs false
section
variable {P : Program} {call : CallA} {B : Nat} {w0 : World} {ι : Nat → Loc} {s : Store} {w : World} {α : Type} {r : α} {nt : Nat} {ops : Array Oper}

theorem stepA_congr {fr fr' : Fr} {o : Oper} (h : ∀ t ∈ looks ops o, fr t = fr' t) (s : Store) : stepA P call ops fr o s = stepA P call ops fr' o s := by
  have hop : ∀ x ∈ o.op.operands, evalA fr x = evalA fr' x := by
    intro x hx
    cases x with
    | tmp t => exact h t (List.mem_append_left _ (List.mem_filterMap.2 ⟨.tmp t, by simpa using hx, rfl⟩))
    | _ => rfl
  unfold stepA
  cases hg : o.guard with
  | none => exact aop_congr o hop
  | some jw =>
    obtain ⟨j, want⟩ := jw
    simp only
    cases ht : (ops[j]?).bind (·.dst) with
    | none => rfl
    | some t =>
      have : fr t = fr' t := h t (List.mem_append_right _ (by simp only [hg]; rw [ht]; simp))
      simp only [this, aop_congr o hop]

theorem guard_use {v : AV} {want : Bool} {x : Option (AV × Store)} {q q' : AV × Store} (h : aGuard v want x (some q) = some q') : (v = .bool want ∧ x = some q') ∨ (v ≠ .bool want ∧ q' = q ∧ ∀ x y, aGuard v want x y = (y : Option (AV × Store))) := by
  unfold aGuard at h
  split at h
  · rename_i b
    split at h
    · rename_i e; subst e; exact .inl ⟨rfl, h⟩
    · rename_i e
      refine .inr ⟨fun q => e (by injection q), (Option.some.inj h).symm, fun x y => ?_⟩
      simp [aGuard, e]
  · exact .inr ⟨(by simp), (Option.some.inj h).symm, fun x y => rfl⟩
  · cases h

/-- An operation that only reckons. -/
theorem stepA_pure {fr : Fr} {o : Oper} {v : AV} {s s' : Store} (hp : opPure P o.op = true) (h : stepA P call ops fr o s = some (v, s')) : s' = s ∧ ∀ s2, stepA P call ops fr o s2 = some (v, s2) := by
  unfold stepA at h ⊢
  cases hg : o.guard with
  | none => rw [hg] at h; exact pure_step hp h
  | some jw =>
    obtain ⟨j, want⟩ := jw
    rw [hg] at h
    simp only at h ⊢
    cases ht : (ops[j]?).bind (·.dst) with
    | none => rw [ht] at h; cases h
    | some t =>
      rw [ht] at h
      simp only at h ⊢
      rcases guard_use h with ⟨h1, h2⟩ | ⟨h1, h2, h3⟩
      · obtain ⟨k1, k2⟩ := pure_step hp h2
        exact ⟨k1, fun s2 => by rw [h1]; simp [aGuard, k2]⟩
      · obtain ⟨rfl, rfl⟩ := Prod.mk.inj h2
        exact ⟨rfl, fun s2 => h3 _ _⟩
theorem stepA_read {fr : Fr} {o : Oper} {v : AV} {s s' : Store} (hp : opRead P o.op = true) (h : stepA P call ops fr o s = some (v, s')) : s' = s := by
  unfold stepA at h
  cases hg : o.guard with
  | none => rw [hg] at h; exact read_step hp h
  | some jw =>
    obtain ⟨j, want⟩ := jw
    rw [hg] at h
    simp only at h
    cases ht : (ops[j]?).bind (·.dst) with
    | none => rw [ht] at h; cases h
    | some t =>
      rw [ht] at h
      simp only at h
      rcases guard_use h with ⟨h1, h2⟩ | ⟨h1, h2, h3⟩
      · exact read_step hp h2
      · exact (Prod.mk.inj h2).2
theorem stepA_keeps {fr : Fr} {o : Oper} {v : AV} {s s' : Store} (hp : opWrite P o.op = false) (h : stepA P call ops fr o s = some (v, s')) : s' = s := by
  unfold opWrite at hp
  cases h1 : opPure P o.op
  · rw [h1] at hp
    cases h2 : opRead P o.op
    · rw [h2] at hp; simp at hp
    · exact stepA_read h2 h
  · exact (stepA_pure h1 h).1

theorem sames_use : ∀ {L : List (Option (AV × Store) × AV)} {x : Option α}, sames L x = some r → (∀ p ∈ L, ∃ s', p.1 = some (p.2, s')) ∧ x = some r
  | [], x, h => ⟨fun p hp => by simp at hp, h⟩
  | (c, v) :: L, x, h => by
    simp only [sames] at h
    obtain ⟨q, hq, h2⟩ := Option.bind_eq_some_iff.1 h
    unfold aSame at h2
    cases hq2 : avEq q.1 v
    · rw [hq2] at h2; cases h2
    · rw [hq2] at h2
      have e := (avEq_iff _ _).1 hq2
      obtain ⟨h3, h4⟩ := sames_use h2
      refine ⟨fun p hp => ?_, h4⟩
      rcases List.mem_cons.1 hp with rfl | hp
      · exact ⟨q.2, by rw [hq, ← e]⟩
      · exact h3 p hp

/-- The text's own order, laid out. -/
structure Tr (P : Program) (call : CallA) (nt : Nat) (ops : Array Oper) (b : Array Nat) (k n : Nat) (l : List Oper) (H : List (Nat × Oper × Store)) (v : Nat → AV) (st : Nat → Store) (fr : Nat → Fr) : Prop where
  step : ∀ (j : Nat) (o : Oper), l[j]? = some o → stepA P call ops (fr (k + j)) o (st (k + j)) = some (v (k + j), st (k + j + 1))
  put : ∀ (j : Nat) (o : Oper), l[j]? = some o → (∀ t, fr (k + j + 1) t = if o.dst = some t then v (k + j) else fr (k + j) t) ∧ ∀ d, o.dst = some d → d < nt
  chkR : ∀ (i j : Nat) (oi o : Oper), i < j → l[i]? = some oi → l[j]? = some o → opRead P o.op = true → opWrite P oi.op = true → (b.getD (k + j) 0).testBit (k + i) = false → ∃ s', stepA P call ops (fr (k + j)) o (st (k + i)) = some (v (k + j), s')
  chkW : ∀ (i j : Nat) (oi o : Oper) (d : Tmp), i < j → l[i]? = some oi → l[j]? = some o → opWrite P o.op = true → opRead P oi.op = true → (b.getD (k + j) 0).testBit (k + i) = false → oi.dst = some d → ∃ s', stepA P call ops (fr (k + j)) oi (st (k + j + 1)) = some (fr (k + j) d, s')
  hR : ∀ (j : Nat) (o : Oper), l[j]? = some o → ∀ h ∈ H, opRead P o.op = true → opWrite P h.2.1.op = true → (b.getD (k + j) 0).testBit h.1 = false → ∃ s', stepA P call ops (fr (k + j)) o h.2.2 = some (v (k + j), s')
  hW : ∀ (j : Nat) (o : Oper) (d : Tmp), l[j]? = some o → ∀ h ∈ H, opWrite P o.op = true → opRead P h.2.1.op = true → (b.getD (k + j) 0).testBit h.1 = false → h.2.1.dst = some d → ∃ s', stepA P call ops (fr (k + j)) h.2.1 (st (k + j + 1)) = some (fr (k + j) d, s')
  len : n = k + l.length

/-- A row with another first one. -/
def ins {β : Type} (k : Nat) (x : β) (f : Nat → β) : Nat → β := fun i => if i = k then x else f i
theorem ins_k {k : Nat} {β : Type} (x : β) (f : Nat → β) (j : Nat) : ins k x f (k + (j + 1)) = f (k + 1 + j) := by
  have : k + (j + 1) ≠ k := by omega
  simp only [ins, if_neg this]
  congr 1; omega
theorem ins_0 {k : Nat} {β : Type} (x : β) (f : Nat → β) : ins k x f k = x := by simp [ins]
theorem ins_k1 {k : Nat} {β : Type} (x : β) (f : Nat → β) (j : Nat) : ins k x f (k + (j + 1) + 1) = f (k + 1 + j + 1) := by
  have : k + (j + 1) + 1 ≠ k := by omega
  simp only [ins, if_neg this]
  congr 1; omega
theorem ins_01 {k : Nat} {β : Type} (x : β) (f : Nat → β) : ins k x f (k + 1) = f (k + 1) := by simp [ins]

theorem trace {b : Array Nat} {κ : Fr → Store → Option α} : ∀ (l : List Oper) (k : Nat) (H : List (Nat × Oper × Store)) (fr0 : Fr) (s0 : Store), execDraw P call nt ops b κ ((l.zipIdx k).map fun p => (p.2, p.1)) H fr0 s0 = some r →
    ∃ v st fr, st k = s0 ∧ fr k = fr0 ∧ κ (fr (k + l.length)) (st (k + l.length)) = some r ∧ Tr P call nt ops b k (k + l.length) l H v st fr
  | [], k, H, fr0, s0, h => ⟨fun _ => .junk, fun _ => s0, fun _ => fr0, rfl, rfl, h, ⟨fun j o hj => by simp at hj, fun j o hj => by simp at hj, fun i j oi o _ _ hj => by simp at hj, fun i j oi o d _ _ hj => by simp at hj, fun j o hj => by simp at hj, fun j o d hj => by simp at hj, rfl⟩⟩
  | o :: l, k, H, fr0, s0, h => by
    simp only [List.zipIdx_cons, List.map_cons, execDraw] at h
    obtain ⟨q, hq, h⟩ := Option.bind_eq_some_iff.1 h
    obtain ⟨hs, h⟩ := sames_use h
    have hput : ∃ fr1, (∀ t, fr1 t = if o.dst = some t then q.1 else fr0 t) ∧ (∀ d, o.dst = some d → d < nt) ∧ execDraw P call nt ops b κ ((l.zipIdx (k + 1)).map fun p => (p.2, p.1)) ((k, o, s0) :: H) fr1 q.2 = some r := by
      unfold aPut at h
      split at h
      · rename_i hd; exact ⟨fr0, fun t => by rw [if_neg (by rw [hd]; simp)], fun d hd2 => (by rw [hd] at hd2; cases hd2), h⟩
      · rename_i t hd
        split at h
        · rename_i ht
          refine ⟨_, fun j => ?_, fun d hd2 => (by rw [hd] at hd2; rw [← Option.some.inj hd2]; exact ht), h⟩
          unfold upd
          by_cases e : j = t
          · rw [if_pos e, if_pos (by rw [hd, e])]
          · rw [if_neg e, if_neg (by rw [hd]; intro q; exact e (Option.some.inj q).symm)]
        · cases h
    obtain ⟨fr1, hf1, hf2, h⟩ := hput
    obtain ⟨v, st, fr, e1, e2, e3, T⟩ := trace l (k + 1) _ fr1 q.2 h
    have hk := @ins_k k
    have h0 := @ins_0 k
    have hk1 := @ins_k1 k
    have h01 := @ins_01 k
    have hb : ∀ j, k + (j + 1) = k + 1 + j := fun j => by omega
    refine ⟨ins k q.1 v, ins k s0 st, ins k fr0 fr, h0 _ _, h0 _ _, ?_, ?_⟩
    · have : k + (o :: l).length = k + 1 + l.length := by simp; omega
      rw [this]
      have n1 : k + 1 + l.length ≠ k := by omega
      simp only [ins, if_neg n1]
      exact e3
    · refine ⟨fun j o' hj => ?_, fun j o' hj => ?_, fun i j oi o' hij hi hj r1 r2 r3 => ?_, fun i j oi o' d hij hi hj r1 r2 r3 r4 => ?_, fun j o' hj hh hm r1 r2 r3 => ?_, fun j o' d hj hh hm r1 r2 r3 r4 => ?_, rfl⟩
      · cases j with
        | zero =>
          obtain rfl := Option.some.inj hj
          simp only [Nat.add_zero]
          rw [h0, h0, h0, h01, e1]
          exact hq
        | succ j => rw [hk, hk, hk, hk1]; exact T.step j o' (by simpa using hj)
      · cases j with
        | zero =>
          obtain rfl := Option.some.inj hj
          simp only [Nat.add_zero]
          rw [h0, h0, h01, e2]
          exact ⟨hf1, hf2⟩
        | succ j => rw [hk, hk, hk1]; exact T.put j o' (by simpa using hj)
      · cases j with
        | zero => omega
        | succ j =>
          rw [hk, hk]
          cases i with
          | zero =>
            obtain rfl := Option.some.inj hi
            simp only [Nat.add_zero] at r3 ⊢
            rw [h0]
            exact T.hR j o' (by simpa using hj) (k, o, s0) List.mem_cons_self r1 r2 (by rw [hb] at r3; exact r3)
          | succ i =>
            rw [hk]
            exact T.chkR i j oi o' (by omega) (by simpa using hi) (by simpa using hj) r1 r2 (by rw [hb j, hb i] at r3; exact r3)
      · cases j with
        | zero => omega
        | succ j =>
          rw [hk, hk1]
          cases i with
          | zero =>
            obtain rfl := Option.some.inj hi
            simp only [Nat.add_zero] at r3
            exact T.hW j o' d (by simpa using hj) (k, o, s0) List.mem_cons_self r1 r2 (by rw [hb] at r3; exact r3) r4
          | succ i =>
            exact T.chkW i j oi o' d (by omega) (by simpa using hi) (by simpa using hj) r1 r2 (by rw [hb j, hb i] at r3; exact r3) r4
      · cases j with
        | zero =>
          obtain rfl := Option.some.inj hj
          simp only [Nat.add_zero] at r3 ⊢
          rw [h0, h0]
          have := hs (stepA P call ops fr0 o hh.2.2, q.1) (by
            unfold chk
            rw [if_pos r1]
            exact List.mem_filterMap.2 ⟨hh, hm, by rw [if_pos ⟨r2, r3⟩]⟩)
          exact this
        | succ j => rw [hk, hk]; exact T.hR j o' (by simpa using hj) hh (List.mem_cons_of_mem _ hm) r1 r2 (by rw [hb] at r3; exact r3)
      · cases j with
        | zero =>
          obtain rfl := Option.some.inj hj
          simp only [Nat.add_zero] at r3 ⊢
          rw [h0, h01, e1]
          have hnr : ¬ opRead P o.op = true := by
            intro q; unfold opWrite at r1; rw [q] at r1; simp at r1
          have := hs (stepA P call ops fr0 hh.2.1 q.2, fr0 d) (by
            unfold chk
            rw [if_neg hnr, if_pos r1]
            exact List.mem_filterMap.2 ⟨hh, hm, by rw [if_pos ⟨r2, r3⟩, r4]; rfl⟩)
          exact this
        | succ j => rw [hk, hk1]; exact T.hW j o' d (by simpa using hj) hh (List.mem_cons_of_mem _ hm) r1 r2 (by rw [hb] at r3; exact r3) r4

/-! ### what the region is like -/
structure Dr (P : Program) (ops : Array Oper) (b : Array Nat) : Prop where
  mixed : P.follows .mixedOrders = true
  back : ∀ (j : Nat) (o : Oper), ops[j]? = some o → ∀ e ∈ o.after.toList, Region.binds .any e = true → e.on < j
  slot : ∀ (j : Nat) (o : Oper), ops[j]? = some o → opRead P o.op = true → ∃ d, o.dst = some d
  seen : ∀ (i j : Nat) (oi o : Oper) (d : Tmp), ops[i]? = some oi → ops[j]? = some o → oi.dst = some d → d ∈ looks ops o → (b.getD j 0).testBit i = true ∨ (opRead P o.op = false ∧ j < i ∧ (b.getD i 0).testBit j = true)
  wr : ∀ (i j : Nat) (oi o : Oper), ops[i]? = some oi → ops[j]? = some o → i < j → opWrite P o.op = true → opWrite P oi.op = true → (b.getD j 0).testBit i = true
  one : ∀ (i j : Nat) (oi o : Oper) (d : Tmp), ops[i]? = some oi → ops[j]? = some o → i < j → oi.dst = some d → o.dst ≠ some d

theorem mem_zip {ops : Array Oper} {j : Nat} {o : Oper} (h : ops[j]? = some o) : (o, j) ∈ ops.toList.zipIdx := by
  rw [List.mem_zipIdx_iff_getElem?]; simpa using h
theorem mem_rows {j : Nat} {o : Oper} (h : ops[j]? = some o) : (rowOf P ops o, j) ∈ (ops.toList.map (rowOf P ops)).zipIdx := by
  rw [List.mem_zipIdx_iff_getElem?]; simp [h]

theorem dr_of (h : drawOk P ops (ops.toList.map (rowOf P ops)) (Region.before ops).toList = true) : Dr P ops (Region.before ops) := by
  unfold drawOk at h
  rw [Bool.and_eq_true, Bool.and_eq_true] at h
  obtain ⟨⟨hm, he⟩, h⟩ := h
  have h1 := fun (j : Nat) (o : Oper) (ho : ops[j]? = some o) => List.all_eq_true.1 h (rowOf P ops o, j) (mem_rows ho)
  simp only [Bool.and_eq_true] at h1
  have bit : ∀ j i, ((Region.before ops).toList.getD j 0).testBit i = ((Region.before ops).getD j 0).testBit i := fun j i => by simp
  have kr : ∀ o : Oper, opRead P o.op = true → (rowOf P ops o).2.2 = 1 := fun o hr => by
    have hp : opPure P o.op = false := by
      cases hop : o.op <;> rw [hop] at hr <;> simp only [opRead, Bool.false_eq_true] at hr <;> simp only [opPure]
      · split at hr
        · rename_i h1 h2; rw [h1, h2]
        · cases hr
      · split at hr
        · rename_i hc
          rw [hc]
          simp only
          split at hr
          · rename_i hu; rw [hu]
          · cases hr
        · cases hr
    simp [rowOf, hp, hr]
  have kw : ∀ o : Oper, opWrite P o.op = true → (rowOf P ops o).2.2 = 2 := fun o hw => by
    unfold opWrite at hw
    rw [Bool.and_eq_true] at hw
    simp only [Bool.not_eq_true'] at hw
    simp [rowOf, hw.1, hw.2]
  have kd : ∀ (o : Oper) d, o.dst = some d → (rowOf P ops o).1 = d + 1 := fun o d hd => by simp [rowOf, hd]
  refine ⟨hm, fun j o ho e hem hb => ?_, fun j o ho hr => ?_, fun i j oi o d hi hj hd hl => ?_, fun i j oi o hi hj hij hw hwi => ?_, fun i j oi o d hi hj hij hd => ?_⟩
  · have := List.all_eq_true.1 (List.all_eq_true.1 he (o, j) (mem_zip ho)) e hem
    rw [hb] at this
    simpa using this
  · have := (h1 j o ho).1
    simp only [kr o hr] at this
    cases hd : o.dst with
    | none => simp [rowOf, hd] at this
    | some d => exact ⟨d, rfl⟩
  · have := List.all_eq_true.1 (h1 j o hj).2 (rowOf P ops oi, i) (mem_rows hi)
    rw [Bool.and_eq_true] at this
    have := this.1
    simp only [kd oi d hd, bit] at this
    rw [Bool.or_eq_true, Bool.or_eq_true, Bool.or_eq_true] at this
    rcases this with ((h2 | h2) | h2) | h2
    · simp at h2
    · have hex : ((rowOf P ops o).2.1.any fun t => Nat.beq (t + 1) (d + 1)) = true := List.any_eq_true.2 ⟨d, hl, by simp⟩
      rw [hex] at h2; cases h2
    · exact .inl h2
    · rw [Bool.and_eq_true, Bool.and_eq_true] at h2
      refine .inr ⟨?_, by simpa using h2.1.2, h2.2⟩
      cases hr : opRead P o.op
      · rfl
      · rw [kr o hr] at h2; simp at h2
  · have := List.all_eq_true.1 (h1 j o hj).2 (rowOf P ops oi, i) (mem_rows hi)
    rw [Bool.and_eq_true] at this
    have := this.2
    have hb : Nat.blt i j = true := by simpa using hij
    simp only [hb, kw o hw, kw oi hwi, bit, Bool.not_true, Bool.false_or, Bool.and_eq_true] at this
    have := this.1
    simpa using this
  · have := List.all_eq_true.1 (h1 j o hj).2 (rowOf P ops oi, i) (mem_rows hi)
    rw [Bool.and_eq_true] at this
    have := this.2
    have hb : Nat.blt i j = true := by simpa using hij
    simp only [hb, Bool.not_true, Bool.false_or, Bool.and_eq_true] at this
    intro hd2
    have := this.2
    simp only [kd o d hd2, kd oi d hd] at this
    simp at this

theorem anc_lt (D : Dr P ops (Region.before ops)) : ∀ j i, ((Region.before ops).getD j 0).testBit i = true → i < j := by
  intro j
  induction j using Nat.strongRecOn with
  | _ j ih =>
    intro i h
    obtain ⟨o, ho, e, he, hb, h1 | ⟨h1, h2⟩⟩ := before_spec ops h
    · have := D.back j o ho e he hb; omega
    · have := ih e.on h1 i h2; omega

theorem anc_in (_D : Dr P ops (Region.before ops)) {L : Nat → Prop} (hcl : ∀ (j : Nat) (o : Oper), ops[j]? = some o → L j → ∀ e ∈ o.after.toList, Region.binds .any e = true → L e.on) : ∀ j i, ((∀ o, ops[j]? = some o → ∀ e ∈ o.after.toList, Region.binds .any e = true → L e.on)) →
    ((Region.before ops).getD j 0).testBit i = true → L i := by
  intro j
  induction j using Nat.strongRecOn with
  | _ j ih =>
    intro i hj h
    obtain ⟨o, ho, e, he, hb, h1 | ⟨h1, h2⟩⟩ := before_spec ops h
    · rw [← h1]; exact hj o ho e he hb
    · exact ih e.on h1 i (fun o' ho' => hcl e.on o' ho' (hj o ho e he hb)) h2

/-! ### the walk -/
section
variable {v : Nat → AV} {st : Nat → Store} {fr : Nat → Fr}

theorem tr_get {H : List (Nat × Oper × Store)} (T : Tr P call nt ops (Region.before ops) 0 ops.size ops.toList H v st fr) (j : Nat) (o : Oper) (h : ops[j]? = some o) :
    stepA P call ops (fr j) o (st j) = some (v j, st (j + 1)) ∧ (∀ t, fr (j + 1) t = if o.dst = some t then v j else fr j t) ∧ ∀ d, o.dst = some d → d < nt := by
  have h' : ops.toList[j]? = some o := by simpa using h
  have h1 := T.step j o h'
  have h2 := T.put j o h'
  simp only [Nat.zero_add] at h1 h2
  exact ⟨h1, h2.1, h2.2⟩

/-- Stores between which nothing is written. -/
theorem st_same {H : List (Nat × Oper × Store)} (T : Tr P call nt ops (Region.before ops) 0 ops.size ops.toList H v st fr) (i : Nat) : ∀ d, i + d ≤ ops.size → (∀ (j : Nat) (o : Oper), i ≤ j → j < i + d → ops[j]? = some o → opWrite P o.op = false) → st (i + d) = st i
  | 0, _, _ => rfl
  | d + 1, hd, hn => by
    have ho : ops[i + d]? = some (ops[i + d]'(by omega)) := Array.getElem?_eq_getElem (by omega)
    have h1 := (tr_get T (i + d) _ ho).1
    have h2 := stepA_keeps (hn (i + d) _ (by omega) (by omega) ho) h1
    rw [show i + (d + 1) = i + d + 1 by omega, h2]
    exact st_same T i d (by omega) (fun j o h1 h2 h3 => hn j o h1 (by omega) h3)

theorem st_same' {H : List (Nat × Oper × Store)} (T : Tr P call nt ops (Region.before ops) 0 ops.size ops.toList H v st fr) {i m : Nat} (him : i ≤ m) (hm : m ≤ ops.size) (hn : ∀ (j : Nat) (o : Oper), i ≤ j → j < m → ops[j]? = some o → opWrite P o.op = false) : st m = st i := by
  have := st_same T i (m - i) (by omega) (fun j o h1 h2 h3 => hn j o h1 (by omega) h3)
  rwa [show i + (m - i) = m by omega] at this

/-- What the text's frames hold. -/
theorem fr_new {H : List (Nat × Oper × Store)} (D : Dr P ops (Region.before ops)) (T : Tr P call nt ops (Region.before ops) 0 ops.size ops.toList H v st fr) (i : Nat) (oi : Oper) (t : Tmp) (hi : ops[i]? = some oi) (hd : oi.dst = some t) : ∀ d, i + 1 + d ≤ ops.size → fr (i + 1 + d) t = v i
  | 0, _ => by rw [(tr_get T i oi hi).2.1, if_pos hd]
  | d + 1, hl => by
    have ho : ops[i + 1 + d]? = some (ops[i + 1 + d]'(by omega)) := Array.getElem?_eq_getElem (by omega)
    rw [show i + 1 + (d + 1) = i + 1 + d + 1 by omega, (tr_get T _ _ ho).2.1, if_neg (D.one i (i + 1 + d) oi _ t hi ho (by omega) hd)]
    exact fr_new D T i oi t hi hd d (by omega)
theorem fr_old {H : List (Nat × Oper × Store)} (T : Tr P call nt ops (Region.before ops) 0 ops.size ops.toList H v st fr) (t : Tmp) : ∀ j, j ≤ ops.size → (∀ (i : Nat) (oi : Oper), i < j → ops[i]? = some oi → oi.dst ≠ some t) → fr j t = fr 0 t
  | 0, _, _ => rfl
  | j + 1, hl, hn => by
    have ho : ops[j]? = some (ops[j]'(by omega)) := Array.getElem?_eq_getElem (by omega)
    rw [(tr_get T j _ ho).2.1, if_neg (hn j _ (by omega) ho)]
    exact fr_old T t j (by omega) (fun i oi h1 h2 => hn i oi (by omega) h2)

theorem lt_of_get {j : Nat} {o : Oper} (h : ops[j]? = some o) : j < ops.size := (Array.getElem?_eq_some_iff.1 h).1

/-- What an operation looks at is what it is in any frame of the text in which all that it waits for stands. -/
theorem looks_text {H : List (Nat × Oper × Store)} (D : Dr P ops (Region.before ops)) (T : Tr P call nt ops (Region.before ops) 0 ops.size ops.toList H v st fr) {j q : Nat} {o : Oper} (ho : ops[j]? = some o) (hr : opRead P o.op = true) (hq : j ≤ q) (hqn : q ≤ ops.size) : ∀ t ∈ looks ops o, fr q t = fr j t := by
  intro t ht
  by_cases hx : ∃ (i : Nat) (oi : Oper), ops[i]? = some oi ∧ oi.dst = some t
  · obtain ⟨i, oi, hi, hd⟩ := hx
    have hij := anc_lt D j i ((D.seen i j oi o t hi ho hd ht).resolve_right (fun h => by rw [hr] at h; cases h.1))
    have h1 := fr_new D T i oi t hi hd (q - (i + 1)) (by omega)
    have h2 := fr_new D T i oi t hi hd (j - (i + 1)) (by have := lt_of_get ho; omega)
    rw [show i + 1 + (q - (i + 1)) = q by omega] at h1
    rw [show i + 1 + (j - (i + 1)) = j by omega] at h2
    rw [h1, h2]
  · have hno : ∀ (i : Nat) (oi : Oper), ops[i]? = some oi → oi.dst ≠ some t := fun i oi h1 h2 => hx ⟨i, oi, h1, h2⟩
    rw [fr_old T t q hqn (fun i oi _ h => hno i oi h), fr_old T t j (by have := lt_of_get ho; omega) (fun i oi _ h => hno i oi h)]

/-- What is told of a state within a region whose order is drawn. -/
structure Mid (P : Program) (B : Nat) (w0 : World) (nt : Nat) (ops : Array Oper) (v : Nat → AV) (st : Nat → Store) (fr : Nat → Fr) (ι0 : Nat → Loc) (s0 : Store) (w1 : World) (L : Nat → Prop) (a : Act) (w : World) (ι : Nat → Loc) (m : Nat) (frD : Fr) : Prop where
  le : m ≤ ops.size
  wr : ∀ (i : Nat) (o : Oper), ops[i]? = some o → opWrite P o.op = true → (L i ↔ i < m)
  new : ∀ (i : Nat) (o : Oper) (t : Tmp), ops[i]? = some o → o.dst = some t → L i → frD t = v i
  old : ∀ t, (∀ (i : Nat) (o : Oper), ops[i]? = some o → o.dst = some t → ¬ L i) → frD t = fr 0 t
  frm : FR nt ι (st m) w frD a
  wrl : WR B w0 ι (st m) w
  lat : Later ι0 s0 w1 ι (st m) w

theorem greatest {p : Nat → Prop} {m : Nat} (h : ∃ i, i < m ∧ p i) : ∃ i, i < m ∧ p i ∧ ∀ j, i < j → j < m → ¬ p j := by
  obtain ⟨i, hi, hp⟩ := h
  obtain ⟨d, ⟨k, k1, k2, k3⟩, hmin⟩ := exists_least (p := fun d => ∃ k, k < m ∧ p k ∧ m - k = d) ⟨m - i, i, hi, hp, rfl⟩
  refine ⟨k, k1, k2, fun j h1 h2 h3 => ?_⟩
  have := hmin (m - j) ⟨j, h2, h3, rfl⟩
  omega

variable {ι0 : Nat → Loc} {s0 : Store} {w1 : World}

/-- One operation that may be next. -/
theorem mid_step (hB : Bodied P call) (hC : CallOk P B w0 call) (D : Dr P ops (Region.before ops)) (T : Tr P call nt ops (Region.before ops) 0 ops.size ops.toList [] v st fr) {L : Nat → Prop} (hcl : ∀ (j : Nat) (o : Oper), ops[j]? = some o → L j → ∀ e ∈ o.after.toList, Region.binds .any e = true → L e.on)
    {a : Act} {w : World} {ι : Nat → Loc} {m : Nat} {frD : Fr} (M : Mid P B w0 nt ops v st fr ι0 s0 w1 L a w ι m frD) {j : Nat} {o : Oper} (ho : ops[j]? = some o) (hnl : ¬ L j) (hrd : ∀ e ∈ o.after.toList, Region.binds .any e = true → L e.on)
    {Q : Exit → Act → World → Prop} {K : Act → World → Prop} (hK : ∀ a' w' ι' m' frD', Mid P B w0 nt ops v st fr ι0 s0 w1 (fun i => i = j ∨ L i) a' w' ι' m' frD' → K a' w') : wpOp P ops Q j K a w := by
  have hjn := lt_of_get ho
  have anc : ∀ i, ((Region.before ops).getD j 0).testBit i = true → L i := fun i hi => anc_in D hcl j i (fun o' ho' => by rw [ho] at ho'; rw [← Option.some.inj ho']; exact hrd) hi
  have ancL : ∀ q, L q → ∀ i, ((Region.before ops).getD q 0).testBit i = true → L i := fun q hq i hi => anc_in D hcl q i (fun o' ho' => hcl q o' ho' hq) hi
  have hlook : ∀ t ∈ looks ops o, frD t = fr j t := by
    intro t ht
    by_cases hx : ∃ (i : Nat) (oi : Oper), ops[i]? = some oi ∧ oi.dst = some t
    · obtain ⟨i, oi, hi, hd⟩ := hx
      rcases D.seen i j oi o t hi ho hd ht with hb | ⟨_, hji, hb⟩
      · have hij := anc_lt D j i hb
        have h2 := fr_new D T i oi t hi hd (j - (i + 1)) (by omega)
        rw [show i + 1 + (j - (i + 1)) = j by omega] at h2
        rw [M.new i oi t hi hd (anc i hb), h2]
      · have only : ∀ (q : Nat) (oq : Oper), ops[q]? = some oq → oq.dst = some t → q = i := fun q oq h1 h2 => by
          rcases Nat.lt_trichotomy q i with h3 | h3 | h3
          · exact absurd hd (D.one q i oq oi t h1 hi h3 h2)
          · exact h3
          · exact absurd h2 (D.one i q oi oq t hi h1 h3 hd)
        rw [M.old t (fun q oq h1 h2 h3 => by
          have := only q oq h1 h2
          subst this
          exact hnl (ancL q h3 j hb)), fr_old T t j (by omega) (fun q oq h0 h1 h2 => by have := only q oq h1 h2; omega)]
    · have hno : ∀ (i : Nat) (oi : Oper), ops[i]? = some oi → oi.dst ≠ some t := fun i oi h1 h2 => hx ⟨i, oi, h1, h2⟩
      rw [M.old t (fun i oi h1 h2 => absurd h2 (hno i oi h1)), fr_old T t j (by omega) (fun i oi _ h => hno i oi h)]
  have hstep : ∀ s, stepA P call ops frD o s = stepA P call ops (fr j) o s := fun s => stepA_congr hlook s
  obtain ⟨t1, t2, t3⟩ := tr_get T j o ho
  -- what the operation comes to here
  have hval : ∃ m', (m' = m ∧ opWrite P o.op = false ∨ m' = j + 1 ∧ opWrite P o.op = true ∧ st m = st j) ∧ stepA P call ops frD o (st m) = some (v j, st m') := by
    cases hw : opWrite P o.op
    · refine ⟨m, .inl ⟨rfl, rfl⟩, ?_⟩
      rw [hstep]
      cases hp : opPure P o.op
      · have hr : opRead P o.op = true := by
          unfold opWrite at hw; rw [hp] at hw; simpa using hw
        have fin : ∀ s s', stepA P call ops (fr j) o s = some (v j, s') → stepA P call ops (fr j) o s = some (v j, s) := fun s s' h => by rw [h, stepA_read hr h]
        have same : st m = st j → stepA P call ops (fr j) o (st m) = some (v j, st m) := fun e => by rw [e]; exact fin _ _ t1
        rcases Nat.lt_or_ge m j with hmj | hmj
        · by_cases hx : ∃ i, m ≤ i ∧ i < j ∧ ∃ oi, ops[i]? = some oi ∧ opWrite P oi.op = true
          · obtain ⟨i, ⟨g1, g2, oi, g3, g4⟩, hmin⟩ := exists_least hx
            have e : st i = st m := st_same' T g1 (by omega) (fun q oq q1 q2 q3 => by
              cases h : opWrite P oq.op
              · rfl
              · have := hmin q ⟨q1, by omega, oq, q3, h⟩; omega)
            have hbit : ((Region.before ops).getD j 0).testBit i = false := by
              cases h : ((Region.before ops).getD j 0).testBit i
              · rfl
              · have := (M.wr i oi g3 g4).1 (anc i h); omega
            obtain ⟨s', h⟩ := T.chkR i j oi o g2 (by simpa using g3) (by simpa using ho) hr g4 (by simpa using hbit)
            simp only [Nat.zero_add] at h
            rw [← e]; exact fin _ _ h
          · exact same (st_same' T (Nat.le_of_lt hmj) (by omega) (fun q oq q1 q2 q3 => by
              cases h : opWrite P oq.op
              · rfl
              · exact absurd ⟨q, q1, q2, oq, q3, h⟩ hx)).symm
        · by_cases hx : ∃ i, i < m ∧ (j ≤ i ∧ ∃ oi, ops[i]? = some oi ∧ opWrite P oi.op = true)
          · obtain ⟨i, g2, ⟨g1, oi, g3, g4⟩, hmax⟩ := greatest hx
            have hin := lt_of_get g3
            have hne : j ≠ i := fun e => by subst e; rw [ho] at g3; rw [Option.some.inj g3, g4] at hw; cases hw
            have hij : j < i := by omega
            have hLi := (M.wr i oi g3 g4).2 g2
            have hbit : ((Region.before ops).getD i 0).testBit j = false := by
              cases h : ((Region.before ops).getD i 0).testBit j
              · rfl
              · exact absurd (ancL i hLi j h) hnl
            obtain ⟨d, hd⟩ := D.slot j o ho hr
            obtain ⟨s', h⟩ := T.chkW j i o oi d hij (by simpa using ho) (by simpa using g3) g4 hr (by simpa using hbit) hd
            simp only [Nat.zero_add] at h
            have e : st m = st (i + 1) := st_same' T (by omega) M.le (fun q oq q1 q2 q3 => by
              cases h : opWrite P oq.op
              · rfl
              · exact absurd ⟨by omega, oq, q3, h⟩ (hmax q (by omega) q2))
            have hfd := fr_new D T j o d ho hd (i - (j + 1)) (by omega)
            rw [show j + 1 + (i - (j + 1)) = i by omega] at hfd
            rw [hfd, stepA_congr (looks_text D T ho hr (Nat.le_of_lt hij) (Nat.le_of_lt hin))] at h
            rw [e]; exact fin _ _ h
          · exact same (st_same' T hmj M.le (fun q oq q1 q2 q3 => by
              cases h : opWrite P oq.op
              · rfl
              · exact absurd ⟨q, q2, q1, oq, q3, h⟩ hx))
      · exact (stepA_pure hp t1).2 _
    · have e : st m = st j := by
        rcases Nat.lt_or_ge m j with hmj | hmj
        · exact (st_same' T (Nat.le_of_lt hmj) (by omega) (fun q oq q1 q2 q3 => by
            cases h : opWrite P oq.op
            · rfl
            · have := (M.wr q oq q3 h).1 (anc q (D.wr q j oq o q3 ho q2 hw h)); omega)).symm
        · exact st_same' T hmj M.le (fun q oq q1 q2 q3 => by
            cases h : opWrite P oq.op
            · rfl
            · have hLq := (M.wr q oq q3 h).2 q2
              rcases Nat.lt_or_ge j q with hjq | hjq
              · exact absurd (ancL q hLq j (D.wr j q o oq ho q3 hjq h hw)) hnl
              · have : q = j := by omega
                subst this; exact absurd hLq hnl)
      exact ⟨j + 1, .inr ⟨rfl, rfl, e⟩, by rw [hstep, e]; exact t1⟩
  obtain ⟨m', hm', hval⟩ := hval
  have go : ∀ v' w' ι', VR ι' (st m') w' (v j) v' → WR B w0 ι' (st m') w' → Later ι (st m) w ι' (st m') w' → K (a.put o.dst v') w' := by
    intro v' w' ι' hv hW hL
    have hF := M.frm.later hL
    have hput : aPut nt o.dst (v j) frD some = some (fun t => if o.dst = some t then v j else frD t) := by
      unfold aPut
      cases hd : o.dst with
      | none => simp
      | some d =>
        simp only
        rw [if_pos (t3 d hd)]
        congr 1
        funext t
        unfold upd
        by_cases e : t = d
        · rw [if_pos e, if_pos (by rw [e])]
        · rw [if_neg e, if_neg (fun q => e (Option.some.inj q).symm)]
    obtain ⟨fr', k1, k2, k3⟩ := hF.put hv hput
    refine hK _ _ ι' m' fr' ⟨?_, ?_, ?_, ?_, k2, hW, M.lat.trans hL⟩
    · rcases hm' with ⟨rfl, _⟩ | ⟨rfl, _⟩
      · exact M.le
      · omega
    · intro i oi hi hwi
      rcases hm' with ⟨rfl, hwj⟩ | ⟨rfl, hwj, _⟩
      · have hne : i ≠ j := fun e => by subst e; rw [ho] at hi; rw [Option.some.inj hi, hwi] at hwj; cases hwj
        rw [← M.wr i oi hi hwi]
        exact ⟨fun h => h.resolve_left hne, .inr⟩
      · constructor
        · rintro (rfl | h)
          · omega
          · rcases Nat.lt_or_ge j i with hji | hji
            · exact absurd (ancL i h j (D.wr j i o oi ho hi hji hwi hwj)) hnl
            · omega
        · intro h
          rcases Nat.lt_or_ge i j with hij | hij
          · exact .inr (anc i (D.wr i j oi o hi ho hij hwj hwi))
          · exact .inl (by omega)
    · intro i oi t hi hd hLi
      rw [k3]
      by_cases e : i = j
      · subst e; rw [ho] at hi; rw [Option.some.inj hi, if_pos hd]
      · rw [if_neg]
        · exact M.new i oi t hi hd (hLi.resolve_left e)
        · intro hd2
          rcases Nat.lt_or_ge i j with hij | hij
          · exact D.one i j oi o t hi ho hij hd hd2
          · exact D.one j i o oi t ho hi (by omega) hd2 hd
    · intro t hn
      rw [k3, if_neg (fun hd => hn j o ho hd (.inl rfl))]
      exact M.old t (fun i oi h1 h2 h3 => hn i oi h1 h2 (.inr h3))
  unfold wpOp
  simp only [ho]
  unfold stepA at hval
  cases hg : o.guard with
  | none =>
    rw [hg] at hval
    rw [if_pos (by simp [Region.wanted, hg])]
    exact .inl (op_run hB hC hval M.frm M.wrl fun v2 s2 v' w' ι' k1 k2 k3 k4 => by
      obtain ⟨rfl, rfl⟩ := Prod.mk.inj (Option.some.inj k1)
      exact go v' w' ι' k2 k3 k4)
  | some jw =>
    obtain ⟨q, want⟩ := jw
    rw [hg] at hval
    simp only at hval
    split at hval
    · cases hval
    · rename_i t ht
      rcases guard_of hg ht M.frm hval with ⟨hw, hx⟩ | ⟨hw, hy⟩
      · rw [if_pos hw]
        exact .inl (op_run hB hC hx M.frm M.wrl fun v2 s2 v' w' ι' k1 k2 k3 k4 => by
          obtain ⟨rfl, rfl⟩ := Prod.mk.inj (Option.some.inj k1)
          exact go v' w' ι' k2 k3 k4)
      · rw [if_neg (by rw [hw]; simp)]
        obtain ⟨e1, e2⟩ := Prod.mk.inj (Option.some.inj hy)
        refine go _ _ ι ?_ ?_ ?_
        · rw [← e1]; exact VR.undef _ _ _
        · rw [← e2]; exact M.wrl
        · rw [← e2]; exact Later.refl _ _ _

theorem draw_walk (hB : Bodied P call) (hC : CallOk P B w0 call) (D : Dr P ops (Region.before ops)) (T : Tr P call nt ops (Region.before ops) 0 ops.size ops.toList [] v st fr) {κ : Fr → Store → Option α} (hκ : κ (fr ops.size) (st ops.size) = some r) {Q : Exit → Act → World → Prop}
    (hQ : ∀ fr s a w, St P B w0 nt ι0 s0 w1 fr s a w → κ fr s = some r → Q .normal a w) : ∀ (fuel : Nat) (U : List Nat) (listed : Array Bool) (a : Act) (w : World) (ι : Nat → Loc) (m : Nat) (frD : Fr), listed.size = ops.size → U.length ≤ fuel → (∀ i, i < ops.size → listed.getD i false = false → i ∈ U) →
    (∀ (j : Nat) (o : Oper), ops[j]? = some o → listed.getD j false = true → ∀ e ∈ o.after.toList, Region.binds .any e = true → listed.getD e.on false = true) → Mid P B w0 nt ops v st fr ι0 s0 w1 (fun i => listed.getD i false = true) a w ι m frD → wpAny P .any ops Q fuel listed a w := by
  -- where all has been done
  have done : ∀ (listed : Array Bool) (a : Act) (w : World) (ι : Nat → Loc) (m : Nat) (frD : Fr), (∀ i, i < ops.size → listed.getD i false = true) → Mid P B w0 nt ops v st fr ι0 s0 w1 (fun i => listed.getD i false = true) a w ι m frD → Q .normal a w := by
    intro listed a w ι m frD hall M
    have e1 : st ops.size = st m := st_same' T M.le (Nat.le_refl _) (fun q oq q1 q2 q3 => by
      cases h : opWrite P oq.op
      · rfl
      · have := (M.wr q oq q3 h).1 (hall q (lt_of_get q3)); omega)
    have e2 : frD = fr ops.size := by
      funext t
      by_cases hx : ∃ (i : Nat) (oi : Oper), ops[i]? = some oi ∧ oi.dst = some t
      · obtain ⟨i, oi, hi, hd⟩ := hx
        have hin := lt_of_get hi
        have h2 := fr_new D T i oi t hi hd (ops.size - (i + 1)) (by omega)
        rw [show i + 1 + (ops.size - (i + 1)) = ops.size by omega] at h2
        rw [M.new i oi t hi hd (hall i hin), h2]
      · have hno : ∀ (i : Nat) (oi : Oper), ops[i]? = some oi → oi.dst ≠ some t := fun i oi h1 h2 => hx ⟨i, oi, h1, h2⟩
        rw [M.old t (fun i oi h1 h2 => absurd h2 (hno i oi h1)), fr_old T t ops.size (Nat.le_refl _) (fun i oi _ h => hno i oi h)]
    refine hQ (fr ops.size) (st ops.size) a w ⟨ι, ?_, ?_, ?_⟩ hκ
    · rw [e1, ← e2]; exact M.frm
    · rw [e1]; exact M.wrl
    · rw [e1]; exact M.lat
  have getT : ∀ (listed : Array Bool) i, listed.size = ops.size → i < ops.size → listed.getD i true = listed.getD i false := by
    intro listed i hs hi
    simp [show i < listed.size by omega]
  have full : ∀ (listed : Array Bool), listed.size = ops.size → Region.ready .any ops listed = [] → ∀ i, i < ops.size → listed.getD i false = true := by
    intro listed hs hr i
    induction i using Nat.strongRecOn with
    | _ i ih =>
      intro hi
      cases h : listed.getD i false
      · have ho : ops[i]? = some (ops[i]'hi) := Array.getElem?_eq_getElem hi
        have : i ∈ Region.ready .any ops listed := mem_ready.2 ⟨by rw [getT listed i hs hi]; exact h, _, ho, fun e he hb => by
          have := D.back i _ ho e (by simpa using he) hb
          exact ih e.on this (by omega)⟩
        rw [hr] at this
        cases this
      · rfl
  intro fuel
  induction fuel with
  | zero =>
    intro U listed a w ι m frD hs hU hcov hcl M
    have hall : ∀ i, i < ops.size → listed.getD i false = true := by
      intro i hi
      cases h : listed.getD i false
      · have := hcov i hi h
        have : U = [] := List.length_eq_zero_iff.1 (by omega)
        simp_all
      · rfl
    refine ⟨?_, done listed a w ι m frD hall M⟩
    cases hr : Region.ready .any ops listed with
    | nil => rfl
    | cons x xs =>
      have : x ∈ Region.ready .any ops listed := by rw [hr]; exact List.mem_cons_self
      obtain ⟨h1, o, ho, _⟩ := mem_ready.1 this
      rw [getT listed x hs (lt_of_get ho), hall x (lt_of_get ho)] at h1
      cases h1
  | succ fuel ih =>
    intro U listed a w ι m frD hs hU hcov hcl M
    refine ⟨fun hr => done listed a w ι m frD (full listed hs hr) M, fun j hj => ?_⟩
    obtain ⟨h1, o, ho, h2⟩ := mem_ready.1 hj
    have hjn := lt_of_get ho
    rw [getT listed j hs hjn] at h1
    have hset : ∀ i, (listed.setIfInBounds j true).getD i false = true ↔ i = j ∨ listed.getD i false = true := by
      intro i
      by_cases e : i = j
      · subst e; simp [show i < listed.size by omega]
      · simp [e, Array.getElem?_setIfInBounds_ne (Ne.symm e)]
    refine mid_step hB hC D T hcl M ho (by rw [h1]; simp) (fun e he hb => h2 e (by simpa using he) hb) (fun a' w' ι' m' frD' M' => ?_)
    have hmem := hcov j hjn h1
    refine ih (U.erase j) (listed.setIfInBounds j true) a' w' ι' m' frD' (by simpa using hs) (by rw [List.length_erase_of_mem hmem]; omega) (fun i hi hf => ?_) (fun i oi hi hl e he hb => ?_) ?_
    · have hne : i ≠ j := fun e => by
        have := (hset i).2 (.inl e)
        rw [this] at hf; cases hf
      have hf2 : listed.getD i false = false := by
        cases h : listed.getD i false
        · rfl
        · have := (hset i).2 (.inr h); rw [this] at hf; cases hf
      exact (List.mem_erase_of_ne hne).2 (hcov i hi hf2)
    · rcases (hset i).1 hl with rfl | hl
      · rw [ho] at hi
        rw [← Option.some.inj hi] at he
        exact (hset _).2 (.inr (h2 e (by simpa using he) hb))
      · exact (hset _).2 (.inr (hcl i oi hi hl e he hb))
    · have : (fun i => (listed.setIfInBounds j true).getD i false = true) = fun i => i = j ∨ listed.getD i false = true := funext fun i => propext (hset i)
      rw [this]; exact M'

theorem draw_sound (hB : Bodied P call) (hC : CallOk P B w0 call) : DrawSound P call B w0 := by
  intro α r nt ι0 s0 w1 ops κ Q id hok hQ fr0 s a w hS h
  have D := dr_of hok
  obtain ⟨v, st, fr, e1, e2, e3, T⟩ := trace ops.toList 0 [] fr0 s h
  simp only [Nat.zero_add, Array.length_toList] at e3 T
  refine wp_region_any D.mixed ?_
  obtain ⟨ι, hF, hW, hL⟩ := hS
  obtain ⟨hW', hL'⟩ := hW.draw (w' := { w with drawn := w.drawn + 1 }) rfl rfl rfl rfl
  refine draw_walk hB hC D T e3 hQ ops.size (List.range ops.size) _ a _ ι 0 fr0 (by simp) (by simp) (fun i hi _ => List.mem_range.2 hi) (fun j o ho hl => ?_) ⟨Nat.zero_le _, fun i o hi _ => ?_, fun i o t hi hd hl => ?_, fun t _ => by rw [e2], ?_, ?_, ?_⟩
  · have := lt_of_get ho
    simp [this] at hl
  · have := lt_of_get hi
    simp [this]
  · have := lt_of_get hi
    simp [this] at hl
  · rw [e1]; exact hF.later hL'
  · rw [e1]; exact hW'
  · rw [e1]; exact hL.trans hL'

end
end
end Go.Proofs.YtjbgdpfkmcibbaaGreatDoor.Sim
