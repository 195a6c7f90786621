/- The abstract machine is sound: regions whose order is drawn, in which new rows are made without an order: any order. Then the whole. No condition. -/
import Derived.Test.YtjbgdpfkmcibbaaGreatDoorSimZa
namespace Go.Proofs.YtjbgdpfkmcibbaaGreatDoor.Sim
open Go.RowKit (Below)
set_option linter.unusedSimpArgs false
set_option linter.unusedVariables false
section
variable {P : Program} {call : CallA} {B : Nat} {w0 : World} {ι : Nat → Loc} {s : Store} {w : World} {α : Type} {r : α} {nt : Nat} {ops : Array Oper} {n0 : Nat}

/-- The store of a state in which the operations of L have been done, the writers among them those ahead of m. -/
noncomputable def SQ (ops : Array Oper) (n0 : Nat) (st : Nat → Store) (L : Nat → Prop) (m : Nat) : Store := open Classical in
  ⟨(st m).next, fun l => if ∃ i, allocAt ops i = true ∧ l = n0 + i then (if L (l - n0) then (st (max m (l - n0 + 1))).get l else .none) else (st m).get l⟩

section
variable {v : Nat → AV} {st : Nat → Store} {fr : Nat → Fr} {b : Array Nat} {L : Nat → Prop} {m : Nat}
theorem SQ_in {i : Nat} (h : allocAt ops i = true) (hL : L i) : (SQ ops n0 st L m).get (n0 + i) = (st (max m (i + 1))).get (n0 + i) := by
  unfold SQ
  simp only
  rw [if_pos ⟨i, h, rfl⟩, show n0 + i - n0 = i by omega, if_pos hL]
theorem SQ_out {i : Nat} (h : allocAt ops i = true) (hL : ¬ L i) : (SQ ops n0 st L m).get (n0 + i) = .none := by
  unfold SQ
  simp only
  rw [if_pos ⟨i, h, rfl⟩, show n0 + i - n0 = i by omega, if_neg hL]
theorem SQ_off {l : Nat} (h : ∀ i, allocAt ops i = true → l ≠ n0 + i) : (SQ ops n0 st L m).get l = (st m).get l := by
  unfold SQ
  simp only
  rw [if_neg (fun ⟨i, h1, h2⟩ => h i h1 h2)]
theorem store_ext {s s' : Store} (h1 : s.next = s'.next) (h2 : ∀ l, s.get l = s'.get l) : s = s' := by
  cases s; cases s'
  simp only at h1 h2
  subst h1
  congr 1
  funext l; exact h2 l

def NoW (P : Program) (ops : Array Oper) (x y : Nat) : Prop := ∀ (j : Nat) (o : Oper), x ≤ j → j < y → ops[j]? = some o → opW2 P o.op = false

theorem same_x (T : TrQ P call nt ops b n0 0 ops.toList [] v st fr) {x y : Nat} (hx : x ≤ ops.size) (hy : y ≤ ops.size) (h1 : NoW P ops x y) (h2 : NoW P ops y x) : (st y).next = (st x).next ∧ ∀ l, (∀ j, (x ≤ j ∨ y ≤ j) → allocAt ops j = true → l ≠ n0 + j) → (st y).get l = (st x).get l := by
  rcases Nat.le_total x y with h | h
  · obtain ⟨k1, k2⟩ := keep' T h hy h1
    exact ⟨k1, fun l hl => k2 l fun j g1 g2 => hl j (.inl g1)⟩
  · obtain ⟨k1, k2⟩ := keep' T h hx h2
    exact ⟨k1.symm, fun l hl => (k2 l fun j g1 g2 => hl j (.inr g1)).symm⟩

/-- Without what an operation doesn't need a state's store is the text's own. -/
theorem cmp (T : TrQ P call nt ops b n0 0 ops.toList [] v st fr) {x j : Nat} (hx : x ≤ ops.size) (hm : m ≤ ops.size) (h1 : NoW P ops x m) (h2 : NoW P ops m x) (hanc : ∀ i, (b.getD j 0).testBit i = true → L i) :
    addT (HX ops b n0 j x) (fun _ => .none) (SQ ops n0 st L m) = addT (HX ops b n0 j x) (fun _ => .none) (st x) := by
  obtain ⟨k1, k2⟩ := same_x T hx hm h1 h2
  refine store_ext k1 fun l => ?_
  by_cases h : HX ops b n0 j x l
  · rw [addT_hid h, addT_hid h]
  · rw [addT_get h, addT_get h]
    by_cases hA : ∃ i, allocAt ops i = true ∧ l = n0 + i
    · obtain ⟨i, ha, rfl⟩ := hA
      have hbit : (b.getD j 0).testBit i = true := by
        cases hb : (b.getD j 0).testBit i
        · exact absurd ⟨i, ha, .inl hb, rfl⟩ h
        · rfl
      have hix : i < x := by
        rcases Nat.lt_or_ge i x with q | q
        · exact q
        · exact absurd ⟨i, ha, .inr q, rfl⟩ h
      rw [SQ_in ha (hanc i hbit)]
      obtain ⟨o, ho, _⟩ := alloc_lt ha
      have hi := lt_of_get ho
      have e := same_x T (x := x) (y := max m (i + 1)) hx (by omega) (fun q o g1 g2 g3 => by
        rcases Nat.lt_or_ge q m with g | g
        · exact h1 q o g1 g g3
        · omega) (fun q o g1 g2 g3 => h2 q o (by omega) g2 g3)
      exact e.2 _ fun q hq _ => by omega
    · have hoff : ∀ i, allocAt ops i = true → l ≠ n0 + i := fun i h1 h2 => hA ⟨i, h1, h2⟩
      rw [SQ_off hoff]
      exact k2 l fun i _ h2 => hoff i h2

/-- What an operation comes to here. -/
theorem frame_at (hC : ∀ H T, CallFr H T call) (T : TrQ P call nt ops b n0 0 ops.toList [] v st fr) {x j : Nat} (hx : x ≤ ops.size) (hm : m ≤ ops.size) (h1 : NoW P ops x m) (h2 : NoW P ops m x) (hanc : ∀ i, (b.getD j 0).testBit i = true → L i)
    (hz : ∀ i, x ≤ i → allocAt ops i = true → (st x).get (n0 + i) = .none) (hnx : n0 + ops.size ≤ (st m).next) {f : Fr} {o : Oper} {u : AV} {s1 : Store} (h : stepA P call ops f o (hideL (hidOf ops b n0 j x) (st x)) = some (u, s1)) :
    stepA P call ops f o (SQ ops n0 st L m) = some (u, addT (HX ops b n0 j x) (SQ ops n0 st L m).get s1) := by
  rw [hide_eq hz, ← cmp (L := L) (m := m) T hx hm h1 h2 hanc] at h
  have := (stepA_fr (T := (SQ ops n0 st L m).get) (hC _ _) (none_hid _ _ fun l hl => by
    obtain ⟨i, ha, _, rfl⟩ := hl
    obtain ⟨o', ho', _⟩ := alloc_lt ha
    have := lt_of_get ho'
    show n0 + i < (st m).next
    omega) h).2
  rw [addT_back _ _ _ (fun _ _ => rfl)] at this
  exact this

/-! ### frames -/
theorem frq_new {H : List (Nat × Oper × Store)} (D : DrQ P ops b) (T : TrQ P call nt ops b n0 0 ops.toList H v st fr) (i : Nat) (oi : Oper) (t : Tmp) (hi : ops[i]? = some oi) (hd : oi.dst = some t) : ∀ d, i + 1 + d ≤ ops.size → fr (i + 1 + d) t = v i
  | 0, _ => by rw [(trq_get T i oi hi).2.1, if_pos hd]
  | d + 1, hl => by
    have ho : ops[i + 1 + d]? = some (ops[i + 1 + d]'(by omega)) := Array.getElem?_eq_getElem (by omega)
    rw [show i + 1 + (d + 1) = i + 1 + d + 1 by omega, (trq_get T _ _ ho).2.1, if_neg (D.one i (i + 1 + d) oi _ t hi ho (by omega) hd)]
    exact frq_new D T i oi t hi hd d (by omega)
theorem frq_old {H : List (Nat × Oper × Store)} (T : TrQ P call nt ops b n0 0 ops.toList H v st fr) (t : Tmp) : ∀ j, j ≤ ops.size → (∀ (i : Nat) (oi : Oper), i < j → ops[i]? = some oi → oi.dst ≠ some t) → fr j t = fr 0 t
  | 0, _, _ => rfl
  | j + 1, hl, hn => by
    have ho : ops[j]? = some (ops[j]'(by omega)) := Array.getElem?_eq_getElem (by omega)
    rw [(trq_get T j _ ho).2.1, if_neg (hn j _ (by omega) ho)]
    exact frq_old T t j (by omega) (fun i oi h1 h2 => hn i oi (by omega) h2)
theorem looksq_text {H : List (Nat × Oper × Store)} (D : DrQ P ops (Region.before ops)) (T : TrQ P call nt ops (Region.before ops) n0 0 ops.toList H v st fr) {j q : Nat} {o : Oper} (ho : ops[j]? = some o) (hr : opRead P o.op = true) (hq : j ≤ q) (hqn : q ≤ ops.size) : ∀ t ∈ looks ops o, fr q t = fr j t := by
  intro t ht
  by_cases hx : ∃ (i : Nat) (oi : Oper), ops[i]? = some oi ∧ oi.dst = some t
  · obtain ⟨i, oi, hi, hd⟩ := hx
    have hij := ancQ_lt D j i ((D.seen i j oi o t hi ho hd ht).resolve_right (fun h => by rw [hr] at h; cases h.1))
    have h1 := frq_new D T i oi t hi hd (q - (i + 1)) (by omega)
    have h2 := frq_new D T i oi t hi hd (j - (i + 1)) (by have := lt_of_get ho; omega)
    rw [show i + 1 + (q - (i + 1)) = q by omega] at h1
    rw [show i + 1 + (j - (i + 1)) = j by omega] at h2
    rw [h1, h2]
  · have hno : ∀ (i : Nat) (oi : Oper), ops[i]? = some oi → oi.dst ≠ some t := fun i oi h1 h2 => hx ⟨i, oi, h1, h2⟩
    rw [frq_old T t q hqn (fun i oi _ h => hno i oi h), frq_old T t j (by have := lt_of_get ho; omega) (fun i oi _ h => hno i oi h)]

structure MidQ (P : Program) (B : Nat) (w0 : World) (nt : Nat) (ops : Array Oper) (n0 : Nat) (v : Nat → AV) (st : Nat → Store) (fr : Nat → Fr) (ι0 : Nat → Loc) (s0 : Store) (w1 : World) (L : Nat → Prop) (a : Act) (w : World) (ι : Nat → Loc) (m : Nat) (frD : Fr) : Prop where
  le : m ≤ ops.size
  wr : ∀ (i : Nat) (o : Oper), ops[i]? = some o → opW2 P o.op = true → (L i ↔ i < m)
  new : ∀ (i : Nat) (o : Oper) (t : Tmp), ops[i]? = some o → o.dst = some t → L i → frD t = v i
  old : ∀ t, (∀ (i : Nat) (o : Oper), ops[i]? = some o → o.dst = some t → ¬ L i) → frD t = fr 0 t
  nx : n0 + ops.size ≤ (st m).next
  frm : FR nt ι (SQ ops n0 st L m) w frD a
  wrl : WR B w0 ι (SQ ops n0 st L m) w
  lat : Later ι0 s0 w1 ι (SQ ops n0 st L m) w

variable {ι0 : Nat → Loc} {s0 : Store} {w1 : World}

/-- One operation that may be next. -/
theorem midq_step (hB : Bodied P call) (hC : CallOk P B w0 call) (hCf : ∀ H T, CallFr H T call) (D : DrQ P ops (Region.before ops)) (T : TrQ P call nt ops (Region.before ops) n0 0 ops.toList [] v st fr)
    (hN : ∀ j, j ≤ ops.size → ∀ i, j ≤ i → allocAt ops i = true → (st j).get (n0 + i) = .none)
    {L : Nat → Prop} (hcl : ∀ (j : Nat) (o : Oper), ops[j]? = some o → L j → ∀ e ∈ o.after.toList, Region.binds .any e = true → L e.on)
    {a : Act} {w : World} {ι : Nat → Loc} {m : Nat} {frD : Fr} (M : MidQ P B w0 nt ops n0 v st fr ι0 s0 w1 L a w ι m frD) {j : Nat} {o : Oper} (ho : ops[j]? = some o) (hnl : ¬ L j) (hrd : ∀ e ∈ o.after.toList, Region.binds .any e = true → L e.on)
    {Q : Exit → Act → World → Prop} {K : Act → World → Prop} (hK : ∀ a' w' ι' m' frD', MidQ P B w0 nt ops n0 v st fr ι0 s0 w1 (fun i => i = j ∨ L i) a' w' ι' m' frD' → K a' w') : wpOp P ops Q j K a w := by
  have hjn := lt_of_get ho
  have anc : ∀ i, ((Region.before ops).getD j 0).testBit i = true → L i := fun i hi => ancQ_in hcl j i (fun o' ho' => by rw [ho] at ho'; rw [← Option.some.inj ho']; exact hrd) hi
  have ancL : ∀ q, L q → ∀ i, ((Region.before ops).getD q 0).testBit i = true → L i := fun q hq i hi => ancQ_in hcl q i (fun o' ho' => hcl q o' ho' hq) hi
  have hlook : ∀ t ∈ looks ops o, frD t = fr j t := by
    intro t ht
    by_cases hx : ∃ (i : Nat) (oi : Oper), ops[i]? = some oi ∧ oi.dst = some t
    · obtain ⟨i, oi, hi, hd⟩ := hx
      rcases D.seen i j oi o t hi ho hd ht with hb | ⟨_, hji, hb⟩
      · have hij := ancQ_lt D j i hb
        have h2 := frq_new D T i oi t hi hd (j - (i + 1)) (by omega)
        rw [show i + 1 + (j - (i + 1)) = j by omega] at h2
        rw [M.new i oi t hi hd (anc i hb), h2]
      · have only : ∀ (q : Nat) (oq : Oper), ops[q]? = some oq → oq.dst = some t → q = i := fun q oq h1 h2 => by
          rcases Nat.lt_trichotomy q i with h3 | h3 | h3
          · exact absurd hd (D.one q i oq oi t h1 hi h3 h2)
          · exact h3
          · exact absurd h2 (D.one i q oi oq t hi h1 h3 hd)
        rw [M.old t (fun q oq h1 h2 h3 => by
          have := only q oq h1 h2
          subst this
          exact hnl (ancL q h3 j hb)), frq_old T t j (by omega) (fun q oq h0 h1 h2 => by have := only q oq h1 h2; omega)]
    · have hno : ∀ (i : Nat) (oi : Oper), ops[i]? = some oi → oi.dst ≠ some t := fun i oi h1 h2 => hx ⟨i, oi, h1, h2⟩
      rw [M.old t (fun i oi h1 h2 => absurd h2 (hno i oi h1)), frq_old T t j (by omega) (fun i oi _ h => hno i oi h)]
  have hstep : ∀ s, stepA P call ops frD o s = stepA P call ops (fr j) o s := fun s => stepA_congr hlook s
  obtain ⟨_, t2, t3⟩ := trq_get T j o ho
  -- the state behind it
  have go : ∀ m', (m' = m ∧ opW2 P o.op = false ∨ m' = j + 1 ∧ opW2 P o.op = true) → ∀ v' w' ι', VR ι' (SQ ops n0 st (fun i => i = j ∨ L i) m') w' (v j) v' → WR B w0 ι' (SQ ops n0 st (fun i => i = j ∨ L i) m') w' → Later ι (SQ ops n0 st L m) w ι' (SQ ops n0 st (fun i => i = j ∨ L i) m') w' → K (a.put o.dst v') w' := by
    intro m' hm' v' w' ι' hv hW hL
    have hF := M.frm.later hL
    have hput : aPut nt o.dst (v j) frD some = some (fun t => if o.dst = some t then v j else frD t) := by
      unfold aPut
      cases hd : o.dst with
      | none => simp
      | some d =>
        simp only
        rw [if_pos (t3 d hd)]
        congr 1
        funext t
        unfold upd
        by_cases e : t = d
        · rw [if_pos e, if_pos (by rw [e])]
        · rw [if_neg e, if_neg (fun q => e (Option.some.inj q).symm)]
    obtain ⟨fr', k1, k2, k3⟩ := hF.put hv hput
    refine hK _ _ ι' m' fr' ⟨?_, ?_, ?_, ?_, Nat.le_trans M.nx hL.next, k2, hW, M.lat.trans hL⟩
    · rcases hm' with ⟨rfl, _⟩ | ⟨rfl, _⟩
      · exact M.le
      · omega
    · intro i oi hi hwi
      rcases hm' with ⟨rfl, hwj⟩ | ⟨rfl, hwj⟩
      · have hne : i ≠ j := fun e => by subst e; rw [ho] at hi; rw [Option.some.inj hi, hwi] at hwj; cases hwj
        rw [← M.wr i oi hi hwi]
        exact ⟨fun h => h.resolve_left hne, .inr⟩
      · constructor
        · rintro (rfl | h)
          · omega
          · rcases Nat.lt_or_ge j i with hji | hji
            · exact absurd (ancL i h j (D.wr j i o oi ho hi hji hwi hwj)) hnl
            · omega
        · intro h
          rcases Nat.lt_or_ge i j with hij | hij
          · exact .inr (anc i (D.wr i j oi o hi ho hij hwj hwi))
          · exact .inl (by omega)
    · intro i oi t hi hd hLi
      rw [k3]
      by_cases e : i = j
      · subst e; rw [ho] at hi; rw [Option.some.inj hi, if_pos hd]
      · rw [if_neg]
        · exact M.new i oi t hi hd (hLi.resolve_left e)
        · intro hd2
          rcases Nat.lt_or_ge i j with hij | hij
          · exact D.one i j oi o t hi ho hij hd hd2
          · exact D.one j i o oi t ho hi (by omega) hd2 hd
    · intro t hn
      rw [k3, if_neg (fun hd => hn j o ho hd (.inl rfl))]
      exact M.old t (fun i oi h1 h2 h3 => hn i oi h1 h2 (.inr h3))
  have hout : ∀ {β : Type} (f : β → β → Prop), True := fun _ => trivial
  cases hal : opAlloc o.op
  · -- no new row
    have hL' : ∀ i, allocAt ops i = true → ((i = j ∨ L i) ↔ L i) := fun i hi => by
      constructor
      · rintro (rfl | h)
        · rw [alloc_at ho, hal] at hi; cases hi
        · exact h
      · exact .inr
    have hval : ∃ m', (m' = m ∧ opW2 P o.op = false ∨ m' = j + 1 ∧ opW2 P o.op = true) ∧ stepA P call ops frD o (SQ ops n0 st L m) = some (v j, SQ ops n0 st (fun i => i = j ∨ L i) m') := by
      obtain ⟨s1, h1, h2⟩ := trq_step T ho hal
      have sameS : SQ ops n0 st (fun i => i = j ∨ L i) m = SQ ops n0 st L m := by
        refine store_ext rfl fun l => ?_
        by_cases hA : ∃ i, allocAt ops i = true ∧ l = n0 + i
        · obtain ⟨i, ha, rfl⟩ := hA
          by_cases hLi : L i
          · rw [SQ_in ha hLi, SQ_in ha (.inr hLi)]
          · rw [SQ_out ha hLi, SQ_out ha (fun h => hLi ((hL' i ha).1 h))]
        · have hoff : ∀ i, allocAt ops i = true → l ≠ n0 + i := fun i h1 h2 => hA ⟨i, h1, h2⟩
          rw [SQ_off hoff, SQ_off hoff]
      cases hw : opW2 P o.op
      · refine ⟨m, .inl ⟨rfl, rfl⟩, ?_⟩
        rw [sameS, hstep]
        have hwr : opWrite P o.op = false := by unfold opW2 at hw; rw [hal] at hw; simpa using hw
        cases hp : opPure P o.op
        · have hr : opRead P o.op = true := by
            unfold opWrite at hwr; rw [hp] at hwr; simpa using hwr
          have fin : ∀ s s', stepA P call ops (fr j) o s = some (v j, s') → stepA P call ops (fr j) o s = some (v j, s) := fun s s' h => by rw [h, stepA_read hr h]
          have at_x : ∀ {x : Nat} {s'}, x ≤ ops.size → NoW P ops x m → NoW P ops m x → stepA P call ops (fr j) o (hideL (hidOf ops (Region.before ops) n0 j x) (st x)) = some (v j, s') → stepA P call ops (fr j) o (SQ ops n0 st L m) = some (v j, SQ ops n0 st L m) := fun {x s'} hx n1 n2 h =>
            fin _ _ (frame_at hCf T hx M.le n1 n2 anc (fun i hi ha => hN x hx i hi ha) M.nx h)
          rcases Nat.lt_or_ge m j with hmj | hmj
          · by_cases hx : ∃ i, m ≤ i ∧ i < j ∧ ∃ oi, ops[i]? = some oi ∧ opW2 P oi.op = true
            · obtain ⟨i, ⟨g1, g2, oi, g3, g4⟩, hmin⟩ := exists_least hx
              have hbit : ((Region.before ops).getD j 0).testBit i = false := by
                cases h : ((Region.before ops).getD j 0).testBit i
                · rfl
                · have := (M.wr i oi g3 g4).1 (anc i h); omega
              obtain ⟨s', h⟩ := T.chkR i j oi o g2 (by simpa using g3) (by simpa using ho) hr g4 (by simpa using hbit)
              simp only [Nat.zero_add] at h
              exact at_x (by omega) (fun q oq q1 q2 q3 => by omega) (fun q oq q1 q2 q3 => by
                cases h : opW2 P oq.op
                · rfl
                · have := hmin q ⟨q1, by omega, oq, q3, h⟩; omega) h
            · exact at_x (by omega) (fun q oq q1 q2 q3 => by omega) (fun q oq q1 q2 q3 => by
                cases h : opW2 P oq.op
                · rfl
                · exact absurd ⟨q, q1, q2, oq, q3, h⟩ hx) h1
          · by_cases hx : ∃ i, i < m ∧ (j ≤ i ∧ ∃ oi, ops[i]? = some oi ∧ opW2 P oi.op = true)
            · obtain ⟨i, g2, ⟨g1, oi, g3, g4⟩, hmax⟩ := greatest hx
              have hin := lt_of_get g3
              have hne : j ≠ i := fun e => by subst e; rw [ho] at g3; rw [Option.some.inj g3, g4] at hw; cases hw
              have hij : j < i := by omega
              have hLi := (M.wr i oi g3 g4).2 g2
              have hbit : ((Region.before ops).getD i 0).testBit j = false := by
                cases h : ((Region.before ops).getD i 0).testBit j
                · rfl
                · exact absurd (ancL i hLi j h) hnl
              obtain ⟨d, hd⟩ := D.slot j o ho hr
              obtain ⟨s', h⟩ := T.chkW j i o oi d hij (by simpa using ho) (by simpa using g3) g4 hr (by simpa using hbit) hd
              simp only [Nat.zero_add] at h
              have hfd := frq_new D T j o d ho hd (i - (j + 1)) (by omega)
              rw [show j + 1 + (i - (j + 1)) = i by omega] at hfd
              rw [hfd, stepA_congr (looksq_text D T ho hr (Nat.le_of_lt hij) (Nat.le_of_lt hin))] at h
              exact at_x (by omega) (fun q oq q1 q2 q3 => by
                cases h : opW2 P oq.op
                · rfl
                · exact absurd ⟨by omega, oq, q3, h⟩ (hmax q (by omega) q2)) (fun q oq q1 q2 q3 => by omega) h
            · exact at_x (by omega) (fun q oq q1 q2 q3 => by
                cases h : opW2 P oq.op
                · rfl
                · exact absurd ⟨q, q2, q1, oq, q3, h⟩ hx) (fun q oq q1 q2 q3 => by omega) h1
        · exact (stepA_pure hp h1).2 _
      · have hmj : m ≤ j := by
          rcases Nat.lt_or_ge j m with h | h
          · exact absurd ((M.wr j o ho hw).2 h) hnl
          · exact h
        have nw : NoW P ops m j := fun q oq q1 q2 q3 => by
          cases h : opW2 P oq.op
          · rfl
          · have := (M.wr q oq q3 h).1 (anc q (D.wr q j oq o q3 ho q2 hw h)); omega
        have nw0 : NoW P ops j m := fun q oq q1 q2 q3 => by omega
        refine ⟨j + 1, .inr ⟨rfl, rfl⟩, ?_⟩
        rw [hstep, frame_at hCf T (Nat.le_of_lt hjn) M.le nw0 nw anc (fun i hi ha => hN j (Nat.le_of_lt hjn) i hi ha) M.nx h1]
        congr 2
        refine store_ext ?_ fun l => ?_
        · show s1.next = (st (j + 1)).next
          rw [h2]; rfl
        · have hkeep := same_x T (Nat.le_of_lt hjn) M.le nw0 nw
          by_cases hA : ∃ i, allocAt ops i = true ∧ l = n0 + i
          · obtain ⟨i, ha, rfl⟩ := hA
            have hij : i ≠ j := fun e => by subst e; rw [alloc_at ho, hal] at ha; cases ha
            obtain ⟨oi, hoi, _⟩ := alloc_lt ha
            have hin := lt_of_get hoi
            cases hbit : ((Region.before ops).getD j 0).testBit i
            · have hx : HX ops (Region.before ops) n0 j j (n0 + i) := ⟨i, ha, .inl hbit, rfl⟩
              rw [addT_hid hx]
              by_cases hLi : L i
              · rw [SQ_in ha hLi, SQ_in ha (.inr hLi)]
                rcases Nat.lt_or_ge i j with hlt | hge
                · rw [show max (j + 1) (i + 1) = j + 1 by omega, h2]
                  unfold backL
                  simp only [if_pos (mem_hid.2 ⟨i, hlt, ha, hbit, rfl⟩ : n0 + i ∈ hidOf ops (Region.before ops) n0 j j)]
                  have := keep' T (x := max m (i + 1)) (y := j) (by omega) (Nat.le_of_lt hjn) (fun q oq q1 q2 q3 => nw q oq (by omega) q2 q3)
                  exact (this.2 _ fun q q1 q2 q3 => by omega).symm
                · rw [show max (j + 1) (i + 1) = i + 1 by omega, show max m (i + 1) = i + 1 by omega]
              · rw [SQ_out ha hLi, SQ_out ha (fun h => hLi ((hL' i ha).1 h))]
            · have hlt := ancQ_lt D j i hbit
              have hx : ¬ HX ops (Region.before ops) n0 j j (n0 + i) := fun ⟨i', _, g2, g3⟩ => by
                have : i' = i := by omega
                subst this
                rcases g2 with g2 | g2
                · rw [hbit] at g2; cases g2
                · omega
              rw [addT_get hx, SQ_in ha (.inr (anc i hbit)), show max (j + 1) (i + 1) = j + 1 by omega, h2]
              unfold backL
              have hno : n0 + i ∉ hidOf ops (Region.before ops) n0 j j := fun hm => by
                obtain ⟨i', _, _, g3, g4⟩ := mem_hid.1 hm
                have : i' = i := by omega
                subst this
                rw [hbit] at g3; cases g3
              simp only [if_neg hno]
          · have hoff : ∀ i, allocAt ops i = true → l ≠ n0 + i := fun i h1 h2 => hA ⟨i, h1, h2⟩
            have hx : ¬ HX ops (Region.before ops) n0 j j l := fun ⟨i, g1, _, g3⟩ => hoff i g1 g3
            rw [addT_get hx, SQ_off hoff, h2]
            unfold backL
            have hno : l ∉ hidOf ops (Region.before ops) n0 j j := fun hm => by
              obtain ⟨i', _, g2, _, g4⟩ := mem_hid.1 hm
              exact hoff i' g2 g4
            simp only [if_neg hno]
    obtain ⟨m', hm', hval⟩ := hval
    have go := go m' hm'
    unfold wpOp
    simp only [ho]
    unfold stepA at hval
    cases hg : o.guard with
    | none =>
      rw [hg] at hval
      rw [if_pos (by simp [Region.wanted, hg])]
      exact .inl (op_run hB hC hval M.frm M.wrl fun v2 s2 v' w' ι' k1 k2 k3 k4 => by
        obtain ⟨rfl, rfl⟩ := Prod.mk.inj (Option.some.inj k1)
        exact go v' w' ι' k2 k3 k4)
    | some jw =>
      obtain ⟨q, want⟩ := jw
      rw [hg] at hval
      simp only at hval
      split at hval
      · cases hval
      · rename_i t ht
        rcases guard_of hg ht M.frm hval with ⟨hw, hx⟩ | ⟨hw, hy⟩
        · rw [if_pos hw]
          exact .inl (op_run hB hC hx M.frm M.wrl fun v2 s2 v' w' ι' k1 k2 k3 k4 => by
            obtain ⟨rfl, rfl⟩ := Prod.mk.inj (Option.some.inj k1)
            exact go v' w' ι' k2 k3 k4)
        · rw [if_neg (by rw [hw]; simp)]
          obtain ⟨e1, e2⟩ := Prod.mk.inj (Option.some.inj hy)
          refine go _ _ ι ?_ ?_ ?_
          · rw [← e1]; exact VR.undef _ _ _
          · rw [← e2]; exact M.wrl
          · rw [← e2]; exact Later.refl _ _ _
  · -- a new row
    have haj : allocAt ops j = true := by rw [alloc_at ho]; exact hal
    have hw : opW2 P o.op = false := by unfold opW2; rw [hal]; simp
    obtain ⟨s1, h1, h2⟩ := trq_alloc T ho hal
    have hrow : (st (max m (j + 1))).get (n0 + j) = s1.get (n0 + j) := by
      have e : (st (j + 1)).get (n0 + j) = s1.get (n0 + j) := by rw [h2]
      rw [← e]
      rcases Nat.lt_or_ge m (j + 1) with h | h
      · rw [show max m (j + 1) = j + 1 by omega]
      · rw [show max m (j + 1) = j + 1 + (m - (j + 1)) by omega]
        refine row_keep T haj _ (by have := M.le; omega) fun p op g1 g2 g3 g4 => ?_
        cases hb : ((Region.before ops).getD p 0).testBit j
        · rfl
        · exact absurd (ancL p ((M.wr p op g3 g4).2 (by omega)) j hb) hnl
    have hoth : ∀ l, l ≠ n0 + j → (SQ ops n0 st (fun i => i = j ∨ L i) m).get l = (SQ ops n0 st L m).get l := by
      intro l hl
      by_cases hA : ∃ i, allocAt ops i = true ∧ l = n0 + i
      · obtain ⟨i, ha, rfl⟩ := hA
        have hij : i ≠ j := fun e => hl (by rw [e])
        by_cases hLi : L i
        · rw [SQ_in ha hLi, SQ_in ha (.inr hLi)]
        · rw [SQ_out ha hLi, SQ_out ha (fun h => hLi (h.resolve_left hij))]
      · have hoff : ∀ i, allocAt ops i = true → l ≠ n0 + i := fun i h1 h2 => hA ⟨i, h1, h2⟩
        rw [SQ_off hoff, SQ_off hoff]
    have hj' : (SQ ops n0 st (fun i => i = j ∨ L i) m).get (n0 + j) = s1.get (n0 + j) := by rw [SQ_in haj (.inl rfl), hrow]
    have hj0 : (SQ ops n0 st L m).get (n0 + j) = .none := SQ_out haj hnl
    have hlt : n0 + j < (SQ ops n0 st L m).next := by
      show n0 + j < (st m).next
      have := M.nx; omega
    have go := go m (.inl ⟨rfl, hw⟩)
    have made : ∀ {ob : AObj}, (∀ l, s1.get l = if l = n0 + j then ob else (st j).get l) → (SQ ops n0 st L m).set (n0 + j) ob = SQ ops n0 st (fun i => i = j ∨ L i) m := fun {ob} hob => by
      refine store_ext rfl fun l => ?_
      by_cases e : l = n0 + j
      · subst e
        rw [hj', hob]; simp [Store.set]
      · rw [hoth l e]; simp [Store.set, e]
    rw [← hstep] at h1
    unfold wpOp
    simp only [ho]
    unfold stepA at h1
    cases hg : o.guard with
    | none =>
      rw [hg] at h1
      rw [if_pos (by simp [Region.wanted, hg])]
      obtain ⟨ob, k1, k2⟩ := alloc_run hal h1
      have e := made k1
      refine .inl (k2 M.frm M.wrl hlt hj0 fun v' w' ι' g1 g2 g3 => ?_)
      rw [e] at g1 g2 g3
      exact go v' w' ι' g1 g2 g3
    | some jw =>
      obtain ⟨q, want⟩ := jw
      rw [hg] at h1
      simp only at h1
      split at h1
      · cases h1
      · rename_i t ht
        rcases guard_of hg ht M.frm h1 with ⟨hw, hx⟩ | ⟨hw, hy⟩
        · rw [if_pos hw]
          obtain ⟨ob, k1, k2⟩ := alloc_run hal hx
          have e := made k1
          refine .inl (k2 M.frm M.wrl hlt hj0 fun v' w' ι' g1 g2 g3 => ?_)
          rw [e] at g1 g2 g3
          exact go v' w' ι' g1 g2 g3
        · rw [if_neg (by rw [hw]; simp)]
          obtain ⟨e1, e2⟩ := Prod.mk.inj (Option.some.inj hy)
          have e : SQ ops n0 st (fun i => i = j ∨ L i) m = SQ ops n0 st L m := by
            refine store_ext rfl fun l => ?_
            by_cases el : l = n0 + j
            · subst el
              rw [hj', hj0, ← e2]
              exact hN j (Nat.le_of_lt hjn) j (Nat.le_refl _) haj
            · exact hoth l el
          refine go _ _ ι ?_ ?_ ?_
          · rw [← e1]; exact VR.undef _ _ _
          · rw [e]; exact M.wrl
          · rw [e]; exact Later.refl _ _ _

theorem drawq_walk (hB : Bodied P call) (hC : CallOk P B w0 call) (hCf : ∀ H T, CallFr H T call) (D : DrQ P ops (Region.before ops)) (T : TrQ P call nt ops (Region.before ops) n0 0 ops.toList [] v st fr) (hN : ∀ j, j ≤ ops.size → ∀ i, j ≤ i → allocAt ops i = true → (st j).get (n0 + i) = .none)
    {κ : Fr → Store → Option α} (hκ : κ (fr ops.size) (st ops.size) = some r) {Q : Exit → Act → World → Prop}
    (hQ : ∀ fr s a w, St P B w0 nt ι0 s0 w1 fr s a w → κ fr s = some r → Q .normal a w) : ∀ (fuel : Nat) (U : List Nat) (listed : Array Bool) (a : Act) (w : World) (ι : Nat → Loc) (m : Nat) (frD : Fr), listed.size = ops.size → U.length ≤ fuel → (∀ i, i < ops.size → listed.getD i false = false → i ∈ U) →
    (∀ (j : Nat) (o : Oper), ops[j]? = some o → listed.getD j false = true → ∀ e ∈ o.after.toList, Region.binds .any e = true → listed.getD e.on false = true) → MidQ P B w0 nt ops n0 v st fr ι0 s0 w1 (fun i => listed.getD i false = true) a w ι m frD → wpAny P .any ops Q fuel listed a w := by
  have done : ∀ (listed : Array Bool) (a : Act) (w : World) (ι : Nat → Loc) (m : Nat) (frD : Fr), (∀ i, i < ops.size → listed.getD i false = true) → MidQ P B w0 nt ops n0 v st fr ι0 s0 w1 (fun i => listed.getD i false = true) a w ι m frD → Q .normal a w := by
    intro listed a w ι m frD hall M
    have nw : NoW P ops m ops.size := fun q oq q1 q2 q3 => by
      cases h : opW2 P oq.op
      · rfl
      · have := (M.wr q oq q3 h).1 (hall q (lt_of_get q3)); omega
    have e1 : SQ ops n0 st (fun i => listed.getD i false = true) m = st ops.size := by
      obtain ⟨k1, k2⟩ := keep' T M.le (Nat.le_refl _) nw
      refine store_ext k1.symm fun l => ?_
      by_cases hA : ∃ i, allocAt ops i = true ∧ l = n0 + i
      · obtain ⟨i, ha, rfl⟩ := hA
        obtain ⟨oi, hoi, _⟩ := alloc_lt ha
        have hin := lt_of_get hoi
        rw [SQ_in ha (hall i hin)]
        have := keep' T (x := max m (i + 1)) (y := ops.size) (by have := M.le; omega) (Nat.le_refl _) (fun q oq q1 q2 q3 => nw q oq (by omega) q2 q3)
        exact (this.2 _ fun q q1 q2 q3 => by omega).symm
      · have hoff : ∀ i, allocAt ops i = true → l ≠ n0 + i := fun i h1 h2 => hA ⟨i, h1, h2⟩
        rw [SQ_off hoff]
        exact (k2 l fun q _ _ q3 => hoff q q3).symm
    have e2 : frD = fr ops.size := by
      funext t
      by_cases hx : ∃ (i : Nat) (oi : Oper), ops[i]? = some oi ∧ oi.dst = some t
      · obtain ⟨i, oi, hi, hd⟩ := hx
        have hin := lt_of_get hi
        have h2 := frq_new D T i oi t hi hd (ops.size - (i + 1)) (by omega)
        rw [show i + 1 + (ops.size - (i + 1)) = ops.size by omega] at h2
        rw [M.new i oi t hi hd (hall i hin), h2]
      · have hno : ∀ (i : Nat) (oi : Oper), ops[i]? = some oi → oi.dst ≠ some t := fun i oi h1 h2 => hx ⟨i, oi, h1, h2⟩
        rw [M.old t (fun i oi h1 h2 => absurd h2 (hno i oi h1)), frq_old T t ops.size (Nat.le_refl _) (fun i oi _ h => hno i oi h)]
    refine hQ (fr ops.size) (st ops.size) a w ⟨ι, ?_, ?_, ?_⟩ hκ
    · rw [← e1, ← e2]; exact M.frm
    · rw [← e1]; exact M.wrl
    · rw [← e1]; exact M.lat
  have getT : ∀ (listed : Array Bool) i, listed.size = ops.size → i < ops.size → listed.getD i true = listed.getD i false := by
    intro listed i hs hi
    simp [show i < listed.size by omega]
  have full : ∀ (listed : Array Bool), listed.size = ops.size → Region.ready .any ops listed = [] → ∀ i, i < ops.size → listed.getD i false = true := by
    intro listed hs hr i
    induction i using Nat.strongRecOn with
    | _ i ih =>
      intro hi
      cases h : listed.getD i false
      · have ho : ops[i]? = some (ops[i]'hi) := Array.getElem?_eq_getElem hi
        have : i ∈ Region.ready .any ops listed := mem_ready.2 ⟨by rw [getT listed i hs hi]; exact h, _, ho, fun e he hb => by
          have := D.back i _ ho e (by simpa using he) hb
          exact ih e.on this (by omega)⟩
        rw [hr] at this
        cases this
      · rfl
  intro fuel
  induction fuel with
  | zero =>
    intro U listed a w ι m frD hs hU hcov hcl M
    have hall : ∀ i, i < ops.size → listed.getD i false = true := by
      intro i hi
      cases h : listed.getD i false
      · have := hcov i hi h
        have : U = [] := List.length_eq_zero_iff.1 (by omega)
        simp_all
      · rfl
    refine ⟨?_, done listed a w ι m frD hall M⟩
    cases hr : Region.ready .any ops listed with
    | nil => rfl
    | cons x xs =>
      have : x ∈ Region.ready .any ops listed := by rw [hr]; exact List.mem_cons_self
      obtain ⟨h1, o, ho, _⟩ := mem_ready.1 this
      rw [getT listed x hs (lt_of_get ho), hall x (lt_of_get ho)] at h1
      cases h1
  | succ fuel ih =>
    intro U listed a w ι m frD hs hU hcov hcl M
    refine ⟨fun hr => done listed a w ι m frD (full listed hs hr) M, fun j hj => ?_⟩
    obtain ⟨h1, o, ho, h2⟩ := mem_ready.1 hj
    have hjn := lt_of_get ho
    rw [getT listed j hs hjn] at h1
    have hset : ∀ i, (listed.setIfInBounds j true).getD i false = true ↔ i = j ∨ listed.getD i false = true := by
      intro i
      by_cases e : i = j
      · subst e; simp [show i < listed.size by omega]
      · simp [e, Array.getElem?_setIfInBounds_ne (Ne.symm e)]
    refine midq_step hB hC hCf D T hN hcl M ho (by rw [h1]; simp) (fun e he hb => h2 e (by simpa using he) hb) (fun a' w' ι' m' frD' M' => ?_)
    have hmem := hcov j hjn h1
    refine ih (U.erase j) (listed.setIfInBounds j true) a' w' ι' m' frD' (by simpa using hs) (by rw [List.length_erase_of_mem hmem]; omega) (fun i hi hf => ?_) (fun i oi hi hl e he hb => ?_) ?_
    · have hne : i ≠ j := fun e => by
        have := (hset i).2 (.inl e)
        rw [this] at hf; cases hf
      have hf2 : listed.getD i false = false := by
        cases h : listed.getD i false
        · rfl
        · have := (hset i).2 (.inr h); rw [this] at hf; cases hf
      exact (List.mem_erase_of_ne hne).2 (hcov i hi hf2)
    · rcases (hset i).1 hl with rfl | hl
      · rw [ho] at hi
        rw [← Option.some.inj hi] at he
        exact (hset _).2 (.inr (h2 e (by simpa using he) hb))
      · exact (hset _).2 (.inr (hcl i oi hi hl e he hb))
    · have : (fun i => (listed.setIfInBounds j true).getD i false = true) = fun i => i = j ∨ listed.getD i false = true := funext fun i => propext (hset i)
      rw [this]; exact M'
end

theorem WR.reserve (h : WR B w0 ι s w) (n : Nat) : WR B w0 ι (reserve n s) w ∧ Later ι s w ι (reserve n s) w := by
  have g : ∀ l, l < s.next → (Sim.reserve n s).get l = s.get l := fun l hl => by unfold Sim.reserve; simp [hl]
  have g' : ∀ l, ¬ l < s.next → (Sim.reserve n s).get l = .none := fun l hl => by unfold Sim.reserve; simp [hl]
  have k : Later ι s w ι (Sim.reserve n s) w := ⟨Nat.le_add_right _ _, fun l hl => by rw [g l hl]; exact Nat.le_refl _, fun _ _ _ => rfl, fun _ _ => rfl, Nat.le_refl _⟩
  refine ⟨⟨h.bel, h.hB, fun l hl => ?_, fun l l' hl hl' hne hw hn => ?_, fun g => (h.glob g).later k⟩, k⟩
  · by_cases e : l < s.next
    · rw [g l e]; exact (h.obj l e).later k (fun _ => rfl)
    · rw [g' l e]; trivial
  · have e : l < s.next := by
      by_cases e : l < s.next
      · exact e
      · rw [g' l e] at hw; cases hw
    have e' : l' < s.next := by
      by_cases e : l' < s.next
      · exact e
      · rw [g' l' e] at hn; cases hn
    rw [g l e] at hw
    rw [g l' e'] at hn
    exact h.sep l l' e e' hne hw hn

theorem drawq_sound (hB : Bodied P call) (hC : CallOk P B w0 call) (hCf : ∀ H T, CallFr H T call) : DrawSoundQ P call B w0 := by
  intro α r nt ι0 s0 w1 ops κ Q id hok hQ fr0 s a w hS h
  have D := drq_of hok
  obtain ⟨v, st, fr, e1, e2, e3, T⟩ := traceQ ops.toList 0 [] fr0 _ h
  simp only [Nat.zero_add, Array.length_toList] at e3 T
  refine wp_region_any D.mixed ?_
  obtain ⟨ι, hF, hW, hL⟩ := hS
  obtain ⟨hW2, hL2⟩ := hW.reserve ops.size
  obtain ⟨hW', hL'⟩ := hW2.draw (w' := { w with drawn := w.drawn + 1 }) rfl rfl rfl rfl
  have h0 : ∀ i, allocAt ops i = true → (st 0).get (s.next + i) = .none ∧ s.next + i < (st 0).next := fun i ha => by
    obtain ⟨oi, hoi, _⟩ := alloc_lt ha
    have := lt_of_get hoi
    rw [e1]
    unfold reserve
    simp only
    exact ⟨by rw [if_neg (by omega)], by omega⟩
  have hNI := none_inv hCf (ancQ_lt D) T h0
  have hS0 : SQ ops s.next st (fun i => (Array.replicate ops.size false).getD i false = true) 0 = reserve ops.size s := by
    rw [← e1]
    refine store_ext rfl fun l => ?_
    by_cases hA : ∃ i, allocAt ops i = true ∧ l = s.next + i
    · obtain ⟨i, ha, rfl⟩ := hA
      rw [SQ_out ha, (h0 i ha).1]
      obtain ⟨oi, hoi, _⟩ := alloc_lt ha
      have := lt_of_get hoi
      simp [this]
    · exact SQ_off (fun i h1 h2 => hA ⟨i, h1, h2⟩)
  refine drawq_walk hB hC hCf D T (fun j hj i hi ha => (hNI j hj i hi ha).1) e3 hQ ops.size (List.range ops.size) _ a _ ι 0 fr0 (by simp) (by simp) (fun i hi _ => List.mem_range.2 hi) (fun j o ho hl => ?_) ⟨Nat.zero_le _, fun i o hi _ => ?_, fun i o t hi hd hl => ?_, fun t _ => by rw [e2], ?_, ?_, ?_, ?_⟩
  · have := lt_of_get ho
    simp [this] at hl
  · have := lt_of_get hi
    simp [this]
  · have := lt_of_get hi
    simp [this] at hl
  · rw [e1]; exact Nat.le_refl _
  · rw [hS0]; exact hF.later (hL2.trans hL')
  · rw [hS0]; exact hW'
  · rw [hS0]; exact hL.trans (hL2.trans hL')

/-- THE ABSTRACT MACHINE IS SOUND. -/
theorem run_calls (P : Program) (B : Nat) (w0 : World) (k : Nat) (hM : MethFine P) : CallOk P B w0 (run P k) :=
  run_sound hM (fun k H T => run_fr P H T k) (fun _ hB hC => draw_sound hB hC) (fun _ hB hC hCf => drawq_sound hB hC hCf) k
end
end Go.Proofs.YtjbgdpfkmcibbaaGreatDoor.Sim
