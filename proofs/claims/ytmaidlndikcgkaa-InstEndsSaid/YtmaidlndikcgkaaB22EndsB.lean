/- Layer 22: all end: what a step brings, where all know all. No condition. -/
import Derived.Test.YtmaidlndikcgkaaB22EndsA
namespace Go.Proofs.Ytmaidlndikcgkaa.Sim
set_option linter.unusedSimpArgs false
set_option linter.unusedVariables false

/-- All know what all sent last; nobody decided. -/
structure Sy (n : Nat) (mine : Nat → List Rn) (held : List Int) (b R0 : Int) (V E : Gh) (L : Nat → XI) : Prop where
  k : KK n mine b V E
  loc : ∀ p, p < n → PLoc n V E p (L p)
  fr : Frr n R0 V E
  und : ∀ p, p < n → (L p).decided = []
  s1 : ∀ p a, p < n → a < n → a ≠ p → ∃ f, frAt (L p) a 0 = some f ∧ f.round = (L a).round
  s2 : ∀ p a, p < n → a < n → a ≠ p → (L a).cast = true → ∃ f, frAt (L p) a 1 = some f ∧ f.round = (L a).round
  hh : ∀ e, Mn n mine e → heldB held e = true
  bb : b + 1 < 18446744073709551616
variable {n : Nat} {mine : Nat → List Rn} {held : List Int} {b R0 R : Int} {V E : Gh} {L : Nat → XI}
theorem PLoc.le {p : Nat} {m : XI} (h : PLoc n V E p m) {r : Int} {e : List Rn} (he : E p r = some e) : r ≤ m.round := by
  by_cases q : m.round < r
  · rw [(h.later r q).1] at he; cases he
  · omega
structure Top (n : Nat) (L : Nat → XI) (R : Int) : Prop where
  le : ∀ p, p < n → (L p).round ≤ R
  ex : ∃ p, p < n ∧ (L p).round = R
theorem frAt_mem {m : XI} {a ph : Nat} {f : SF} (h : frAt m a ph = some f) : some f ∈ m.fr := by
  unfold frAt at h
  cases hq : m.fr[a * 2 + ph]? with
  | none => rw [hq] at h; cases h
  | some o =>
    rw [hq] at h
    simp only [Option.getD_some] at h
    subst h
    exact List.mem_of_getElem? hq
theorem kept_le (h : Sy n mine held b R0 V E L) (t : Top n L R) {p : Nat} (hp : p < n) {f : SF} (hf : some f ∈ (L p).fr) : f.round ≤ R ∧ Mn n mine f.est := by
  obtain ⟨i, hi, he⟩ := List.mem_iff_getElem.1 hf
  have hl := (h.loc p hp).frl
  have hfa : frAt (L p) (i / 2) (i % 2) = some f := by
    unfold frAt
    rw [show i / 2 * 2 + i % 2 = i by omega, List.getElem?_eq_getElem hi, he]
    rfl
  have ha : i / 2 < n := by omega
  have hok := (h.loc p hp).frs (i / 2) (i % 2) f ha (by omega) hfa
  have h1 := (h.loc _ ha).le hok.1
  have h2 := t.le _ ha
  exact ⟨by omega, h.k.val _ _ _ hok.1⟩
theorem jump_top (h : Sy n mine held b R0 V E L) (t : Top n L R) {p : Nat} (hp : p < n) (mi : List Rn) : (jumpX (L p) held mi).1.round = R ∧ ((L p).round = R → (jumpX (L p) held mi).1 = L p) := by
  have hall := fun f (hf : some f ∈ (L p).fr) => kept_le h t hp hf
  by_cases hr : (L p).round = R
  · have hn : bestX (L p) held = none := by
      cases hb : bestX (L p) held with
      | none => rfl
      | some f =>
        have h1 := foldl_mem held (L p).round (L p).fr f hb
        rcases best_mem (L p).fr none f hb with q | ⟨i, q⟩
        · cases q
        · have := (hall f (List.mem_of_getElem? q)).1
          omega
    have : (jumpX (L p) held mi).1 = L p := by unfold jumpX; rw [hn]
    exact ⟨by rw [this]; exact hr, fun _ => this⟩
  · have hlt : (L p).round < R := by have := t.le p hp; omega
    obtain ⟨a, ha, haR⟩ := t.ex
    have hap : a ≠ p := fun q => hr (by rw [← q]; exact haR)
    obtain ⟨f, hf, hfr⟩ := h.s1 p a hp ha hap
    have hfm := frAt_mem hf
    obtain ⟨g, hg, hgr⟩ := best_ge (held := held) (r := (L p).round) (X := R) (L p).fr none (.inr ⟨f, hfm, by omega, h.hh _ (hall f hfm).2, by omega⟩)
    have hb : bestX (L p) held = some g := hg
    rcases best_mem (L p).fr none g hg with q | ⟨i, q⟩
    · cases q
    have hgle := (hall g (List.mem_of_getElem? q)).1
    refine ⟨?_, fun q => absurd q hr⟩
    unfold jumpX
    rw [hb]
    show g.round = R
    omega
/-- The end of a step: it decides, goes on, or stays. -/
theorem end_cases {m : XI} {mi : List Rn} {ch : Bool} (hd : m.decided = []) (hr : 0 ≤ m.round ∧ m.round + 1 < 18446744073709551616) : (endX m held mi ch).1.decided ≠ [] ∨ ((endX m held mi ch).1.decided = [] ∧ ((endX m held mi ch).1.round = m.round + 1 ∧ ((judgeX m held).1 = 3 ∨ (judgeX m held).1 = 2)) ∨ ((endX m held mi ch).1 = m ∧ (judgeX m held).1 ≠ 4 ∧ (judgeX m held).1 ≠ 3 ∧ (judgeX m held).1 ≠ 2)) := by
  have hw : IntKind.u64.wrap (m.round + 1) = m.round + 1 := w_u64 (by omega) (by omega)
  unfold endX
  split
  · rename_i h4
    exact .inl (judge4 h4)
  · rename_i h4
    split
    · rename_i h3
      exact .inr (.inl ⟨hd, hw, .inl h3⟩)
    · rename_i h3
      split
      · rename_i h2
        exact .inr (.inl ⟨hd, hw, .inr h2⟩)
      · rename_i h2
        exact .inr (.inr ⟨rfl, h4, h3, h2⟩)
theorem judgeN_full {a c : Nat} (hn : 1 ≤ n) (h : a + c = n) : judgeN n a c true = 4 ∨ judgeN n a c true = 3 ∨ judgeN n a c true = 2 := by
  unfold judgeN
  rw [if_neg (by omega)]
  split
  · exact .inl rfl
  · rw [if_neg (by omega)]
    split
    · exact .inr (.inr rfl)
    · rw [if_pos rfl]; exact .inr (.inl rfl)
theorem judgeN_none {a : Nat} (h : Bool) : judgeN n a 0 h = 4 ∨ judgeN n a 0 h = 1 := by
  unfold judgeN
  split
  · exact .inr rfl
  · split
    · exact .inl rfl
    · rw [if_pos (by omega)]
      exact .inr rfl
/-- What a step brings. -/
structure StepQ (n : Nat) (L : Nat → XI) (R : Int) (p : Nat) (m' : XI) : Prop where
  top : m'.decided ≠ [] ∨ (m'.decided = [] ∧ (m'.round = R ∨ m'.round = R + 1))
  cast : (L (coordN n 1 R)).round = R → m'.decided = [] → m'.round = R → m'.cast = true
  full : (∀ a, a < n → (L a).round = R ∧ (L a).cast = true) → m'.decided = [] → m'.round = R + 1
theorem cnt_split (l : List (List Rn)) : someV l + noneV l = l.length := by
  unfold someV noneV
  induction l with
  | nil => rfl
  | cons x l ih =>
    simp only [List.countP_cons, List.length_cons]
    by_cases h : x = []
    · simp only [h, decide_true, Bool.not_true, Bool.false_eq_true, if_false, if_true]
      omega
    · simp only [h, decide_false, Bool.not_false, Bool.false_eq_true, if_false, if_true]
      omega
theorem auxs_full {m : XI} {p : Nat} (hp : p < n) (hn : m.n = n) (h : ∀ a, a < n → a ≠ p → ∃ f, ofX m a 1 = some f) : n ≤ (auxs m n).length + 1 := by
  have key : ∀ q, q ≤ n → q ≤ (auxs m q).length + if p < q then 1 else 0 := by
    intro q
    induction q with
    | zero => intro _; simp
    | succ q ih =>
      intro hq
      have ih := ih (by omega)
      have : auxs m (q + 1) = auxs m q ++ (match ofX m q 1 with | some f => [f.aux] | none => []) := by
        unfold auxs
        rw [List.range_succ, List.filterMap_append]
        congr 1
        cases hox : ofX m q 1 <;> simp [hox]
      rw [this, List.length_append]
      by_cases z : q = p
      · subst z
        rw [if_neg (by omega)] at ih
        rw [if_pos (by omega)]
        omega
      · obtain ⟨f, hf⟩ := h q (by omega) z
        rw [hf]
        simp only [List.length_cons, List.length_nil]
        split
        · split at ih <;> omega
        · rw [if_neg (by omega)] at ih
          omega
  have := key n (Nat.le_refl _)
  rw [if_pos hp] at this
  exact this
theorem ofX_at {m : XI} {a ph : Nat} {f : SF} (h : frAt m a ph = some f) (hr : f.round = m.round) : ofX m a ph = some f := by
  unfold ofX
  rw [h]
  simp only
  rw [if_pos hr]
theorem frAt_fr {m m' : XI} (h : m'.fr = m.fr) (a ph : Nat) : frAt m' a ph = frAt m a ph := by unfold frAt; rw [h]
theorem voted_mn {l : List (List Rn)} (h : ∀ w ∈ l, Mn n mine w) : Mn n mine (votedV l) := by
  by_cases q : votedV l = []
  · exact .inl q
  · exact h _ (votedV_mem q)
theorem vote_cast (h : Sy n mine held b R0 V E L) (t : Top n L R) {p : Nat} (hp : p < n) (hc : (L (coordN n 1 R)).round = R) : (votesX (jumpX (L p) held (mine p)).1 held []).1.cast = true := by
  have hj := jump_same (L p) held (mine p)
  have hjt := (jump_top h t hp (mine p)).1
  have hl := h.loc p hp
  have hcl := coordN_lt (n := n) (by omega) 1 R
  generalize (jumpX (L p) held (mine p)).1 = mj at hj hjt
  have hcm : coordN mj.n mj.number mj.round = coordN n 1 R := by rw [hj.1.n, hj.1.number, hjt, hl.hn, hl.num]
  unfold votesX
  rw [hcm]
  split
  · assumption
  · split
    · rfl
    · rename_i hme
      have hcp : coordN n 1 R ≠ p := fun q => hme (by rw [hj.1.me, hl.me]; exact q)
      obtain ⟨f, hf, hfr⟩ := h.s1 p _ hp hcl hcp
      rw [ofX_at (f := f) (by rw [frAt_fr hj.2.2.1]; exact hf) (by rw [hfr, hc, hjt])]
theorem step_top (h : Sy n mine held b R0 V E L) (t : Top n L R) {p : Nat} (hp : p < n) : StepQ n L R p (stepX (L p) held (mine p) []).1 := by
  have hj := jump_same (L p) held (mine p)
  have hjt := jump_top h t hp (mine p)
  have hl := h.loc p hp
  have hv := votes_same (jumpX (L p) held (mine p)).1 held []
  have hvc := vote_cast h t hp
  have hd := h.und p hp
  have hR : 0 ≤ R ∧ R ≤ b := by
    obtain ⟨a, ha, haR⟩ := t.ex
    have h1 := (h.loc a ha).rnd
    have h2 := h.k.bnd _ _ _ (h.loc a ha).est
    omega
  have hbb := h.bb
  have hvr : (votesX (jumpX (L p) held (mine p)).1 held []).1.round = R := hv.2.2.2.2.1.trans hjt.1
  have hvd : (votesX (jumpX (L p) held (mine p)).1 held []).1.decided = [] := hv.2.1.trans (hj.2.1.trans hd)
  have hvf : (votesX (jumpX (L p) held (mine p)).1 held []).1.fr = (L p).fr := hv.2.2.1.trans hj.2.2.1
  have hs4 := hj.1.trans hv.1
  have hmv : (∀ a, a < n → (L a).round = R ∧ (L a).cast = true) → (votesX (jumpX (L p) held (mine p)).1 held []).1 = L p := fun q => by
    have h1 := hjt.2 (q p hp).1
    rw [h1]
    rw [h1] at hv
    exact hv.2.2.2.2.2 (q p hp).2
  unfold stepX
  rw [if_neg (fun q => q hd)]
  generalize ((votesX (jumpX (L p) held (mine p)).1 held []).2 || (jumpX (L p) held (mine p)).2) = ch
  generalize hgm : (votesX (jumpX (L p) held (mine p)).1 held []).1 = mv at hvc hvr hvd hvf hs4 hmv
  cases hcc : mv.cast
  · rw [if_pos rfl]
    exact ⟨.inr ⟨hvd, .inl hvr⟩, fun q _ _ => absurd (hvc q) (by rw [hcc]; simp), fun q _ => by
      have := hmv q
      rw [this, (q p hp).2] at hcc
      cases hcc⟩
  · rw [if_neg (by simp)]
    have he := end_cases (m := mv) (held := held) (mi := mine p) (ch := ch) hvd (by omega)
    refine ⟨?_, fun q1 q2 q3 => ?_, fun q1 q2 => ?_⟩
    · rcases he with he | ⟨h1, h2, _⟩ | ⟨h1, _⟩
      · exact .inl he
      · exact .inr ⟨h1, .inr (by omega)⟩
      · rw [h1]; exact .inr ⟨hvd, .inl hvr⟩
    · rcases he with he | ⟨h1, h2, _⟩ | ⟨h1, _⟩
      · exact absurd q2 he
      · omega
      · rw [h1]; exact hcc
    · have hm := hmv q1
      rcases he with he | ⟨h1, h2, _⟩ | ⟨h1, h4, h3, h2⟩
      · exact absurd q2 he
      · omega
      · exfalso
        rw [hm] at h4 h3 h2
        have hall : n ≤ (auxs (L p) n).length + 1 := auxs_full hp hl.hn fun a ha hap => by
          obtain ⟨f, hf, hfr⟩ := h.s2 p a hp ha hap (q1 a ha).2
          exact ⟨f, ofX_at hf (by rw [hfr, (q1 a ha).1, (q1 p hp).1])⟩
        have hle := seen_le hl hp (q1 p hp).2 (fun _ => true) (fun _ => true) (fun _ _ _ _ => rfl)
        have hlen : (allV (L p)).length = n := by
          have e1 : (allV (L p)).length = (auxs (L p) n).length + 1 := by unfold allV; rw [hl.hn]; rfl
          have e2 : (allV (L p)).length ≤ n := by simpa using hle
          omega
        have hsum := cnt_split (allV (L p))
        have hmn : ∀ w ∈ allV (L p), Mn n mine w := fun w hw => by
          by_cases hne : w = []
          · exact .inl hne
          · exact h.k.val _ _ _ (allV_vote h.k hl (q1 p hp).2 hw hne)
        have hheld := h.hh _ (voted_mn hmn)
        have hjx : (judgeX (L p) held).1 = judgeN n (someV (allV (L p))) (noneV (allV (L p))) true := by
          show judgeN (L p).n _ _ (heldB held (votedV (allV (L p)))) = _
          rw [hl.hn, hheld]
        rw [hjx] at h4 h3 h2
        rcases judgeN_full (n := n) (a := someV (allV (L p))) (c := noneV (allV (L p))) (by omega) (by omega) with z | z | z
        · exact h4 z
        · exact h3 z
        · exact h2 z
/-- In a later round whose coordinator has a batch nobody goes on. -/
theorem step_stay (h : Sy n mine held b R0 V E L) (t : Top n L R) (hR0 : R0 < R) (hc : (L (coordN n 1 R)).est ≠ []) {p : Nat} (hp : p < n) : (stepX (L p) held (mine p) []).1.decided ≠ [] ∨ (stepX (L p) held (mine p) []).1.round = R := by
  have hj := jump_same (L p) held (mine p)
  have hjt := jump_top h t hp (mine p)
  have hl := h.loc p hp
  have hv := votes_same (jumpX (L p) held (mine p)).1 held []
  have hd := h.und p hp
  have hcl := coordN_lt (n := n) (by omega) 1 R
  have hR : 0 ≤ R ∧ R ≤ b := by
    obtain ⟨a, ha, haR⟩ := t.ex
    have h1 := (h.loc a ha).rnd
    have h2 := h.k.bnd _ _ _ (h.loc a ha).est
    omega
  have hbb := h.bb
  have hvr : (votesX (jumpX (L p) held (mine p)).1 held []).1.round = R := hv.2.2.2.2.1.trans hjt.1
  have hvd : (votesX (jumpX (L p) held (mine p)).1 held []).1.decided = [] := hv.2.1.trans (hj.2.1.trans hd)
  have hvf : (votesX (jumpX (L p) held (mine p)).1 held []).1.fr = (L p).fr := hv.2.2.1.trans hj.2.2.1
  have hs4 := hj.1.trans hv.1
  -- what the coordinator has in this round
  have hE : ∀ w, E (coordN n 1 R) R = some w → w ≠ [] := fun w hw => by
    have h1 := (h.loc _ hcl).le hw
    have h2 := t.le _ hcl
    have h3 := (h.loc _ hcl).est
    rw [show (L (coordN n 1 R)).round = R by omega] at h3
    rw [h3] at hw
    injection hw with hw
    rw [← hw]; exact hc
  -- the vote that is cast
  have hvote : (votesX (jumpX (L p) held (mine p)).1 held []).1.cast = true → (votesX (jumpX (L p) held (mine p)).1 held []).1.vote ≠ [] := by
    have hest := hj.2.2.2.1
    have hj5 := hj.2.2.2.2
    have hjR := hjt.1
    have hfr := hj.2.2.1
    have hs := hj.1
    generalize (jumpX (L p) held (mine p)).1 = mj at hest hj5 hjR hfr hs
    have hcm : coordN mj.n mj.number mj.round = coordN n 1 R := by rw [hs.n, hs.number, hjR, hl.hn, hl.num]
    unfold votesX
    rw [hcm]
    split
    · rename_i hcast
      intro _
      rcases hj5 with z | ⟨z, _⟩
      · rw [z] at hcast hjR ⊢
        have h1 := hl.vote hcast
        rw [hjR] at h1
        exact hE _ (h.fr p R _ hp hR0 h1)
      · rw [z] at hcast; cases hcast
    · split
      · rename_i hme
        intro _
        have hcp : coordN n 1 R = p := by rw [hme, hs.me, hl.me]
        rw [hcp] at hc
        exact hest hc
      · cases hof : ofX mj (coordN n 1 R) 0 with
        | none =>
          simp only [List.not_mem_nil, if_false]
          intro q
          rename_i hcast _
          exact absurd q hcast
        | some f =>
          simp only
          intro _
          have hfa : frAt (L p) (coordN n 1 R) 0 = some f ∧ f.round = R := by
            unfold ofX at hof
            rw [frAt_fr hfr] at hof
            cases hx : frAt (L p) (coordN n 1 R) 0 with
            | none => rw [hx] at hof; cases hof
            | some g =>
              rw [hx] at hof
              simp only at hof
              split at hof
              · rename_i hr
                injection hof with hof
                subst hof
                exact ⟨rfl, by rw [hr, hjR]⟩
              · cases hof
          have hok := (hl.frs _ 0 f hcl (by decide) hfa.1).1
          rw [hfa.2] at hok
          rw [if_pos (h.hh _ (h.k.val _ _ _ hok))]
          exact hE _ hok
  unfold stepX
  rw [if_neg (fun q => q hd)]
  generalize ((votesX (jumpX (L p) held (mine p)).1 held []).2 || (jumpX (L p) held (mine p)).2) = ch
  generalize (votesX (jumpX (L p) held (mine p)).1 held []).1 = mv at hvote hvr hvd hvf hs4
  cases hcc : mv.cast
  · rw [if_pos rfl]
    exact .inr hvr
  · rw [if_neg (by simp)]
    have he := end_cases (m := mv) (held := held) (mi := mine p) (ch := ch) hvd (by omega)
    have hne : ∀ w ∈ allV mv, w ≠ [] := fun w hw => by
      rcases List.mem_cons.1 hw with rfl | hw
      · exact hvote hcc
      · unfold auxs at hw
        obtain ⟨a, ha, hf⟩ := List.mem_filterMap.1 hw
        have han : a < n := by rw [← hl.hn, ← hs4.n]; exact List.mem_range.1 ha
        cases ho : ofX mv a 1 with
        | none => rw [ho] at hf; cases hf
        | some f =>
          rw [ho] at hf
          have hfw : f.aux = w := Option.some.inj hf
          unfold ofX at ho
          rw [frAt_fr hvf] at ho
          cases hx : frAt (L p) a 1 with
          | none => rw [hx] at ho; cases ho
          | some g =>
            rw [hx] at ho
            simp only at ho
            split at ho
            · rename_i hr
              injection ho with ho
              subst ho
              have hok := (hl.frs a 1 g han (by decide) hx).2 rfl
              rw [hr, hvr, hfw] at hok
              exact hE _ (h.fr a R _ han hR0 hok)
            · cases ho
    have hn0 : noneV (allV mv) = 0 := by
      unfold noneV
      rw [List.countP_eq_zero]
      intro w hw
      simpa using hne w hw
    have hjx : (judgeX mv held).1 = judgeN n (someV (allV mv)) 0 (heldB held (votedV (allV mv))) := by
      show judgeN mv.n _ (noneV (allV mv)) _ = _
      rw [hs4.n, hl.hn, hn0]
    rcases he with he | ⟨h1, h2, h3⟩ | ⟨h1, _⟩
    · exact .inl he
    · exfalso
      rw [hjx] at h3
      rcases judgeN_none (n := n) (a := someV (allV mv)) (heldB held (votedV (allV mv))) with z | z <;> rw [z] at h3 <;> omega
    · rw [h1]; exact .inr hvr
end Go.Proofs.Ytmaidlndikcgkaa.Sim
