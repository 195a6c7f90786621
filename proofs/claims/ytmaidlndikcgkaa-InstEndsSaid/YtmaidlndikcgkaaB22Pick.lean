/- Layer 22: a law's world along its picks. No condition. -/
import Derived.Test.YtmaidlndikcgkaaB22Args
import Derived.Test.YtmaidlndikcgkaaFunEnds
namespace Go.Proofs.Ytmaidlndikcgkaa.Sim
set_option linter.unusedSimpArgs false
set_option linter.unusedVariables false
variable {s s' : Store} {M M' : List Nat} {w : WV} {ps : List PP} {sent : List OFV}

/-- What holds of the processes and of what was sent, behind so many picks. -/
abbrev PI := Nat → List PM → List OF → Prop
structure PkI (I : PI) (s : Store) (wr n : Nat) (x2 : AV) (P : List Pk) (i : Nat) (M : List Nat) (w : WV) (ps : List PP) (sent : List OFV) : Prop where
  iw : IsW s M w ps sent
  len : ps.length = n
  g : s.get wr = .cells (wvals n w) false
  wrM : wr ∈ M
  wrR : wr ∉ rowsW w ps
  inv : I i (ps.map (·.2)) (sent.map (·.1))
  sl : sent.length ≤ 2 * i
  p : IsL pcells 4 s x2 P
  px : ∀ a b c d e, x2 = .sl a b c d e → a ∉ rowsW w ps ∧ a ≠ wr ∧ a < s.next
theorem IsL.frS {β : Type} {c : β → List AV} {es : Nat} {S : List Nat} {v : AV} {l : List β} (h : IsL c es s v l) (e : FrS S s s') (hx : ∀ i b c d f, v = .sl i b c d f → i ∉ S) : IsL c es s' v l := by
  rcases h with h | ⟨q, ro, h1, h2, h3⟩
  · exact .inl h
  · exact .inr ⟨q, ro, h1, Nat.lt_of_lt_of_le h2 e.next, by rw [e.get q h2 (hx _ _ _ _ _ h1)]; exact h3⟩
theorem pk_step {I : PI} (hI : ∀ i l o l' o', I i l o → PStep l o l' o' → I (i + 1) l' o') {wr n i : Nat} {x2 : AV} {P : List Pk} (h : PkI I s wr n x2 P i M w ps sent) (hP : P.length ≤ 300) (hok : ∀ x ∈ P, PkOk x) (hi : i < P.length) (k : Nat) (hk : 1001 ≤ k) (hk2 : k ≤ 100000) :
    ∃ s1 s2 M2 w2 ps2 sent2, rn (k + 11) 10 [.agg (wvals n w), .agg (pcells P[i])] s = some (.agg (wvals n w2), s1) ∧ (∀ {α : Type} (f : Store → Option α), aStore 4 (.ptr wr 0 4) (.agg (wvals n w2)) s1 f = f s2) ∧ PkI I s2 wr n x2 P (i + 1) M2 w2 ps2 sent2 := by
  obtain ⟨s1, M1, w1, ps1, sent1, d1, d2, d3, d4, d5⟩ := do_run h.iw P[i] (hok _ (List.getElem_mem hi)) (by have := h.sl; omega) k hk hk2
  rw [h.len] at d1
  have g1 : s1.get wr = .cells (wvals n w) false := (d2.fr.get _ (h.iw.lt _ h.wrM) h.wrR).trans h.g
  have st : ∀ {α : Type} (f : Store → Option α), aStore 4 (.ptr wr 0 4) (.agg (wvals n w1)) s1 f = f (s1.set wr (.cells (wvals n w1) false)) := fun f => st_all g1 (wv_len _ _) (wv_len _ _) f
  have e2 := Fr1.set wr s1 (.cells (wvals n w1) false)
  have hwl := h.iw.lt _ h.wrM
  have wr1 : wr ∉ rowsW w1 ps1 := fun z => by
    rcases d2.rows _ z with z | z
    · exact h.wrR z
    · omega
  have e2S := e2.frS (S := [wr]) (by simp)
  have hW2 := d2.is.frS e2S (fun y hy => by rw [List.mem_singleton.1 hy]; exact d2.m2 _ h.wrM) fun y hy z => wr1 (by rw [← List.mem_singleton.1 z]; exact hy)
  refine ⟨s1, _, M1, w1, ps1, sent1, d1, st, hW2, d4.trans h.len, by rw [get_set, if_pos rfl], d2.m2 _ h.wrM, wr1, hI _ _ _ _ _ h.inv d3, by have := h.sl; omega, (h.p.frS d2.fr fun a b c d e q => (h.px a b c d e q).1).frS e2S fun a b c d e q => by simp only [List.mem_singleton]; exact (h.px a b c d e q).2.1, fun a b c d e q => ?_⟩
  obtain ⟨x1, x2, x3⟩ := h.px a b c d e q
  refine ⟨fun z => ?_, x2, Nat.lt_of_lt_of_le x3 (Nat.le_trans d2.fr.next e2.next)⟩
  rcases d2.rows _ z with z | z
  · exact x1 z
  · omega
theorem pk_start {I : PI} {m : Nat} {x1 x2 : AV} {cs : List Int} {P : List Pk} (hm : 1 ≤ m ∧ m ≤ 64) (h1 : IsSl s x1 .u8 cs) (hcs : ∀ c ∈ cs, 0 ≤ c ∧ c < 256) (hcl : cs.length ≤ maxLen) (h2 : IsL pcells 4 s x2 P) (hI : I 0 ((List.range m).map (newP m cs)) []) (k : Nat) (hk : 1000 ≤ k) (hk2 : k ≤ 100000) :
    ∃ s1 w ps s3 M, rn (k + 11) 9 [.int .i64 (m : Int), x1] s = some (.agg (wvals m w), s1) ∧ (∀ {α : Type} (f : Store → Option α), aStore 4 (.ptr s1.next 0 4) (.agg (wvals m w)) (s1.push (.cells [AV.nilsl, AV.nilsl, AV.nilsl, AV.nilsl] false)) f = f s3) ∧ PkI I s3 s1.next m x2 P 0 M w ps [] := by
  obtain ⟨s1, w, ps, a1, a2, a3, a4, a5⟩ := ofw_run h1 (n := m) hm hcs hcl (k + 2) (by omega) (by omega)
  have e1 := Ext.push s1 (.cells [AV.nilsl, AV.nilsl, AV.nilsl, AV.nilsl] false)
  have g1 : (s1.push (.cells [AV.nilsl, AV.nilsl, AV.nilsl, AV.nilsl] false)).get s1.next = .cells [AV.nilsl, AV.nilsl, AV.nilsl, AV.nilsl] false := by rw [get_push, if_pos rfl]
  have hl4 : [AV.nilsl, AV.nilsl, AV.nilsl, AV.nilsl].length = 4 := rfl
  have h3 := a2.grow e1 (Nat.le_refl _) (Nat.lt_succ_self _)
  have hp2 := (h2.ext a4).ext e1
  have hlt : s1.next < (s1.push (.cells [AV.nilsl, AV.nilsl, AV.nilsl, AV.nilsl] false)).next := Nat.lt_succ_self _
  refine ⟨s1, w, ps, _, s1.next :: rowsW w ps, a1, fun f => st_all g1 hl4 (wv_len m w) f, ?_⟩
  generalize s1.push (.cells [AV.nilsl, AV.nilsl, AV.nilsl, AV.nilsl] false) = s2 at e1 g1 h3 hp2 hlt ⊢
  have hlen : ps.length = m := by
    have := congrArg List.length a3
    simpa using this
  have hno : s1.next ∉ rowsW w ps := fun z => by have := a2.lt _ z; omega
  have e2 := (Fr1.set s1.next s2 (.cells (wvals m w) false)).frS (S := [s1.next]) (by simp)
  have h4 := h3.frS e2 (fun y hy => by rw [List.mem_singleton.1 hy]; simp) fun y hy z => hno (by rw [← List.mem_singleton.1 z]; exact hy)
  have hlts : ∀ a b c d e, x2 = .sl a b c d e → a < s.next := fun a b c d e q => by
    rcases h2 with ⟨q1, _⟩ | ⟨id, ro, q1, q2, _⟩
    · rw [q1] at q; cases q
    · rw [q1] at q; injection q with q; omega
  refine ⟨h4, hlen, by rw [get_set, if_pos rfl], by simp, hno, by rw [a3]; exact hI, by simp, hp2.frS e2 fun a b c d e q z => ?_, fun a b c d e q => ?_⟩
  · have := hlts a b c d e q
    rw [List.mem_singleton.1 z] at this
    have := a4.next
    omega
  · have := hlts a b c d e q
    have := a4.next
    refine ⟨fun z => ?_, by omega, ?_⟩
    · have := a5 a z; omega
    · show a < s2.next
      omega
end Go.Proofs.Ytmaidlndikcgkaa.Sim
