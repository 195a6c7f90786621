/- Layer 22: all end: the times: the walk. No condition. -/
import Derived.Test.YtmaidlndikcgkaaB22EndsF
namespace Go.Proofs.Ytmaidlndikcgkaa.Sim
set_option linter.unusedSimpArgs false
set_option linter.unusedVariables false
variable {s s' : Store} {M M' : List Nat} {w : WV} {ps : List PP} {sent : List OFV} {n wr : Nat} {cs : List Int}

def Stt (ps : List PP) (F : Nat → XI) : Prop := ∀ p (h : p < ps.length), ps[p].2.x = F p
def Hd (n : Nat) (cs : List Int) (ps : List PP) : Prop := ∀ p (h : p < ps.length), ps[p].2.held = allH n cs ∧ ps[p].2.mine = mineOf cs p
theorem Stt.set {F F' : Nat → XI} {i : Nat} {q : PP} {X : XI} (h : Stt ps F) (hi : i < ps.length) (hq : q.2 = { ps[i].2 with x := X }) (h1 : F' i = X) (h2 : ∀ p, p ≠ i → F' p = F p) : Stt (ps.set i q) F' := by
  intro p hp
  rw [List.length_set] at hp
  rw [List.getElem_set]
  by_cases z : i = p
  · subst z
    rw [if_pos rfl, hq, h1]
  · rw [if_neg z, h2 p (Ne.symm z)]
    exact h p hp
theorem Hd.set {i : Nat} {q : PP} {X : XI} (h : Hd n cs ps) (hi : i < ps.length) (hq : q.2 = { ps[i].2 with x := X }) : Hd n cs (ps.set i q) := by
  intro p hp
  rw [List.length_set] at hp
  rw [List.getElem_set]
  by_cases z : i = p
  · subst z
    rw [if_pos rfl, hq]
    exact h _ hi
  · rw [if_neg z]
    exact h p hp
theorem Stt.congr {F F' : Nat → XI} (h : Stt ps F) (e : ∀ p, p < ps.length → F p = F' p) : Stt ps F' := fun p hp => (h p hp).trans (e p hp)
theorem flat_le (S : Nat → XI) : ∀ i : Nat, ((List.range i).flatMap fun p => outX (S p)).length ≤ 2 * i
  | 0 => by simp
  | i + 1 => by
    have := flat_le S i
    have := outX_le (S i)
    rw [List.range_succ, List.flatMap_append, List.length_append]
    simp only [List.flatMap_cons, List.flatMap_nil, List.append_nil]
    omega
theorem dl_snoc (m : XI) (o : List OF) (f : OF) : dl m (o ++ [f]) = (comeX (dl m o) f.toIF).1 := by
  unfold dl
  rw [List.foldl_append]
  rfl
theorem steps_loop (k : Nat) (hk : 1001 ≤ k) (hk2 : k ≤ 90000) {L : Nat → XI} {x13 x14 : AV} {R0 : AV → AV → AV → Store → Option (AV × Store)} (hn : n ≤ 64) {o0 : List OF} (ho : o0.length ≤ 900000) : ∀ (f i : Nat) (s : Store) (M : List Nat) (w : WV) (ps : List PP) (sent : List OFV), WI s wr n M w ps sent → Stt ps (fun p => if p < i then stepA' (mineOf cs) (allH n cs) L p else L p) → Hd n cs ps → sent.map (·.1) = o0 ++ ((List.range i).flatMap fun p => outX (stepA' (mineOf cs) (allH n cs) L p)) → i ≤ n → n - i < f →
    ∃ s' M' w' ps' sent', F5.l3 (k + 11) R0 f (.int .i64 (n : Int)) (.ptr wr 0 4) x13 x14 (.int .i64 (i : Int)) s = F5.p12 (k + 11) R0 (.int .i64 (n : Int)) (.ptr wr 0 4) x13 x14 s' ∧ WI s' wr n M' w' ps' sent' ∧ Stt ps' (stepA' (mineOf cs) (allH n cs) L) ∧ Hd n cs ps' ∧ sent'.map (·.1) = o0 ++ outs n (stepA' (mineOf cs) (allH n cs) L) := by
  intro f
  induction f with
  | zero => intro i s M w ps sent _ _ _ _ _ hf; omega
  | succ f ih =>
    intro i s M w ps sent h hS hH hsn hi hf
    have hs : F5.l3 (k + 11) R0 (f + 1) (.int .i64 (n : Int)) (.ptr wr 0 4) x13 x14 (.int .i64 (i : Int)) s = F5.p15 (k + 11) R0 (F5.l3 (k + 11) R0 f) (.int .i64 (n : Int)) (.ptr wr 0 4) x13 x14 (.int .i64 (i : Int)) s := rfl
    rw [hs]
    unfold F5.p15
    simp only [lss_i]
    have hlen := h.len
    by_cases hin : (i : Int) < (n : Int)
    rotate_left
    · simp only [decide_eq_false hin, if_f]
      have : i = n := by omega
      subst this
      exact ⟨s, M, w, ps, sent, rfl, h, hS.congr fun p hp => by rw [if_pos (by omega)], hH, hsn⟩
    simp only [decide_eq_true hin, if_t]
    have hi' : i < ps.length := by omega
    unfold F5.p14
    have hsl : sent.length ≤ 1000000 := by
      have h1 := congrArg List.length hsn
      rw [List.length_map, List.length_append] at h1
      have := flat_le (stepA' (mineOf cs) (allH n cs) L) i
      omega
    obtain ⟨s1, s2, M2, w2, q, l, d1, d2, d3, d4, d5⟩ := step_at h hi' hsl (k + 1) (by omega) (by omega)
    have d1' : rn (k + 11) 15 [.agg (wvals n w), .int .i64 (i : Int), .sl s.next 0 0 1 0] (s.push (.cells [] false)) = some (.agg (wvals n w2), s1) := d1
    have hw1 : IntKind.i64.wrap ((i : Int) + 1) = ((i + 1 : Nat) : Int) := by rw [w_i64 (by omega) (by omega)]; omega
    have hbn : ∀ {α : Type} (f : List AV → Option α), aBuild [] [] f = f [] := fun f => rfl
    simp only [ld_all h.g (wv_len _ _), hbn, d1', bnd, d2]
    unfold F5.p13
    simp only [add_i, hw1]
    have hx := hS i hi'
    simp only [Nat.lt_irrefl, if_false] at hx
    have hX : (stepX ps[i].2.x ps[i].2.held ps[i].2.mine []).1 = stepA' (mineOf cs) (allH n cs) L i := by
      rw [hx, (hH i hi').1, (hH i hi').2]
      rfl
    rw [hX] at d4
    refine ih (i + 1) s2 M2 w2 _ _ d3 (hS.set hi' d4 (by rw [if_pos (by omega)]) fun p hp => ?_) (hH.set hi' d4) ?_ (by omega) (by omega)
    · by_cases z : p < i
      · rw [if_pos z, if_pos (by omega)]
      · rw [if_neg z, if_neg (by omega)]
    · have hqx : q.2.x = stepA' (mineOf cs) (allH n cs) L i := by rw [d4]
      rw [List.map_append, hsn, d5, hqx, List.append_assoc, List.range_succ, List.flatMap_append]
      simp only [List.flatMap_cons, List.flatMap_nil, List.append_nil]
theorem come_in (k : Nat) (hk : 1000 ≤ k) (hk2 : k ≤ 100000) {F : Nat → XI} {x13 : AV} {R0 : AV → AV → AV → Store → Option (AV × Store)} {R1 : AV → AV → AV → AV → Store → Option (AV × Store)} (hn : n ≤ 64) {j : Nat} (x : OFV) : ∀ (f i : Nat) (s : Store) (M : List Nat) (w : WV) (ps : List PP), WI s wr n M w ps sent → (hj : j < sent.length) → sent[j] = x → Stt ps (fun p => if p < i then (comeX (F p) x.1.toIF).1 else F p) → Hd n cs ps → i ≤ n → n - i < f →
    ∃ s' M' w' ps', F5.l1 (k + 7) R0 R1 f (.int .i64 (n : Int)) (.ptr wr 0 4) x13 (.int .i64 (j : Int)) (.int .i64 (i : Int)) s = F5.p6 (k + 7) R0 R1 (.int .i64 (n : Int)) (.ptr wr 0 4) x13 (.int .i64 (j : Int)) s' ∧ WI s' wr n M' w' ps' sent ∧ Stt ps' (fun p => (comeX (F p) x.1.toIF).1) ∧ Hd n cs ps' := by
  intro f
  induction f with
  | zero => intro i s M w ps _ _ _ _ _ _ hf; omega
  | succ f ih =>
    intro i s M w ps h hj hjx hS hH hi hf
    have hs : F5.l1 (k + 7) R0 R1 (f + 1) (.int .i64 (n : Int)) (.ptr wr 0 4) x13 (.int .i64 (j : Int)) (.int .i64 (i : Int)) s = F5.p9 (k + 7) R0 R1 (F5.l1 (k + 7) R0 R1 f) (.int .i64 (n : Int)) (.ptr wr 0 4) x13 (.int .i64 (j : Int)) (.int .i64 (i : Int)) s := rfl
    rw [hs]
    unfold F5.p9
    simp only [lss_i]
    have hlen := h.len
    subst hlen
    by_cases hin : (i : Int) < (ps.length : Int)
    rotate_left
    · simp only [decide_eq_false hin, if_f]
      have : i = ps.length := by omega
      exact ⟨s, M, w, ps, rfl, h, hS.congr fun p hp => by rw [if_pos (by omega)], hH⟩
    simp only [decide_eq_true hin, if_t]
    have hi' : i < ps.length := by omega
    unfold F5.p8
    obtain ⟨p, q1, q2⟩ := elemL (oc_len 1) h.iw.sentIs hj
    obtain ⟨t, b, q, b1, b2, b3⟩ := come_at h hi' (List.getElem_mem hj) k hk (by omega)
    have hw1 : IntKind.i64.wrap ((i : Int) + 1) = ((i + 1 : Nat) : Int) := by rw [w_i64 (by omega) (by omega)]; omega
    have l0 : ∀ {α : Type} (c : AV → Option α), aLoad1 (.ptr wr (0 + 0) 4) s c = c (.sl w.lr 0 ps.length 1 ps.length) := fun {α} c => h.ld rfl c
    have l3 : ∀ {α : Type} (c : AV → Option α), aLoad1 (.ptr wr (0 + 3) 4) s c = c w.sv := fun {α} c => h.ld rfl c
    have lL := fun {α : Type} (c : AV → Option α) => h.iw.ldL hi' c
    simp only [fld_p, l0, l3, idx1 hi', lL, q1, q2, b1, bnd]
    unfold F5.p7
    simp only [add_i, hw1]
    have hx := hS i hi'
    simp only [Nat.lt_irrefl, if_false] at hx
    rw [hx, hjx] at b3
    obtain ⟨s', M', w', ps', c1, c2⟩ := ih (i + 1) t M w _ b2 hj hjx (hS.set hi' b3 (by rw [if_pos (by omega)]) fun p hp => by
      by_cases z : p < i
      · rw [if_pos z, if_pos (by omega)]
      · rw [if_neg z, if_neg (by omega)]) (hH.set hi' b3) (by omega) (by omega)
    exact ⟨s', M', w', ps', c1, c2⟩
theorem come_out (k : Nat) (hk : 1000 ≤ k) (hk2 : k ≤ 100000) {S : Nat → XI} {x13 : AV} {R0 : AV → AV → AV → Store → Option (AV × Store)} (hn : n ≤ 64) {o0 O : List OF} (hsn : sent.map (·.1) = o0 ++ O) (hsl : sent.length ≤ 1000000) : ∀ (f i : Nat) (s : Store) (M : List Nat) (w : WV) (ps : List PP), WI s wr n M w ps sent → Stt ps (fun p => dl (S p) (O.take i)) → Hd n cs ps → i ≤ O.length → O.length - i < f →
    ∃ s' M' w' ps', F5.l2 (k + 7) R0 f (.int .i64 (n : Int)) (.ptr wr 0 4) x13 (.int .i64 ((o0.length + i : Nat) : Int)) s = F5.p5 (k + 7) R0 (.int .i64 (n : Int)) (.ptr wr 0 4) x13 s' ∧ WI s' wr n M' w' ps' sent ∧ Stt ps' (fun p => dl (S p) O) ∧ Hd n cs ps' := by
  intro f
  induction f with
  | zero => intro i s M w ps _ _ _ _ hf; omega
  | succ f ih =>
    intro i s M w ps h hS hH hi hf
    have hs : F5.l2 (k + 7) R0 (f + 1) (.int .i64 (n : Int)) (.ptr wr 0 4) x13 (.int .i64 ((o0.length + i : Nat) : Int)) s = F5.p11 (k + 7) R0 (F5.l2 (k + 7) R0 f) (.int .i64 (n : Int)) (.ptr wr 0 4) x13 (.int .i64 ((o0.length + i : Nat) : Int)) s := rfl
    rw [hs]
    unfold F5.p11
    have l3 : ∀ {α : Type} (c : AV → Option α), aLoad1 (.ptr wr (0 + 3) 4) s c = c w.sv := fun {α} c => h.ld rfl c
    have hsl2 := fun {α : Type} (c : AV → Option α) => lenL h.iw.sentIs c
    have hls : sent.length = o0.length + O.length := by
      have := congrArg List.length hsn
      rw [List.length_map, List.length_append] at this
      exact this
    simp only [fld_p, l3, hsl2, lss_i]
    by_cases hin : ((o0.length + i : Nat) : Int) < (sent.length : Int)
    rotate_left
    · simp only [decide_eq_false hin, if_f]
      have : i = O.length := by omega
      exact ⟨s, M, w, ps, rfl, h, hS.congr fun p hp => by rw [List.take_of_length_le (by omega)], hH⟩
    simp only [decide_eq_true hin, if_t]
    unfold F5.p10
    have hj : o0.length + i < sent.length := by omega
    have hi' : i < O.length := by omega
    have hjx : sent[o0.length + i].1 = O[i] := by
      have h1 : (sent.map (·.1))[o0.length + i]'(by rw [List.length_map]; exact hj) = (o0 ++ O)[o0.length + i]'(by rw [List.length_append]; omega) := by
        simp only [hsn]
      rw [List.getElem_map] at h1
      rw [h1, List.getElem_append_right (by omega)]
      simp only [Nat.add_sub_cancel_left]
    obtain ⟨s1, M1, w1, ps1, a1, a2, a3, a4⟩ := come_in (cs := cs) (sent := sent) (x13 := x13) (R0 := R0) (R1 := F5.l2 (k + 7) R0 f) k hk hk2 hn (j := o0.length + i) sent[o0.length + i] (F := fun p => dl (S p) (O.take i)) (k + 7) 0 s M w ps h hj rfl (hS.congr fun p hp => by rw [if_neg (by omega)]) hH (by omega) (by omega)
    rw [show ((0 : Nat) : Int) = 0 from rfl] at a1
    rw [a1]
    unfold F5.p6
    have hw1 : IntKind.i64.wrap (((o0.length + i : Nat) : Int) + 1) = ((o0.length + (i + 1) : Nat) : Int) := by rw [w_i64 (by omega) (by omega)]; omega
    simp only [add_i, hw1]
    refine ih (i + 1) s1 M1 w1 ps1 a2 (a3.congr fun p hp => ?_) a4 (by omega) (by omega)
    rw [← List.take_append_getElem hi', dl_snoc, hjx]
end Go.Proofs.Ytmaidlndikcgkaa.Sim
