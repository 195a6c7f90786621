/- Layer 22: all end: the world's parts: the walk. No condition. -/
import Derived.Test.YtmaidlndikcgkaaB22EndsE
namespace Go.Proofs.Ytmaidlndikcgkaa.Sim
set_option linter.unusedSimpArgs false
set_option linter.unusedVariables false
variable {s s' : Store} {M M' : List Nat} {w : WV} {ps : List PP} {sent : List OFV}

/-- The law's own: its world's row. -/
structure WI (s : Store) (wr n : Nat) (M : List Nat) (w : WV) (ps : List PP) (sent : List OFV) : Prop where
  iw : IsW s M w ps sent
  len : ps.length = n
  g : s.get wr = .cells (wvals n w) false
  wrM : wr ∈ M
  wrR : wr ∉ rowsW w ps
theorem WI.ext {wr n : Nat} (h : WI s wr n M w ps sent) (e : Ext s s') : WI s' wr n M w ps sent := ⟨h.iw.ext e, h.len, (e.get _ (h.iw.lt _ h.wrM)).trans h.g, h.wrM, h.wrR⟩
theorem WI.ld {wr n j : Nat} {v : AV} (h : WI s wr n M w ps sent) (hv : (wvals n w)[j]? = some v) {α : Type} (c : AV → Option α) : aLoad1 (.ptr wr (0 + j) 4) s c = c v := ld_fld h.g rfl hv c
theorem IsW.sentIs (h : IsW s M w ps sent) : IsL (oc 1) 16 s w.sv sent := by
  rcases h.snt with ⟨_, q1, q2⟩ | ⟨id, q1, q2, q3⟩
  · exact .inl ⟨q2, q1⟩
  · exact .inr ⟨id, false, q2, h.lt id (h.sub id (List.mem_append.2 (.inl (by rw [q1]; simp)))), q3⟩
/-- A process comes to hold what another one sent. -/
theorem hold_at {wr n i j : Nat} (h : WI s wr n M w ps sent) (hi : i < ps.length) (hj : j < ps.length) :
    ∃ t q, (∀ {α : Type} (f : Store → Option α), aStore 1 (.ptr ps[i].1.h j n) (.int .u64 (ps[j].2.held.getD j 0)) s f = f t) ∧ WI t wr n M w (ps.set i q) sent ∧ q.2 = { ps[i].2 with held := ps[i].2.held.set j (ps[j].2.held.getD j 0) } ∧ rowsOf q = rowsOf ps[i] := by
  have hln := h.len
  subst hln
  have hpi := h.iw.p i hi
  have sv : ∀ {α : Type} (f : Store → Option α), aStore 1 (.ptr ps[i].1.h j ps.length) (.int .u64 (ps[j].2.held.getD j 0)) s f = f (s.set ps[i].1.h (.cells ((ps[i].2.held.set j (ps[j].2.held.getD j 0)).map (.int .u64)) false)) := fun {α} f => by
    have := storeV (s := s) (id := ps[i].1.h) (k := .u64) hpi.h (i := j) (by rw [hpi.hl]; exact hj) (n := ps[j].2.held.getD j 0) f
    rw [hpi.hl] at this
    exact this
  have et := Fr1.set ps[i].1.h s (.cells ((ps[i].2.held.set j (ps[j].2.held.getD j 0)).map (.int .u64)) false)
  have gt : (s.set ps[i].1.h (.cells ((ps[i].2.held.set j (ps[j].2.held.getD j 0)).map (.int .u64)) false)).get ps[i].1.h = .cells ((ps[i].2.held.set j (ps[j].2.held.getD j 0)).map (.int .u64)) false := by rw [get_set, if_pos rfl]
  refine ⟨_, (ps[i].1, { ps[i].2 with held := ps[i].2.held.set j (ps[j].2.held.getD j 0) }), sv, ?_, rfl, rfl⟩
  generalize s.set ps[i].1.h (.cells ((ps[i].2.held.set j (ps[j].2.held.getD j 0)).map (.int .u64)) false) = t at et gt ⊢
  have hS : ∀ y ∈ [ps[i].1.h], y ∈ rowsOf ps[i] := fun y hy => by rw [List.mem_singleton.1 hy]; simp [rowsOf]
  have hSr : ∀ y ∈ [ps[i].1.h], y ∈ rowsW w ps := fun y hy => rows_mem hi (hS y hy)
  have etS := et.frS (S := [ps[i].1.h]) (by simp)
  have hd := rows_one h.iw.nd hi
  have hpq : IsP t M ps.length i (ps[i].1, { ps[i].2 with held := ps[i].2.held.set j (ps[j].2.held.getD j 0) }) := by
    simp only [rowsOf, List.nodup_cons, List.mem_cons, List.not_mem_nil, or_false, not_or] at hd
    exact ⟨hpi.x.frS etS (fun y hy => h.iw.sub y (hSr y hy)) (by simp only [List.mem_singleton]; exact hd.1.2) (by simp only [List.mem_singleton]; exact hd.2.1), hpi.xn, hpi.me, hpi.num, gt, Nat.lt_of_lt_of_le hpi.hlt et.next, hpi.hM, by rw [List.length_set]; exact hpi.hl, hpi.mi.frS etS fun y hy => h.iw.sub y (hSr y hy)⟩
  have hrs := rows_set (w := w) (q := (ps[i].1, { ps[i].2 with held := ps[i].2.held.set j (ps[j].2.held.getD j 0) })) hi rfl
  exact ⟨h.iw.upd hi rfl rfl etS hS hpq, by rw [List.length_set], (etS.get _ (h.iw.lt _ h.wrM) fun z => h.wrR (hSr _ z)).trans h.g, h.wrM, by rw [hrs]; exact h.wrR⟩
/-- A process steps, nobody being suspected. -/
theorem step_at {wr n i : Nat} (h : WI s wr n M w ps sent) (hi : i < ps.length) (hb : sent.length ≤ 1000000) (k : Nat) (hk : 1001 ≤ k) (hk2 : k ≤ 100000) :
    ∃ s1 s2 M2 w2 q l, rn (k + 10) 15 [.agg (wvals n w), .int .i64 (i : Int), .sl s.next 0 0 1 0] (s.push (.cells [] false)) = some (.agg (wvals n w2), s1) ∧ (∀ {α : Type} (f : Store → Option α), aStore 4 (.ptr wr 0 4) (.agg (wvals n w2)) s1 f = f s2) ∧ WI s2 wr n M2 w2 (ps.set i q) (sent ++ l) ∧ q.2 = { ps[i].2 with x := (stepX ps[i].2.x ps[i].2.held ps[i].2.mine []).1 } ∧ l.map (·.1) = outX q.2.x := by
  have hln := h.len
  subst hln
  have e0 := Ext.push s (.cells [] false)
  have h0 := h.ext e0
  have hsu : IsSl (s.push (.cells [] false)) (.sl s.next 0 0 1 0) .i64 [] := .inr ⟨s.next, false, rfl, Nat.lt_succ_self _, by rw [get_push, if_pos rfl]; rfl⟩
  obtain ⟨s1, M1, w1, q, l, d1, d2, d3, d4⟩ := wstep_run h0.iw hi hsu (fun a b c d e z z2 => by
    injection z with z
    subst z
    have := h.iw.lt _ z2
    omega) (by simp) hb k hk hk2
  have g1 : s1.get wr = .cells (wvals ps.length w) false := (d4.fr.get _ (h0.iw.lt _ h0.wrM) h0.wrR).trans h0.g
  have st : ∀ {α : Type} (f : Store → Option α), aStore 4 (.ptr wr 0 4) (.agg (wvals ps.length w1)) s1 f = f (s1.set wr (.cells (wvals ps.length w1) false)) := fun f => st_all g1 (wv_len _ _) (wv_len _ _) f
  have e2 := Fr1.set wr s1 (.cells (wvals ps.length w1) false)
  have hwl := h.iw.lt _ h.wrM
  have wr1 : wr ∉ rowsW w1 (ps.set i q) := fun z => by
    rcases d4.rows _ z with z | z
    · exact h.wrR z
    · have := e0.next; omega
  have e2S := e2.frS (S := [wr]) (by simp)
  have hW2 := d4.is.frS e2S (fun y hy => by rw [List.mem_singleton.1 hy]; exact d4.m2 _ h.wrM) fun y hy z => wr1 (by rw [← List.mem_singleton.1 z]; exact hy)
  exact ⟨s1, _, M1, w1, q, l, d1, st, ⟨hW2, by rw [List.length_set], by rw [get_set, if_pos rfl], d4.m2 _ h.wrM, wr1⟩, d2, d3⟩
/-- A frame comes to a process. -/
theorem come_at {wr n i : Nat} (h : WI s wr n M w ps sent) (hi : i < ps.length) {x : OFV} (hx : x ∈ sent) (k : Nat) (hk : 1000 ≤ k) (hk2 : k ≤ 100000000) :
    ∃ t b q, rn (k + 7) 16 [.ptr ps[i].1.v.x 0 11, .agg (oc 1 x)] s = some (.bool b, t) ∧ WI t wr n M w (ps.set i q) sent ∧ q.2 = { ps[i].2 with x := (comeX ps[i].2.x x.1.toIF).1 } := by
  have hln := h.len
  subst hln
  have hfj := h.iw.of x hx
  have hpi := h.iw.p i hi
  have hd := rows_one h.iw.nd hi
  obtain ⟨t, b1, b2⟩ := come_run hpi.x h.iw.lt (oc_if hfj.1 hfj.2) k hk hk2
  obtain ⟨v', x2, y2, z2⟩ := b2.ex
  have kp := comeX_keep ps[i].2.x x.1.toIF
  obtain ⟨q, hq⟩ : ∃ q : PP, q = ({ ps[i].1 with v := v' }, { ps[i].2 with x := (comeX ps[i].2.x x.1.toIF).1 }) := ⟨_, rfl⟩
  have hqr : rowsOf q = rowsOf ps[i] := by rw [hq]; simp only [rowsOf, y2, z2]
  have hS : ∀ y ∈ [ps[i].1.v.x, ps[i].1.v.fr], y ∈ rowsOf ps[i] := fun y hy => by
    simp only [rowsOf, List.mem_cons, List.not_mem_nil, or_false] at hy ⊢
    rcases hy with q | q
    · exact .inl q
    · exact .inr (.inl q)
  have hSr : ∀ y ∈ [ps[i].1.v.x, ps[i].1.v.fr], y ∈ rowsW w ps := fun y hy => rows_mem hi (hS y hy)
  have hpq : IsP t M ps.length i q := by
    have hh : ps[i].1.h ∉ [ps[i].1.v.x, ps[i].1.v.fr] := fun q => (hpi.hm hd h.iw.n1.2).hx _ _ _ _ _ rfl q
    rw [hq]
    exact ⟨x2, kp.1.trans hpi.xn, kp.2.1.trans hpi.me, kp.2.2.trans hpi.num, (b2.fr.get _ hpi.hlt hh).trans hpi.h, Nat.lt_of_lt_of_le hpi.hlt b2.fr.next, hpi.hM, hpi.hl, hpi.mi.frS b2.fr fun y hy => h.iw.sub y (hSr y hy)⟩
  have hrs := rows_set (w := w) hi hqr
  exact ⟨t, _, q, b1, ⟨h.iw.upd hi hqr (by rw [hq]) b2.fr hS hpq, by rw [List.length_set], (b2.fr.get _ (h.iw.lt _ h.wrM) fun z => h.wrR (hSr _ z)).trans h.g, h.wrM, by rw [hrs]; exact h.wrR⟩, by rw [hq]⟩
end Go.Proofs.Ytmaidlndikcgkaa.Sim
