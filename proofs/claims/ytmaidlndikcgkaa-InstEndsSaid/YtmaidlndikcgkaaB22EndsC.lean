/- Layer 22: all end: what is delivered; plain. No condition. -/
import Derived.Test.YtmaidlndikcgkaaB22EndsB
namespace Go.Proofs.Ytmaidlndikcgkaa.Sim
set_option linter.unusedSimpArgs false
set_option linter.unusedVariables false

structure Rcv (m m' : XI) : Prop where
  s : Same4 m m'
  round : m'.round = m.round
  cast : m'.cast = m.cast
  est : m'.est = m.est
  len : m'.fr.length = m.fr.length
  kept : ∀ a ph g, frAt m a ph = some g → ∃ g', frAt m' a ph = some g' ∧ g.round ≤ g'.round
  dec : m.decided ≠ [] → m'.decided = m.decided
theorem Rcv.refl (m : XI) : Rcv m m := ⟨Same4.refl m, rfl, rfl, rfl, rfl, fun a ph g h => ⟨g, h, Int.le_refl _⟩, fun _ => rfl⟩
theorem Rcv.trans {m m' m'' : XI} (h : Rcv m m') (k : Rcv m' m'') : Rcv m m'' :=
  ⟨h.s.trans k.s, k.round.trans h.round, k.cast.trans h.cast, k.est.trans h.est, k.len.trans h.len, fun a ph g hg => by
    obtain ⟨g1, h1, h2⟩ := h.kept a ph g hg
    obtain ⟨g2, h3, h4⟩ := k.kept a ph g1 h1
    exact ⟨g2, h3, by omega⟩, fun q => (k.dec (by rw [h.dec q]; exact q)).trans (h.dec q)⟩
theorem fits_same {m m' : XI} (h : Same4 m m') (f : IFm) : fitsX m' f = fitsX m f := by
  unfold fitsX okX
  rw [h.n, h.me, h.number, h.base, h.most]
theorem put_kept {m : XI} {i : Nat} {f : SF} (hno : ∀ o, m.fr[i]? = some (some o) → o.round < f.round) : ∀ a ph g, frAt m a ph = some g → ∃ g', frAt { m with fr := m.fr.set i (some f) } a ph = some g' ∧ g.round ≤ g'.round := by
  intro a ph g hg
  unfold frAt at hg ⊢
  simp only [List.getElem?_set]
  by_cases q : i = a * 2 + ph
  · rw [if_pos q]
    cases hx : m.fr[a * 2 + ph]? with
    | none => rw [hx] at hg; cases hg
    | some o =>
      rw [hx] at hg
      simp only [Option.getD_some] at hg
      subst hg
      rw [if_pos (by rw [q]; exact (List.getElem?_eq_some_iff.1 hx).1)]
      have := hno g (by rw [q, hx])
      exact ⟨f, rfl, by omega⟩
  · rw [if_neg q]
    exact ⟨g, hg, Int.le_refl _⟩
theorem come_rcv (m : XI) (f : IFm) : Rcv m (comeX m f).1 := by
  unfold comeX
  split
  · exact Rcv.refl m
  · split
    · split
      · rename_i hd
        exact ⟨⟨rfl, rfl, rfl, rfl, rfl⟩, rfl, rfl, rfl, rfl, fun a ph g h => ⟨g, h, Int.le_refl _⟩, fun q => absurd hd q⟩
      · exact Rcv.refl m
    · split
      · rename_i hn
        exact ⟨⟨rfl, rfl, rfl, rfl, rfl⟩, rfl, rfl, rfl, by simp, put_kept (fun o ho => by
          unfold frAt at hn
          rw [ho] at hn
          cases hn), fun q => rfl⟩
      · rename_i o hs
        split
        · exact ⟨⟨rfl, rfl, rfl, rfl, rfl⟩, rfl, rfl, rfl, by simp, put_kept (fun o' ho => by
            unfold frAt at hs
            rw [ho] at hs
            simp only [Option.getD_some] at hs
            injection hs with hs
            subst hs
            show o'.round < f.round
            omega), fun q => rfl⟩
        · exact Rcv.refl m
/-- A frame that fits is kept, or a later one. -/
theorem come_got {m : XI} {f : IFm} (hf : fitsX m f = true) (h8 : f.kind ≠ 8) (hs : 0 ≤ f.src) (hl : m.fr.length = m.n * 2) : ∃ g, frAt (comeX m f).1 f.src.toNat (f.kind - 6).toNat = some g ∧ f.round ≤ g.round := by
  obtain ⟨h1, _, _, h4, h5, _⟩ := fitsX_of hf
  unfold comeX
  rw [if_neg (by rw [hf]; simp), if_neg h8]
  have hi : f.src.toNat * 2 + (f.kind - 6).toNat < m.fr.length := by omega
  cases hx : frAt m f.src.toNat (f.kind - 6).toNat with
  | none =>
    refine ⟨⟨f.round, f.est, f.aux⟩, ?_, Int.le_refl _⟩
    show ((m.fr.set _ _)[_]?).getD none = _
    rw [List.getElem?_set, if_pos rfl, if_pos hi]
    rfl
  | some o =>
    simp only
    split
    · refine ⟨⟨f.round, f.est, f.aux⟩, ?_, Int.le_refl _⟩
      show ((m.fr.set _ _)[_]?).getD none = _
      rw [List.getElem?_set, if_pos rfl, if_pos hi]
      rfl
    · exact ⟨o, hx, by omega⟩
theorem come_dec {m : XI} {f : IFm} (hf : fitsX m f = true) (h8 : f.kind = 8) : (comeX m f).1.decided ≠ [] := by
  have := (fitsX_of hf).2.2.2.2.2.2.2 h8
  unfold comeX
  rw [if_neg (by rw [hf]; simp), if_pos h8]
  split
  · exact this
  · assumption
theorem come_und {m : XI} {f : IFm} (h8 : f.kind ≠ 8) : (comeX m f).1.decided = m.decided := by
  unfold comeX
  split
  · rfl
  · split
    · rfl
    · split <;> rfl
def dl (m : XI) (o : List OF) : XI := o.foldl (fun m f => (comeX m f.toIF).1) m
theorem dl_rcv : ∀ (o : List OF) (m : XI), Rcv m (dl m o)
  | [], m => Rcv.refl m
  | f :: o, m => (come_rcv m f.toIF).trans (dl_rcv o _)
theorem dl_loc {n p : Nat} {V E : Gh} : ∀ (o : List OF) (m : XI), PLoc n V E p m → (∀ f ∈ o, OOk n V E f) → PLoc n V E p (dl m o)
  | [], m, h, _ => h
  | f :: o, m, h, ho => dl_loc o _ (come_ok h (ho f List.mem_cons_self)) fun g hg => ho g (List.mem_cons_of_mem _ hg)
theorem dl_und : ∀ (o : List OF) (m : XI), (∀ f ∈ o, f.kind ≠ 8) → (dl m o).decided = m.decided
  | [], m, _ => rfl
  | f :: o, m, h => (dl_und o _ fun g hg => h g (List.mem_cons_of_mem _ hg)).trans (come_und (by
    have := h f List.mem_cons_self
    show ((f.kind : Nat) : Int) ≠ 8
    omega))
theorem dl_got {f : OF} : ∀ (o : List OF) (m : XI), f ∈ o → fitsX m f.toIF = true → m.fr.length = m.n * 2 → (f.kind ≠ 8 → ∃ g, frAt (dl m o) f.src (f.kind - 6) = some g ∧ f.round ≤ g.round) ∧ (f.kind = 8 → (dl m o).decided ≠ [])
  | [], m, h, _, _ => (List.not_mem_nil h).elim
  | x :: o, m, h, hf, hl => by
    have hr := come_rcv m x.toIF
    have hl2 : (comeX m x.toIF).1.fr.length = (comeX m x.toIF).1.n * 2 := by rw [hr.len, hr.s.n]; exact hl
    rcases List.mem_cons.1 h with rfl | h
    · have hr2 := dl_rcv o (comeX m f.toIF).1
      refine ⟨fun h8 => ?_, fun h8 => ?_⟩
      · obtain ⟨g, h1, h2⟩ := come_got hf (by show ((f.kind : Nat) : Int) ≠ 8; omega) (by show 0 ≤ ((f.src : Nat) : Int); omega) hl
        have e1 : f.toIF.src.toNat = f.src := by show ((f.src : Nat) : Int).toNat = _; omega
        have e2 : (f.toIF.kind - 6).toNat = f.kind - 6 := by show (((f.kind : Nat) : Int) - 6).toNat = _; omega
        rw [e1, e2] at h1
        obtain ⟨g', h3, h4⟩ := hr2.kept _ _ _ h1
        have h2 : f.round ≤ g.round := h2
        exact ⟨g', h3, by omega⟩
      · have := come_dec hf (by show ((f.kind : Nat) : Int) = 8; omega)
        show (dl (comeX m f.toIF).1 o).decided ≠ []
        rw [hr2.dec this]
        exact this
    · exact dl_got o _ h (by rw [fits_same hr.s]; exact hf) hl2
theorem steps_live {n : Nat} {mine : Nat → List Rn} {held : List Int} {b R0 : Int} {V E : Gh} {L : Nat → XI} (k : KK n mine b V E) (loc : ∀ p, p < n → PLoc n V E p (L p)) (fr : Frr n R0 V E) (hb : b + n < 18446744073709551616) (hh : ∀ e, Mn n mine e → heldB held e = true) : ∀ j, j ≤ n → ∃ V' E', KK n mine (b + j) V' E' ∧ (∀ p, p < n → PLoc n V' E' p (if p < j then (stepX (L p) held (mine p) []).1 else L p)) ∧ Frr n R0 V' E' ∧ (∀ a r w, V a r = some w → V' a r = some w) ∧ ∀ a r w, E a r = some w → E' a r = some w := by
  intro j
  induction j with
  | zero => intro _; exact ⟨V, E, k.mono (by omega), fun p hp => by rw [if_neg (by omega)]; exact loc p hp, fr, fun _ _ _ h => h, fun _ _ _ h => h⟩
  | succ j ih =>
    intro hj
    obtain ⟨V1, E1, k1, l1, f1, g1, g2⟩ := ih (by omega)
    have hl := l1 j (by omega)
    rw [if_neg (by omega)] at hl
    obtain ⟨V2, E2, g, k2, l2, f2⟩ := step_live (held := held) k1 hl (by omega) (by omega) hh
    refine ⟨V2, E2, k2.mono (by omega), fun p hp => ?_, f1.step g f2, fun a r w h => g.v _ _ _ (g1 a r w h), fun a r w h => g.e _ _ _ (g2 a r w h)⟩
    by_cases q : p = j
    · subst q
      rw [if_pos (by omega)]
      exact l2
    · have := (l1 p hp).other g q
      by_cases z : p < j
      · rw [if_pos z] at this
        rw [if_pos (by omega)]
        exact this
      · rw [if_neg z] at this
        rw [if_neg (by omega)]
        exact this
def outs (n : Nat) (L : Nat → XI) : List OF := (List.range n).flatMap fun p => outX (L p)
theorem mem_outs {n : Nat} {L : Nat → XI} {f : OF} : f ∈ outs n L ↔ ∃ p, p < n ∧ f ∈ outX (L p) := by
  unfold outs
  rw [List.mem_flatMap]
  constructor
  · rintro ⟨p, h1, h2⟩; exact ⟨p, List.mem_range.1 h1, h2⟩
  · rintro ⟨p, h1, h2⟩; exact ⟨p, List.mem_range.2 h1, h2⟩
structure Bm (n : Nat) (m : XI) : Prop where
  base : m.base = List.replicate n 0
  most : m.most = 100
theorem Bm.same {n : Nat} {m m' : XI} (h : Bm n m) (s : Same4 m m') : Bm n m' := ⟨s.base.trans h.base, s.most.trans h.most⟩
theorem fits_out {n p a : Nat} {mine : Nat → List Rn} {b : Int} {V E : Gh} {m ma : XI} (k : KK n mine b V E) (h : PLoc n V E p m) (ha : PLoc n V E a ma) (hbm : Bm n m) (han : a < n) (hap : a ≠ p) (hmay : ∀ q, q < n → mine q ≠ [] → mayR (List.replicate n 0) 100 (mine q) = true) : ∀ f ∈ outX ma, fitsX m f.toIF = true := by
  have ok : ∀ e, Mn n mine e → okX m e = true := fun e he => by
    unfold okX
    rw [hbm.base, hbm.most]
    by_cases q : e = []
    · simp [q]
    · rcases he with he | ⟨x, hx, he⟩
      · exact absurd he q
      · rw [he, hmay x hx (by rw [← he]; exact q)]
        simp
  have fin : ∀ (kd : Nat) (r : Int) (e ax : List Rn), 6 ≤ kd → kd ≤ 8 → Mn n mine e → Mn n mine ax → (kd = 8 → e ≠ []) → fitsX m (OF.toIF ⟨kd, a, r, e, ax⟩) = true := fun kd r e ax h6 h8 he hax hd => by
    unfold fitsX OF.toIF
    simp only [ok e he, ok ax hax, h.hn, h.me, h.num, Bool.and_true]
    rw [decide_eq_false (show ¬ ((a : Nat) : Int) ≥ (n : Int) by omega), decide_eq_false (show ¬ ((a : Nat) : Int) = (p : Int) by omega), decide_eq_true (show (6 : Int) ≤ (kd : Int) by omega), decide_eq_true (show (kd : Int) ≤ 8 by omega)]
    simp only [Bool.or_false, Bool.not_false, Bool.true_and, decide_true, Bool.or_eq_true, Bool.not_eq_true', decide_eq_true_eq, decide_eq_false_iff_not]
    by_cases q : kd = 8
    · exact .inr (hd q)
    · exact .inl (by omega)
  intro f hf
  unfold outX at hf
  split at hf
  · rename_i hd
    rw [List.mem_singleton.1 hf, ha.me]
    exact fin 8 _ _ _ (by decide) (by decide) (.inr (dec_val k (ha.dec hd))) (.inl rfl) fun _ => hd
  · rcases List.mem_cons.1 hf with rfl | hf
    · rw [ha.me]
      exact fin 6 _ _ _ (by decide) (by decide) (k.val _ _ _ ha.est) (.inl rfl) fun q => absurd q (by decide)
    · split at hf
      · rename_i hc
        rw [List.mem_singleton.1 hf, ha.me]
        refine fin 7 _ _ _ (by decide) (by decide) (k.val _ _ _ ha.est) ?_ fun q => absurd q (by decide)
        rcases k.vot _ _ _ (ha.vote hc) with z | z
        · exact .inl z
        · exact k.val _ _ _ z
      · exact (List.not_mem_nil hf).elim
/-- What is delivered: all decided, or all know what all sent last. -/
theorem deliver {n : Nat} {mine : Nat → List Rn} {b : Int} {V E : Gh} {L : Nat → XI} (k : KK n mine b V E) (loc : ∀ p, p < n → PLoc n V E p (L p)) (hbm : ∀ p, p < n → Bm n (L p)) (hmay : ∀ q, q < n → mine q ≠ [] → mayR (List.replicate n 0) 100 (mine q) = true) (L' : Nat → XI) (hL : ∀ p, L' p = dl (L p) (outs n L)) :
    (∀ p, p < n → PLoc n V E p (L' p)) ∧ (∀ p, Rcv (L p) (L' p)) ∧ ((∀ p, p < n → (L' p).decided ≠ []) ∨ ((∀ p, p < n → (L p).decided = []) ∧ (∀ p, p < n → (L' p).decided = []) ∧ (∀ p a, p < n → a < n → a ≠ p → ∃ f, frAt (L' p) a 0 = some f ∧ f.round = (L' a).round) ∧ ∀ p a, p < n → a < n → a ≠ p → (L' a).cast = true → ∃ f, frAt (L' p) a 1 = some f ∧ f.round = (L' a).round)) := by
  have hoo : ∀ f ∈ outs n L, OOk n V E f := fun f hf => by
    obtain ⟨p, hp, hf⟩ := mem_outs.1 hf
    exact out_ok (loc p hp) hp f hf
  have hloc : ∀ p, p < n → PLoc n V E p (L' p) := fun p hp => by rw [hL]; exact dl_loc _ _ (loc p hp) hoo
  have hr : ∀ p, Rcv (L p) (L' p) := fun p => by rw [hL]; exact dl_rcv _ _
  have hlen : ∀ p, p < n → (L p).fr.length = (L p).n * 2 := fun p hp => by rw [(loc p hp).frl, (loc p hp).hn]
  refine ⟨hloc, hr, ?_⟩
  by_cases hd : ∃ a, a < n ∧ (L a).decided ≠ []
  · obtain ⟨a, ha, hda⟩ := hd
    refine .inl fun p hp => ?_
    by_cases q : a = p
    · subst q
      rw [(hr a).dec hda]
      exact hda
    · have hm : (⟨8, (L a).me, 0, (L a).decided, []⟩ : OF) ∈ outX (L a) := by
        unfold outX
        rw [if_pos hda]
        exact List.mem_singleton.2 rfl
      have hf := fits_out k (loc p hp) (loc a ha) (hbm p hp) ha q hmay _ hm
      rw [hL]
      exact (dl_got (outs n L) (L p) (mem_outs.2 ⟨a, ha, hm⟩) hf (hlen p hp)).2 rfl
  · have hnd : ∀ p, p < n → (L p).decided = [] := fun p hp => by
      by_cases q : (L p).decided = []
      · exact q
      · exact absurd ⟨p, hp, q⟩ hd
    have h8 : ∀ f ∈ outs n L, f.kind ≠ 8 := fun f hf => by
      obtain ⟨p, hp, hf⟩ := mem_outs.1 hf
      unfold outX at hf
      rw [if_neg (fun q => q (hnd p hp))] at hf
      rcases List.mem_cons.1 hf with rfl | hf
      · simp
      · split at hf
        · rw [List.mem_singleton.1 hf]; simp
        · exact (List.not_mem_nil hf).elim
    have eq : ∀ p a ph f, p < n → a < n → ph < 2 → frAt (L' p) a ph = some f → (L a).round ≤ f.round → f.round = (L' a).round := fun p a ph f hp ha hph hf hle => by
      have h1 := ((hloc p hp).frs a ph f ha hph hf).1
      have h2 := (hloc a ha).le h1
      have h3 := (hr a).round
      omega
    refine .inr ⟨hnd, fun p hp => by rw [hL, dl_und _ _ h8]; exact hnd p hp, fun p a hp ha hap => ?_, fun p a hp ha hap hc => ?_⟩
    · have hm : (⟨6, (L a).me, (L a).round, (L a).est, []⟩ : OF) ∈ outX (L a) := by
        unfold outX
        rw [if_neg (fun q => q (hnd a ha))]
        exact List.mem_cons_self
      have hf := fits_out k (loc p hp) (loc a ha) (hbm p hp) ha hap hmay _ hm
      obtain ⟨g, h1, h2⟩ := (dl_got (outs n L) (L p) (mem_outs.2 ⟨a, ha, hm⟩) hf (hlen p hp)).1 (by simp)
      have h1 : frAt (dl (L p) (outs n L)) (L a).me 0 = some g := h1
      rw [← hL, (loc a ha).me] at h1
      exact ⟨g, h1, eq p a 0 g hp ha (by decide) h1 h2⟩
    · rw [(hr a).cast] at hc
      have hm : (⟨7, (L a).me, (L a).round, (L a).est, (L a).vote⟩ : OF) ∈ outX (L a) := by
        unfold outX
        rw [if_neg (fun q => q (hnd a ha)), if_pos hc]
        exact List.mem_cons_of_mem _ (List.mem_singleton.2 rfl)
      have hf := fits_out k (loc p hp) (loc a ha) (hbm p hp) ha hap hmay _ hm
      obtain ⟨g, h1, h2⟩ := (dl_got (outs n L) (L p) (mem_outs.2 ⟨a, ha, hm⟩) hf (hlen p hp)).1 (by simp)
      have h1 : frAt (dl (L p) (outs n L)) (L a).me 1 = some g := h1
      rw [← hL, (loc a ha).me] at h1
      exact ⟨g, h1, eq p a 1 g hp ha (by decide) h1 h2⟩
end Go.Proofs.Ytmaidlndikcgkaa.Sim
