/- The texts B22Wf, B22Wg, B22Wh, B22Wi, B22Wj, B22Wk, one behind the other. No condition. -/
import Derived.Test.YtmaidlndikcgkaaB22We
namespace Go.Proofs.Ytmaidlndikcgkaa.Sim
set_option linter.unusedSimpArgs false
set_option linter.unusedVariables false
variable {s s' : Store} {M M' : List Nat} {w : WV} {ps : List PP} {sent : List OFV}

def kOf (cs : List Int) (p : Nat) : Int := if p < cs.length then cs.getD p 0 % 4 else 0
def mineOf (cs : List Int) (p : Nat) : List Rn := if kOf cs p > 0 then [((p : Int), 1, kOf cs p)] else []
def heldOf (n : Nat) (cs : List Int) (p : Nat) : List Int := (List.replicate n (0 : Int)).set p (kOf cs p)
def newX (n : Nat) (cs : List Int) (p : Nat) : XI where
  n := n
  me := p
  number := 1
  base := List.replicate n 0
  most := 100
  round := 0
  est := if mayR (List.replicate n 0) 100 (mineOf cs p) = true ∧ heldB (heldOf n cs p) (mineOf cs p) = true then mineOf cs p else []
  vote := []
  cast := false
  decided := []
  fr := List.replicate (n * 2) none
def newP (n : Nat) (cs : List Int) (p : Nat) : PM := ⟨newX n cs p, heldOf n cs p, mineOf cs p⟩
theorem kOf_b {cs : List Int} (h : ∀ c ∈ cs, 0 ≤ c ∧ c < 256) (p : Nat) : 0 ≤ kOf cs p ∧ kOf cs p ≤ 3 := by
  unfold kOf
  split
  · have := Int.emod_nonneg (cs.getD p 0) (b := 4) (by decide)
    have := Int.emod_lt_of_pos (cs.getD p 0) (b := 4) (by decide)
    omega
  · omega
theorem mineOf_wf {cs : List Int} (h : ∀ c ∈ cs, 0 ≤ c ∧ c < 256) {p : Nat} (hp : p < 256) : ∀ r ∈ mineOf cs p, WfR r := by
  intro r hr
  have := kOf_b h p
  unfold mineOf at hr
  split at hr
  · rw [List.mem_singleton.1 hr]
    refine ⟨⟨?_, ?_⟩, ⟨?_, ?_⟩, ⟨?_, ?_⟩⟩ <;> simp only <;> omega
  · exact (List.not_mem_nil hr).elim
theorem mineOf_len (cs : List Int) (p : Nat) : (mineOf cs p).length ≤ 1 := by
  unfold mineOf
  split <;> simp

/-! ### lists that grow in a row of their own -/
def LR (s : Store) (v : AV) (xs : List AV) (z : List Nat) : Prop := (z = [] ∧ xs = [] ∧ v = .nilsl) ∨ ∃ id, z = [id] ∧ v = .sl id 0 xs.length 1 xs.length ∧ s.get id = .cells xs false
theorem LR.frS {S : List Nat} {v : AV} {xs : List AV} {z : List Nat} (h : LR s v xs z) (e : FrS S s s') (hz : ∀ y ∈ z, y < s.next ∧ y ∉ S) : LR s' v xs z := by
  rcases h with h | ⟨id, h1, h2, h3⟩
  · exact .inl h
  · have := hz id (by rw [h1]; simp)
    exact .inr ⟨id, h1, h2, (e.get id this.1 this.2).trans h3⟩
theorem LR.one {v : AV} {xs : List AV} {z : List Nat} (h : LR s v xs z) : v.one = true := by
  rcases h with ⟨_, _, rfl⟩ | ⟨id, _, rfl, _⟩ <;> rfl
theorem app_lr {v x : AV} {xs : List AV} {z : List Nat} {bytes : Nat} (h : LR s v xs z) (hz : ∀ y ∈ z, y < s.next) (hb : (xs.length + 1) * bytes ≤ 140737488355328) (hb0 : 0 < bytes) :
    ∃ s' v' z', (∀ {α : Type} (f : AV → Store → Option α), aAppend 1 bytes v (.sl s.next 0 1 1 1) (s.push (.cells [x] false)) f = f v' s') ∧ LR s' v' (xs ++ [x]) z' ∧ FrS z s s' ∧ (∀ y ∈ z', y ∈ z ∨ s.next ≤ y ∧ y < s'.next) ∧ (∀ y ∈ z, y ∈ z') ∧ (∀ y ∈ z', y < s'.next) := by
  have hy : ∀ {α : Type} (f : Nat → List AV → Option α), aCellsOf 1 (.sl s.next 0 1 1 1) (s.push (.cells [x] false)) f = f 1 [x] := fun {α} f => by
    simp [aCellsOf, aRow, get_push]
  rcases h with ⟨rfl, rfl, rfl⟩ | ⟨id, rfl, rfl, h3⟩
  · have hb' : 1 * bytes ≤ 140737488355328 := by simpa using hb
    refine ⟨(s.push (.cells [x] false)).push (.cells [x] false), .sl (s.next + 1) 0 1 1 1, [s.next + 1], fun {α} f => ?_, .inr ⟨s.next + 1, rfl, rfl, by rw [get_push, next_push, if_pos rfl]; rfl⟩, ((Ext.push s _).trans (Ext.push _ _)).frS _, fun y hy => .inr (by rw [List.mem_singleton.1 hy]; simp only [next_push]; omega), (fun y hy => (List.not_mem_nil hy).elim), fun y hy => by rw [List.mem_singleton.1 hy]; simp only [next_push]; omega⟩
    simp only [aAppend, hy]
    rw [if_neg (by decide), if_pos ⟨hb', hb0⟩]
    rfl
  · have hid := hz id (by simp)
    have hg : (s.push (.cells [x] false)).get id = .cells xs false := by rw [get_push, if_neg (by omega)]; exact h3
    refine ⟨(s.push (.cells [x] false)).set id (.cells (xs ++ [x]) false), .sl id 0 (xs.length + 1) 1 (xs.length + 1), [id], fun {α} f => ?_, .inr ⟨id, rfl, by simp, by rw [get_set, if_pos rfl]⟩, ((Ext.push s _).frS [id]).trans ((Fr1.set id _ _).frS (by simp)) (fun y hy => .inl hy), (fun y hy => .inl hy), (fun y hy => hy), fun y hy => by rw [List.mem_singleton.1 hy]; simp only [next_set, next_push]; omega⟩
    have := app_row (es := 1) (bytes := bytes) (n := xs.length) (m := 1) hg (by omega) hy rfl (by decide) hb hb0 (by decide) f
    simpa using this

/-! ### a new instance -/
theorem new_isX {n i : Nat} (hn : 1 ≤ n ∧ n ≤ 64) (hi : i < n) {cs : List Int} (hcs : ∀ c ∈ cs, 0 ≤ c ∧ c < 256) {bv hv mv : AV} (hb : IsSl s bv .u64 (List.replicate n 0)) (hh : IsSl s hv .u64 (heldOf n cs i)) (hl : IsRuns s mv (mineOf cs i)) (hM : ∀ y ∈ M, y < s.next) (k : Nat) (hk : 2 ≤ k) (hk2 : k ≤ 1000000) :
    ∃ s' v, rn (k + 8) 18 [.int .i64 (n : Int), .int .i64 (i : Int), .int .u64 1, bv, .int .i64 100, hv, mv] s = some (.ptr v.x 0 11, s') ∧ Ext s s' ∧ IsX s' (v.x :: v.fr :: M) v (newX n cs i) ∧ s.next ≤ v.fr ∧ v.fr < v.x := by
  have hub : U (List.replicate n (0 : Int)) := fun x hx => by rw [(List.mem_replicate.1 hx).2]; decide
  obtain ⟨s', x, ev, bv', k1, k2, k3, k4, k5, k6, k7, k8, k9, k10⟩ := inst_new (nn := n) (me := i) (number := 1) (most := 100) hb hh hl hub (mineOf_wf hcs (by omega)) (by decide) (by rw [List.length_replicate]; omega) (by unfold heldOf; rw [List.length_set, List.length_replicate]; omega) k (by have := mineOf_len cs i; omega) hk2
  have hnn : max 1 (min (n : Int) 64) = (n : Int) := by omega
  have hnt : (max 1 (min (n : Int) 64)).toNat = n := by rw [hnn]; rfl
  have hwn : IntKind.i64.wrap (max 1 (min (n : Int) 64) - 1) = (n : Int) - 1 := by rw [hnn, w_i64 (by omega) (by omega)]
  have hme : max 0 (min (i : Int) (IntKind.i64.wrap (max 1 (min (n : Int) 64) - 1))) = (i : Int) := by rw [hwn]; omega
  rw [hnt] at k5 k8
  rw [hme] at k5
  have hfl : (List.replicate n [AV.nilptr, AV.nilptr]).flatten.length = n * 2 := by simp
  have hest : (if mayR (List.replicate n 0) 100 (mineOf cs i) = true ∧ (!(mineOf cs i).any (badR (heldOf n cs i))) = true then mineOf cs i else []) = (newX n cs i).est := rfl
  rw [hest] at k6
  have hel : (newX n cs i).est.length ≤ 1 ∧ ∀ r ∈ (newX n cs i).est, WfR r := by
    simp only [newX]
    split
    · exact ⟨mineOf_len cs i, mineOf_wf hcs (by omega)⟩
    · exact ⟨by simp, fun r hr => (List.not_mem_nil hr).elim⟩
  have hcells : begun (inew n (i : Int) 1 bv' 100 (s.next + 11)) 0 ev = xcells ⟨x, s.next + 11, bv', ev, .nilsl, .nilsl, (List.replicate n [AV.nilptr, AV.nilptr]).flatten⟩ (newX n cs i) := rfl
  have hevM : ∀ a b c d e, ev = .sl a b c d e → a ∉ x :: (s.next + 11) :: M := by
    intro a b c d e q q2
    rcases k6 with ⟨q3, _⟩ | ⟨id, q3, q4, q5, q6⟩
    · rw [q3] at q; cases q
    · rw [q3] at q
      injection q with q
      subst q
      have hl3 := flatL_len (c := rcells) (es := 3) (fun _ => rfl) (newX n cs i).est
      rcases List.mem_cons.1 q2 with z | q2
      · rw [z, k5] at q6
        injection q6 with q6
        have := congrArg List.length q6
        rw [hl3, hcells, xc_len] at this
        omega
      · rcases List.mem_cons.1 q2 with z | q2
        · rw [z, k8] at q6
          injection q6 with q6
          have hlen := congrArg List.length q6
          rw [hl3, hfl] at hlen
          have h0 : ∀ j v, ((newX n cs i).est.map rcells).flatten[j]? = some v → v = AV.nilptr := fun j v hv => by
            rw [← q6] at hv
            have := List.mem_of_getElem? hv
            obtain ⟨l, hl, hv2⟩ := List.mem_flatten.1 this
            rw [(List.mem_replicate.1 hl).2] at hv2
            simpa using hv2
          cases hq : (newX n cs i).est with
          | nil => rw [hq] at hlen; simp at hlen; omega
          | cons r l =>
            have := h0 0 (.int .u8 r.1) (by rw [hq]; rfl)
            cases this
        · have := hM _ q2; omega
  refine ⟨s', ⟨x, s.next + 11, bv', ev, .nilsl, .nilsl, (List.replicate n [AV.nilptr, AV.nilptr]).flatten⟩, k1, k4, ⟨by rw [k5, hcells], k8, hfl, by simp [newX], fun j hj => ⟨.nilptr, none, ?_, ?_, .inl ⟨rfl, rfl⟩⟩, k7.is, fun a b c d e q q2 => ?_, hub, by simp [newX]; omega, ⟨k6.is, hevM, hel.2, by omega⟩, IsRM.nil _ _, IsRM.nil _ _, fun _ => rfl, by simp, by simp, by simp only; omega, k3, by simp only; omega, hn, hi, by simp [newX], by simp [newX], by simp [newX]⟩, by simp only; omega, k9⟩
  · have hj : j < n * 2 := hj
    show (List.replicate n [AV.nilptr, AV.nilptr]).flatten[j]? = _
    rw [List.getElem?_eq_getElem (by rw [hfl]; exact hj)]
    have := List.getElem_mem (l := (List.replicate n [AV.nilptr, AV.nilptr]).flatten) (n := j) (by rw [hfl]; exact hj)
    obtain ⟨l, hl, hv2⟩ := List.mem_flatten.1 this
    rw [(List.mem_replicate.1 hl).2] at hv2
    rw [show (List.replicate n [AV.nilptr, AV.nilptr]).flatten[j]'(by rw [hfl]; exact hj) = AV.nilptr by simpa using hv2]
  · have hj : j < n * 2 := hj
    show (List.replicate (n * 2) none)[j]? = _
    simp [hj]
  · have hne := k10 a b c d e q
    rcases List.mem_cons.1 q2 with z | q2
    · exact hne.1 z
    · rcases List.mem_cons.1 q2 with z | q2
      · exact hne.2 z
      · have q : bv' = .sl a b c d e := q
        rcases k7 with ⟨q3, _⟩ | ⟨id, q3, q4, _⟩
        · rw [q3] at q; cases q
        · rw [q3] at q
          injection q with q
          have := hM _ q2; omega
end Go.Proofs.Ytmaidlndikcgkaa.Sim
namespace Go.Proofs.Ytmaidlndikcgkaa.Sim
set_option linter.unusedSimpArgs false
set_option linter.unusedVariables false
variable {s s' : Store} {M M' : List Nat} {w : WV} {ps : List PP} {sent : List OFV}

abbrev rows (ps : List PP) : List Nat := (ps.map rowsOf).flatten
theorem rows_snoc (ps : List PP) (q : PP) : rows (ps ++ [q]) = rows ps ++ rowsOf q := by simp [rows]
def ptrL (ps : List PP) : List AV := ps.map fun p => .ptr p.1.v.x 0 11
def heldL (n : Nat) (ps : List PP) : List AV := ps.map fun p => .sl p.1.h 0 n 1 n
def mineL (ps : List PP) : List AV := ps.map fun p => p.1.mv
structure OfI (s : Store) (wr lo n i : Nat) (cs : List Int) (x1 x6 lv hv mv : AV) (zl zh zm : List Nat) (ps : List PP) : Prop where
  g : s.get wr = .cells [lv, hv, mv, .nilsl] false
  l : LR s lv (ptrL ps) zl
  h : LR s hv (heldL n ps) zh
  m : LR s mv (mineL ps) zm
  len : ps.length = i
  p : ∀ j (h : j < ps.length), IsP s (wr :: (zl ++ zh ++ zm ++ rows ps)) n j ps[j]
  pm : ps.map (·.2) = (List.range i).map (newP n cs)
  nd : (rows ps).Nodup
  dw : wr ∉ zl ++ zh ++ zm ++ rows ps
  dl : ∀ y ∈ zl, y ∉ zh ++ zm ++ rows ps
  dh : ∀ y ∈ zh, y ∉ zm ++ rows ps
  dm : ∀ y ∈ zm, y ∉ rows ps
  lt : ∀ y ∈ wr :: (zl ++ zh ++ zm ++ rows ps), y < s.next
  los : (∀ y ∈ zl ++ zh ++ zm, lo ≤ y) ∧ lo ≤ s.next
  c : IsSl s x1 .u8 cs
  cx : ∀ a b c d e, x1 = .sl a b c d e → a ≠ wr ∧ a < lo
  b : IsSl s x6 .u64 (List.replicate n 0)
  bx : ∀ a b c d e, x6 = .sl a b c d e → a ≠ wr ∧ a < lo
theorem pend_mine {i : Nat} {cs : List Int} (hcs : ∀ c ∈ cs, 0 ≤ c ∧ c < 256) (hi : i < 64) : ∃ s' mv, (∀ {α : Type} (κ : AV → Store → Option α), (aIf (.bool (decide (kOf cs i > 0))) (aConvInt .u8 (.int .i64 (i : Int)) fun v2 => aBuild [(0, 1, v2), (1, 1, (AV.int .u64 1)), (2, 1, .int .u64 (kOf cs i))] [AV.int .u8 0, AV.int .u64 0, AV.int .u64 0] fun c3 => aBuild [(0, 3, (AV.agg c3))] [AV.int .u8 0, AV.int .u64 0, AV.int .u64 0] fun c4 => aAppend 3 24 (.sl s.next 0 0 3 0) (AV.sl (s.push (.cells [] false)).next 0 1 3 3) ((s.push (.cells [] false)).push (.cells c4 false)) fun v5 s6 => κ v5 s6) (κ (.sl s.next 0 0 3 0) (s.push (.cells [] false)))) = κ mv s') ∧ OwnL rcells 3 s' mv (mineOf cs i) s.next ∧ Ext s s' := by
  have e1 := Ext.push s (.cells [] false)
  have g1 : (s.push (.cells [] false)).get s.next = .cells ((([] : List Rn).map rcells).flatten) false := by rw [get_push, if_pos rfl]; rfl
  have hk := kOf_b hcs i
  by_cases h0 : kOf cs i > 0
  · obtain ⟨s2, a1, a2, a3⟩ := app_one (c := rcells) (es := 3) (bytes := 24) (fun _ => rfl) (by decide) (by decide) (n := 0) rfl g1 (Nat.lt_succ_self _) ((i : Int), 1, kOf cs i) (by decide)
    refine ⟨s2, .sl s.next 0 1 3 (1 * 3), fun {α} κ => ?_, .inr ⟨s.next, by unfold mineOf; rw [if_pos h0]; rfl, Nat.le_refl _, Nat.lt_of_lt_of_le (Nat.lt_succ_self _) a3.next, by rw [a2]; unfold mineOf; rw [if_pos h0]; rfl⟩, ⟨Nat.le_trans e1.next a3.next, fun l hl => (a3.get l (Nat.lt_of_lt_of_le hl e1.next) (by simp only [List.mem_singleton]; omega)).trans (e1.get l hl)⟩⟩
    have hw : IntKind.u8.wrap (i : Int) = (i : Int) := w_u8 (by omega) (by omega)
    simp only [decide_eq_true h0, if_t, conv_i, hw, build_run, build_row]
    exact a1 _
  · refine ⟨s.push (.cells [] false), .sl s.next 0 0 3 0, fun {α} κ => ?_, .inr ⟨s.next, by unfold mineOf; rw [if_neg h0]; rfl, Nat.le_refl _, Nat.lt_succ_self _, by rw [g1]; unfold mineOf; rw [if_neg h0]⟩, e1⟩
    simp only [decide_eq_false h0, if_f]
end Go.Proofs.Ytmaidlndikcgkaa.Sim
namespace Go.Proofs.Ytmaidlndikcgkaa.Sim
set_option linter.unusedSimpArgs false
set_option linter.unusedVariables false
variable {s s' : Store} {M M' : List Nat} {w : WV} {ps : List PP} {sent : List OFV}

theorem FrS.and1 {S : List Nat} {x : Nat} {a b c : Store} (h : FrS S a b) (e : Fr1 x b c) : FrS (x :: S) a c := (h.mono fun y hy => List.mem_cons_of_mem _ hy).trans (e.frS (S := x :: S) (by simp)) fun y hy => .inl hy
theorem mem4 {z1 z2 z3 r : List Nat} {x y : Nat} : y ∈ x :: (z1 ++ z2 ++ z3 ++ r) ↔ y = x ∨ y ∈ z1 ∨ y ∈ z2 ∨ y ∈ z3 ∨ y ∈ r := by simp [or_assoc]
set_option maxHeartbeats 4000000 in
theorem of_turn {wr lo n i : Nat} {cs : List Int} {x1 x4 x6 lv hv mv : AV} {zl zh zm : List Nat} {R0 : AV → AV → AV → AV → AV → AV → Store → Option (AV × Store)} (h : OfI s wr lo n i cs x1 x6 lv hv mv zl zh zm ps) (hn : 1 ≤ n ∧ n ≤ 64) (hi : i < n) (hcs : ∀ c ∈ cs, 0 ≤ c ∧ c < 256) (hcl : cs.length ≤ maxLen) (k : Nat) (hk : 2 ≤ k) (hk2 : k ≤ 1000000) :
    ∃ s' lv' hv' mv' zl' zh' zm' ps', F9.p10 (k + 8) R0 (.int .i64 (n : Int)) x1 x4 (.ptr wr 0 4) x6 (.int .i64 (i : Int)) s = R0 (.int .i64 (n : Int)) x1 x4 (.ptr wr 0 4) x6 (.int .i64 ((i + 1 : Nat) : Int)) s' ∧ OfI s' wr lo n (i + 1) cs x1 x6 lv' hv' mv' zl' zh' zm' ps' ∧ FrS (wr :: (zl ++ zh ++ zm)) s s' ∧ (∀ y ∈ wr :: (zl' ++ zh' ++ zm' ++ rows ps'), y ∈ wr :: (zl ++ zh ++ zm ++ rows ps) ∨ s.next ≤ y) := by
  have hwr : wr < s.next := h.lt _ (mem4.2 (.inl rfl))
  have bl : ∀ y ∈ zl, y < s.next := fun y hy => h.lt _ (mem4.2 (.inr (.inl hy)))
  have bh : ∀ y ∈ zh, y < s.next := fun y hy => h.lt _ (mem4.2 (.inr (.inr (.inl hy))))
  have bm : ∀ y ∈ zm, y < s.next := fun y hy => h.lt _ (mem4.2 (.inr (.inr (.inr (.inl hy)))))
  have br : ∀ y ∈ rows ps, y < s.next := fun y hy => h.lt _ (mem4.2 (.inr (.inr (.inr (.inr hy)))))
  unfold F9.p10 F9.p9
  -- how many
  have hcount : ∀ {α : Type} (κ : AV → Option α), (aLen x1 fun v1 => aBin .lss (.int .i64 (i : Int)) v1 fun v2 => aIf v2 (aIndexSl 1 x1 (.int .i64 (i : Int)) fun v3 => aLoad1 v3 s fun v4 => aBin .rem v4 (.int .u8 4) fun v5 => aConvInt .u64 v5 κ) (κ (.int .u64 0))) = κ (.int .u64 (kOf cs i)) := fun {α} κ => by
    rw [len_is h.c]
    simp only [lss_i]
    by_cases hic : i < cs.length
    · have hic' : (i : Int) < (cs.length : Int) := by omega
      obtain ⟨p, q1, q2⟩ := index_isI h.c (i := (i : Int)) (by omega) hic'
      have hc := hcs _ (show cs.getD i 0 ∈ cs by rw [List.getD_eq_getElem?_getD, List.getElem?_eq_getElem hic]; exact List.getElem_mem hic)
      have hw : IntKind.u64.wrap (cs.getD i 0 % 4) = cs.getD i 0 % 4 := w_u64 (by omega) (by omega)
      simp only [decide_eq_true hic', if_t, q1, q2, Int.toNat_natCast]
      rw [rem_i (by omega) (by decide), conv_i, hw]
      unfold kOf
      rw [if_pos hic]
    · simp only [decide_eq_false (show ¬ (i : Int) < (cs.length : Int) by omega), if_f]
      unfold kOf
      rw [if_neg hic]
  have hcount' := fun (κ : AV → Option (AV × Store)) => hcount κ
  rw [hcount']
  -- what is held
  unfold F9.p8
  rw [mk_u64 (by omega)]
  have e1 := Ext.push s (.cells ((List.replicate n (0 : Int)).map (.int .u64)) false)
  have g1 : (s.push (.cells ((List.replicate n (0 : Int)).map (.int .u64)) false)).get s.next = .cells ((List.replicate n (0 : Int)).map (.int .u64)) false := by rw [get_push, if_pos rfl]
  have n1 : (s.push (.cells ((List.replicate n (0 : Int)).map (.int .u64)) false)).next = s.next + 1 := rfl
  generalize s.push (.cells ((List.replicate n (0 : Int)).map (.int .u64)) false) = s1 at e1 g1 n1 ⊢
  unfold F9.p7
  have sv : ∀ {α : Type} (f : Store → Option α), aStore 1 (.ptr s.next i n) (.int .u64 (kOf cs i)) s1 f = f (s1.set s.next (.cells ((heldOf n cs i).map (.int .u64)) false)) := fun {α} f => by
    have := storeV (k := .u64) g1 (i := i) (by rw [List.length_replicate]; exact hi) (n := kOf cs i) f
    rw [List.length_replicate] at this
    exact this
  rw [idx1 hi, sv]
  have e2 : Ext s (s1.set s.next (.cells ((heldOf n cs i).map (.int .u64)) false)) := ⟨e1.next, fun l hl => by rw [get_set, if_neg (by omega)]; exact e1.get l hl⟩
  have g2 : (s1.set s.next (.cells ((heldOf n cs i).map (.int .u64)) false)).get s.next = .cells ((heldOf n cs i).map (.int .u64)) false := by rw [get_set, if_pos rfl]
  have n2 : (s1.set s.next (.cells ((heldOf n cs i).map (.int .u64)) false)).next = s.next + 1 := n1
  generalize s1.set s.next (.cells ((heldOf n cs i).map (.int .u64)) false) = s2 at e2 g2 n2 ⊢
  -- its own
  unfold F9.p6
  have hbn : ∀ {α : Type} (f : List AV → Option α), aBuild [] [] f = f [] := fun f => rfl
  rw [hbn]
  unfold F9.p5
  obtain ⟨s4, mv0, a1, a2, a3⟩ := pend_mine (s := s2) hcs (i := i) (by omega)
  simp only [gtr_i]
  rw [a1 (fun v5 s6 => F9.p4 (k + 8) R0 (.int .i64 (n : Int)) x1 x4 (.ptr wr 0 4) x6 (.int .i64 (i : Int)) (.sl s.next 0 n 1 n) v5 s6)]
  have e4 := e2.trans a3
  have n4 := a3.next
  have g4w := (e4.get wr hwr).trans h.g
  have g4h := (a3.get s.next (by omega)).trans g2
  have hmv : mv0.one = true := by rcases a2 with ⟨rfl, _⟩ | ⟨id, rfl, _⟩ <;> rfl
  have hld : ∀ {t : Store} {c0 c1 c2 : AV}, t.get wr = .cells [c0, c1, c2, .nilsl] false → ∀ {j : Nat} {v : AV}, ([c0, c1, c2, .nilsl] : List AV)[j]? = some v → ∀ {α : Type} (c : AV → Option α), aLoad1 (.ptr wr (0 + j) 4) t c = c v := fun {t c0 c1 c2} g {j v} hv {α} c => ld_fld g rfl hv c
  have hst : ∀ {t : Store} {c0 c1 c2 : AV}, t.get wr = .cells [c0, c1, c2, .nilsl] false → ∀ {j : Nat} {v : AV}, j < 4 → v.one = true → ∀ {α : Type} (c : Store → Option α), aStore 1 (.ptr wr (0 + j) 4) v t c = c (t.set wr (.cells (([c0, c1, c2, .nilsl] : List AV).set j v) false)) := fun {t c0 c1 c2} g {j v} hj hv {α} c => st_fld g rfl hj (fun f => c_one hv f) c
  have hb1 : ∀ (d v : AV), v.one = true → ∀ {α : Type} (f : List AV → Option α), aBuild [(0, 1, v)] [d] f = f [v] := fun d v hv {α} f => by simp only [aBuild, c_one hv]; rfl
  have lenL : (heldL n ps).length = i := by simp [heldL, h.len]
  -- Held
  unfold F9.p4
  obtain ⟨s5, hv', zh', b1, b2, b3, b4, b5, b6⟩ := app_lr (x := .sl s.next 0 n 1 n) (bytes := 24) (h.h.frS (e4.frS []) fun y hy => ⟨bh y hy, List.not_mem_nil⟩) (fun y hy => Nat.lt_of_lt_of_le (bh y hy) e4.next) (by rw [lenL]; omega) (by decide)
  have n5 := b3.next
  have wzh : wr ∉ zh := fun q => h.dw (by simp [q])
  have wzm : wr ∉ zm := fun q => h.dw (by simp [q])
  have wzl : wr ∉ zl := fun q => h.dw (by simp [q])
  have g5w := (b3.get wr (by omega) wzh).trans g4w
  simp only [fld_p, hld g4w (j := 1) rfl, hb1 _ (.sl s.next 0 n 1 n) rfl, b1, hst g5w (j := 1) (by decide) b2.one]
  have e6 := Fr1.set wr s5 (.cells (([lv, hv, mv, .nilsl] : List AV).set 1 hv') false)
  have g6w : (s5.set wr (.cells (([lv, hv, mv, .nilsl] : List AV).set 1 hv') false)).get wr = .cells [lv, hv', mv, .nilsl] false := by rw [get_set, if_pos rfl]; rfl
  have n6 : (s5.set wr (.cells (([lv, hv, mv, .nilsl] : List AV).set 1 hv') false)).next = s5.next := rfl
  generalize s5.set wr (.cells (([lv, hv, mv, .nilsl] : List AV).set 1 hv') false) = s6 at e6 g6w n6 ⊢
  -- Mine
  obtain ⟨S, hS⟩ : ∃ S, S = wr :: (zl ++ zh ++ zm) := ⟨_, rfl⟩
  have Sw : ∀ y ∈ [wr], y ∈ S := fun y hy => by rw [hS, List.mem_singleton.1 hy]; simp
  have Sl : ∀ y ∈ zl, y ∈ S := fun y hy => by rw [hS]; simp [hy]
  have Sh : ∀ y ∈ zh, y ∈ S := fun y hy => by rw [hS]; simp [hy]
  have Sm : ∀ y ∈ zm, y ∈ S := fun y hy => by rw [hS]; simp [hy]
  have f46 : FrS S s4 s6 := (b3.mono Sh).trans (e6.frS (S := S) (Sw _ (by simp))) fun y hy => .inl hy
  have f06 : FrS S s s6 := (e4.frS S).trans f46 fun y hy => .inl hy
  have Dmh : ∀ y ∈ zm, y ∉ wr :: zh := fun y hy q => by
    rcases List.mem_cons.1 q with z | z
    · exact wzm (by rw [← z]; exact hy)
    · exact h.dh y z (by simp [hy])
  have f46h : FrS (wr :: zh) s4 s6 := (b3.and1 e6)
  have lm6 : LR s6 mv (mineL ps) zm := (h.m.frS (e4.frS []) fun y hy => ⟨bm y hy, List.not_mem_nil⟩).frS f46h fun y hy => ⟨Nat.lt_of_lt_of_le (bm y hy) e4.next, Dmh y hy⟩
  have lenM : (mineL ps).length = i := by simp [mineL, h.len]
  have lenP : (ptrL ps).length = i := by simp [ptrL, h.len]
  have n46 := f46.next
  unfold F9.p3
  obtain ⟨s7, mv', zm', c1, c2, c3, c4, c5, c6⟩ := app_lr (x := mv0) (bytes := 24) lm6 (fun y hy => by have := bm y hy; have := e4.next; omega) (by rw [lenM]; omega) (by decide)
  have n7 := c3.next
  have g7w := (c3.get wr (by omega) wzm).trans g6w
  simp only [fld_p, hld g6w (j := 2) rfl, hb1 _ mv0 hmv, c1, hst g7w (j := 2) (by decide) c2.one]
  have e8 := Fr1.set wr s7 (.cells (([lv, hv', mv, .nilsl] : List AV).set 2 mv') false)
  have g8w : (s7.set wr (.cells (([lv, hv', mv, .nilsl] : List AV).set 2 mv') false)).get wr = .cells [lv, hv', mv', .nilsl] false := by rw [get_set, if_pos rfl]; rfl
  have n8 : (s7.set wr (.cells (([lv, hv', mv, .nilsl] : List AV).set 2 mv') false)).next = s7.next := rfl
  generalize s7.set wr (.cells (([lv, hv', mv, .nilsl] : List AV).set 2 mv') false) = s8 at e8 g8w n8 ⊢
  have f68m : FrS (wr :: zm) s6 s8 := c3.and1 e8
  have f68 : FrS S s6 s8 := f68m.mono fun y hy => by
    rcases List.mem_cons.1 hy with z | z
    · exact Sw y (by simp [z])
    · exact Sm y z
  have f48 : FrS S s4 s8 := f46.trans f68 fun y hy => .inl hy
  have f08 : FrS S s s8 := f06.trans f68 fun y hy => .inl hy
  -- L
  have SN : ∀ y ∈ S, y < s.next := fun y hy => by
    rw [hS] at hy
    exact h.lt y (by simp only [List.mem_cons, List.mem_append] at hy ⊢; grind)
  have xS : ∀ {x : AV}, (∀ a b c d e, x = .sl a b c d e → a ≠ wr ∧ a < lo) → ∀ a b c d e, x = .sl a b c d e → a ∉ S := fun {x} hx a b c d e q q2 => by
    have := hx a b c d e q
    rw [hS] at q2
    rcases List.mem_cons.1 q2 with z | z
    · exact this.1 z
    · have := h.los.1 a z; omega
  have g8h : s8.get s.next = .cells ((heldOf n cs i).map (.int .u64)) false := (f48.get _ (by omega) fun q => by have := SN _ q; omega).trans g4h
  have hlen : (heldOf n cs i).length = n := by simp [heldOf]
  have n48 := f48.next
  have hh8 : IsSl s8 (.sl s.next 0 n 1 n) .u64 (heldOf n cs i) := .inr ⟨s.next, false, by rw [hlen], by omega, g8h⟩
  have hmx : ∀ a b c d e, mv0 = .sl a b c d e → s2.next ≤ a ∧ a < s4.next := fun a b c d e q => by
    rcases a2 with ⟨q1, _⟩ | ⟨id, q1, q2, q3, _⟩
    · rw [q1] at q; cases q
    · rw [q1] at q; injection q with q; omega
  have ir4 : IsRuns s4 mv0 (mineOf cs i) := by
    rcases a2 with q | ⟨id, q1, q2, q3, q4⟩
    · exact .inl q
    · exact .inr ⟨id, false, q1, q3, q4⟩
  have ir8 := ir4.frS f48 fun a b c d e q q2 => by have := SN _ q2; have := hmx a b c d e q; omega
  obtain ⟨M8, hM8⟩ : ∃ M8, M8 = wr :: (zl ++ zh' ++ zm' ++ (rows ps ++ [s.next])) := ⟨_, rfl⟩
  have M8N : ∀ y ∈ M8, y < s8.next := fun y hy => by
    rw [hM8, mem4] at hy
    rcases hy with z | z | z | z | z
    · omega
    · have := bl y z; omega
    · have := b6 y z; omega
    · have := c6 y z; omega
    · rcases List.mem_append.1 z with z | z
      · have := br y z; omega
      · rw [List.mem_singleton.1 z]; omega
  obtain ⟨s9, v, d1, d2, d3, d4, d5⟩ := new_isX hn hi hcs (h.b.frS f08 (xS h.bx)) hh8 ir8 M8N k hk hk2
  have n9 := d2.next
  have Dlm : ∀ y ∈ zl, y ∉ wr :: zm := fun y hy q => by
    rcases List.mem_cons.1 q with z | z
    · exact wzl (by rw [← z]; exact hy)
    · exact h.dl y hy (by simp [z])
  have Dlh : ∀ y ∈ zl, y ∉ wr :: zh := fun y hy q => by
    rcases List.mem_cons.1 q with z | z
    · exact wzl (by rw [← z]; exact hy)
    · exact h.dl y hy (by simp [z])
  have ll8 : LR s8 lv (ptrL ps) zl := ((h.l.frS (e4.frS []) fun y hy => ⟨bl y hy, List.not_mem_nil⟩).frS f46h fun y hy => ⟨Nat.lt_of_lt_of_le (bl y hy) e4.next, Dlh y hy⟩).frS f68m fun y hy => ⟨by have := bl y hy; have := e4.next; omega, Dlm y hy⟩
  unfold F9.p2
  obtain ⟨s10, lv', zl', k1, k2, k3, k4, k5, k6⟩ := app_lr (x := .ptr v.x 0 11) (bytes := 8) (ll8.frS (d2.frS []) fun y hy => ⟨by have := bl y hy; have := e4.next; omega, List.not_mem_nil⟩) (fun y hy => by have := bl y hy; have := e4.next; omega) (by rw [lenP]; omega) (by decide)
  have n10 := k3.next
  have g9w := (d2.get wr (by omega)).trans g8w
  have g10w := (k3.get wr (by omega) wzl).trans g9w
  have g9w' : ∀ X, (s9.push X).get wr = .cells [lv, hv', mv', .nilsl] false := fun X => by rw [get_push, if_neg (by omega)]; exact g9w
  have hw1 : IntKind.i64.wrap ((i : Int) + 1) = ((i + 1 : Nat) : Int) := by rw [w_i64 (by omega) (by omega)]; omega
  have d1' : rn (k + 8) 18 [.int .i64 (n : Int), .int .i64 (i : Int), .int .u64 1, x6, .int .i64 100, .sl s.next 0 n 1 n, mv0] s8 = some (.ptr v.x 0 11, s9) := d1
  simp only [bnd, fld_p, hld g8w (j := 0) rfl, d1', hld g9w (j := 0) rfl, aSame_self, hb1 _ (.ptr v.x 0 11) rfl, hld (g9w' _) (j := 0) rfl, k1, hst g10w (j := 0) (by decide) k2.one]
  have e11 := Fr1.set wr s10 (.cells (([lv, hv', mv', .nilsl] : List AV).set 0 lv') false)
  have g11w : (s10.set wr (.cells (([lv, hv', mv', .nilsl] : List AV).set 0 lv') false)).get wr = .cells [lv', hv', mv', .nilsl] false := by rw [get_set, if_pos rfl]; rfl
  have n11 : (s10.set wr (.cells (([lv, hv', mv', .nilsl] : List AV).set 0 lv') false)).next = s10.next := rfl
  generalize s10.set wr (.cells (([lv, hv', mv', .nilsl] : List AV).set 0 lv') false) = s11 at e11 g11w n11 ⊢
  unfold F9.p1
  simp only [add_i, hw1]
  have f911 : FrS (wr :: zl) s9 s11 := k3.and1 e11
  have f811 : FrS (wr :: zl) s8 s11 := (d2.frS _).trans f911 fun y hy => .inl hy
  have f811S : FrS S s8 s11 := f811.mono fun y hy => by
    rcases List.mem_cons.1 hy with z | z
    · exact Sw y (by simp [z])
    · exact Sl y z
  have f011 : FrS S s s11 := f08.trans f811S fun y hy => .inl hy
  have f411 : FrS S s4 s11 := f48.trans f811S fun y hy => .inl hy
  have n24 : s2.next ≤ s4.next := n4
  obtain ⟨q, hq⟩ : ∃ q : PP, q = (⟨v, s.next, mv0⟩, newP n cs i) := ⟨_, rfl⟩
  have hrq : rows (ps ++ [q]) = rows ps ++ [v.x, v.fr, s.next] := by rw [rows_snoc, hq]; rfl
  obtain ⟨M', hM'⟩ : ∃ M', M' = wr :: (zl' ++ zh' ++ zm' ++ rows (ps ++ [q])) := ⟨_, rfl⟩
  have Irow : ∀ y ∈ rows (ps ++ [q]), y ∈ rows ps ∨ (s.next ≤ y ∧ y < s2.next) ∨ (s8.next ≤ y ∧ y < s9.next) := fun y hy => by
    have := d3.xl
    rw [hrq] at hy
    rcases List.mem_append.1 hy with z | z
    · exact .inl z
    · simp only [List.mem_cons, List.not_mem_nil, or_false] at z
      rcases z with z | z | z
      · exact .inr (.inr (by omega))
      · exact .inr (.inr (by omega))
      · exact .inr (.inl (by omega))
  have M'in : ∀ y ∈ M', y = wr ∨ y ∈ zl ∨ y ∈ zh ∨ y ∈ zm ∨ y ∈ rows ps ∨ s.next ≤ y := fun y hy => by
    rw [hM', mem4] at hy
    rcases hy with z | z | z | z | z
    · exact .inl z
    · rcases k4 y z with z | z
      · exact .inr (.inl z)
      · exact .inr (.inr (.inr (.inr (.inr (by omega)))))
    · rcases b4 y z with z | z
      · exact .inr (.inr (.inl z))
      · exact .inr (.inr (.inr (.inr (.inr (by omega)))))
    · rcases c4 y z with z | z
      · exact .inr (.inr (.inr (.inl z)))
      · exact .inr (.inr (.inr (.inr (.inr (by omega)))))
    · rcases Irow y z with z | z | z
      · exact .inr (.inr (.inr (.inr (.inl z))))
      · exact .inr (.inr (.inr (.inr (.inr (by omega)))))
      · exact .inr (.inr (.inr (.inr (.inr (by omega)))))
  have M'M : ∀ y ∈ M', y ∈ wr :: (zl ++ zh ++ zm ++ rows ps) ∨ s.next ≤ y := fun y hy => by
    rw [mem4]
    rcases M'in y hy with z | z | z | z | z | z
    · exact .inl (.inl z)
    · exact .inl (.inr (.inl z))
    · exact .inl (.inr (.inr (.inl z)))
    · exact .inl (.inr (.inr (.inr (.inl z))))
    · exact .inl (.inr (.inr (.inr (.inr z))))
    · exact .inr z
  have SM' : ∀ y ∈ S, y ∈ M' := fun y hy => by
    rw [hS, List.mem_cons, List.mem_append, List.mem_append] at hy
    rw [hM', mem4]
    rcases hy with z | (z | z) | z
    · exact .inl z
    · exact .inr (.inl (k5 y z))
    · exact .inr (.inr (.inl (b5 y z)))
    · exact .inr (.inr (.inr (.inl (c5 y z))))
  have rS : ∀ y ∈ rows ps, y ∉ S := fun y hy q2 => by
    rw [hS, List.mem_cons, List.mem_append, List.mem_append] at q2
    rcases q2 with z | (z | z) | z
    · exact h.dw (by rw [← z]; simp only [List.mem_append]; exact .inr hy)
    · exact h.dl y z (by simp only [List.mem_append]; exact .inr hy)
    · exact h.dh y z (by simp only [List.mem_append]; exact .inr hy)
    · exact h.dm y z hy
  have M'9 : ∀ y ∈ M', y ∈ v.x :: v.fr :: M8 ∨ s9.next ≤ y := fun y hy => by
    rw [hM', mem4, hrq] at hy
    rw [List.mem_cons, List.mem_cons, hM8, mem4]
    rcases hy with z | z | z | z | z
    · exact .inl (.inr (.inr (.inl z)))
    · rcases k4 y z with z | z
      · exact .inl (.inr (.inr (.inr (.inl z))))
      · exact .inr z.1
    · exact .inl (.inr (.inr (.inr (.inr (.inl z)))))
    · exact .inl (.inr (.inr (.inr (.inr (.inr (.inl z))))))
    · rcases List.mem_append.1 z with z | z
      · exact .inl (.inr (.inr (.inr (.inr (.inr (.inr (List.mem_append.2 (.inl z))))))))
      · simp only [List.mem_cons, List.not_mem_nil, or_false] at z
        rcases z with z | z | z
        · exact .inl (.inl z)
        · exact .inl (.inr (.inl z))
        · exact .inl (.inr (.inr (.inr (.inr (.inr (.inr (List.mem_append.2 (.inr (by simp [z])))))))))
  have rq : ∀ y, y = v.x ∨ y = v.fr ∨ y = s.next → y ∈ M' := fun y hy => by
    rw [hM', mem4, hrq]
    refine .inr (.inr (.inr (.inr (List.mem_append.2 (.inr ?_)))))
    simp only [List.mem_cons, List.not_mem_nil, or_false]
    exact hy
  have x11 : IsX s11 M' v (newX n cs i) := ((d3.re M'9 (rq _ (.inl rfl)) (rq _ (.inr (.inl rfl)))).frS f911 (fun y hy => SM' y (by
      rcases List.mem_cons.1 hy with z | z
      · exact Sw y (by simp [z])
      · exact Sl y z)) (fun z => by
      rcases List.mem_cons.1 z with z | z
      · omega
      · have := bl _ z; omega) fun z => by
      rcases List.mem_cons.1 z with z | z
      · omega
      · have := bl _ z; omega)
  have ir11 := ir4.frS f411 fun a b c d e q q2 => by have := SN _ q2; have := hmx a b c d e q; omega
  have n02 : s.next < s2.next := by omega
  have p11 : IsP s11 M' n i q := by
    rw [hq]
    refine ⟨x11, rfl, rfl, rfl, (f411.get s.next (by omega) fun z => by have := SN s.next z; omega).trans g4h, by show s.next < s11.next; omega, rq _ (.inr (.inr rfl)), hlen, ⟨ir11, fun a b c d e z z2 => ?_, mineOf_wf hcs (by omega), by have := mineOf_len cs i; exact Nat.le_trans this (by decide)⟩⟩
    have ha := hmx a b c d e z
    rw [hM', mem4] at z2
    rcases z2 with z | z | z | z | z
    · omega
    · rcases k4 a z with z | z
      · have := bl _ z; omega
      · omega
    · rcases b4 a z with z | z
      · have := bh _ z; omega
      · omega
    · rcases c4 a z with z | z
      · have := bm _ z; omega
      · omega
    · rcases Irow a z with z | z | z
      · have := br _ z; omega
      · omega
      · omega
  have lh6 : LR s6 hv' (heldL n ps ++ [.sl s.next 0 n 1 n]) zh' := b2.frS (e6.frS (S := [wr]) (by simp)) fun y hy => ⟨b6 y hy, fun z => by
    rw [List.mem_singleton.1 z] at hy
    rcases b4 _ hy with z | z
    · exact wzh z
    · omega⟩
  have lh8 := lh6.frS f68m fun y hy => ⟨by have := b6 y hy; omega, fun z => by
    rcases b4 y hy with p | p
    · rcases List.mem_cons.1 z with z | z
      · exact wzh (by rw [← z]; exact p)
      · exact h.dh y p (by simp [z])
    · rcases List.mem_cons.1 z with z | z
      · omega
      · have := bm y z; omega⟩
  have lh11 := lh8.frS f811 fun y hy => ⟨by have := b6 y hy; omega, fun z => by
    rcases b4 y hy with p | p
    · rcases List.mem_cons.1 z with z | z
      · exact wzh (by rw [← z]; exact p)
      · exact h.dl y z (by simp [p])
    · rcases List.mem_cons.1 z with z | z
      · omega
      · have := bl y z; omega⟩
  have lm8 : LR s8 mv' (mineL ps ++ [mv0]) zm' := c2.frS (e8.frS (S := [wr]) (by simp)) fun y hy => ⟨c6 y hy, fun z => by
    rw [List.mem_singleton.1 z] at hy
    rcases c4 _ hy with z | z
    · exact wzm z
    · omega⟩
  have lm11 := lm8.frS f811 fun y hy => ⟨by have := c6 y hy; omega, fun z => by
    rcases c4 y hy with p | p
    · rcases List.mem_cons.1 z with z | z
      · exact wzm (by rw [← z]; exact p)
      · exact h.dl y z (by simp [p])
    · rcases List.mem_cons.1 z with z | z
      · omega
      · have := bl y z; omega⟩
  have ll11 : LR s11 lv' (ptrL ps ++ [.ptr v.x 0 11]) zl' := k2.frS (e11.frS (S := [wr]) (by simp)) fun y hy => ⟨k6 y hy, fun z => by
    rw [List.mem_singleton.1 z] at hy
    rcases k4 _ hy with z | z
    · exact wzl z
    · omega⟩
  refine ⟨s11, lv', hv', mv', zl', zh', zm', ps ++ [q], rfl, ⟨g11w, ?_, ?_, ?_, ?_, fun j hj => ?_, ?_, ?_, ?_, fun y hy => ?_, fun y hy => ?_, fun y hy => ?_, fun y hy => ?_, ⟨fun y hy => ?_, ?_⟩, ?_, h.cx, ?_, h.bx⟩, by rw [← hS]; exact f011, by rw [← hM']; exact M'M⟩
  · rw [show ptrL (ps ++ [q]) = ptrL ps ++ [.ptr v.x 0 11] by rw [hq]; simp [ptrL]]; exact ll11
  · rw [show heldL n (ps ++ [q]) = heldL n ps ++ [.sl s.next 0 n 1 n] by rw [hq]; simp [heldL]]; exact lh11
  · rw [show mineL (ps ++ [q]) = mineL ps ++ [mv0] by rw [hq]; simp [mineL]]; exact lm11
  · rw [List.length_append, h.len]; rfl
  · rw [← hM']
    by_cases hj2 : j < ps.length
    · rw [List.getElem_append_left hj2]
      have hr : ∀ y ∈ rowsOf ps[j], y ∈ rows ps := fun y hy => List.mem_flatten.2 ⟨rowsOf ps[j], List.mem_map.2 ⟨ps[j], List.getElem_mem hj2, rfl⟩, hy⟩
      refine ((h.p j hj2).re M'M fun y hy => ?_).frS f011 SM' fun y hy => rS y (hr y hy)
      rw [hM', mem4, hrq]
      exact .inr (.inr (.inr (.inr (List.mem_append.2 (.inl (hr y hy))))))
    · have hj3 : j = ps.length := by rw [List.length_append] at hj; simp only [List.length_cons, List.length_nil] at hj; omega
      subst hj3
      rw [List.getElem_append_right (Nat.le_refl _)]
      simp only [Nat.sub_self, List.getElem_cons_zero]
      rw [h.len]
      exact p11
  · rw [List.map_append, h.pm, List.range_succ, List.map_append, hq]; rfl
  · rw [hrq]
    refine List.pairwise_append.2 ⟨h.nd, ?_, fun a ha b hb => ?_⟩
    · have := d3.xl
      simp only [List.pairwise_cons, List.mem_cons, List.not_mem_nil, or_false, forall_eq_or_imp, forall_eq, List.Pairwise.nil, and_true, false_imp_iff, implies_true]
      omega
    · have := br a ha
      simp only [List.mem_cons, List.not_mem_nil, or_false] at hb
      omega
  · intro z
    simp only [List.mem_append] at z
    rcases z with ((z | z) | z) | z
    · rcases k4 _ z with z | z
      · exact wzl z
      · omega
    · rcases b4 _ z with z | z
      · exact wzh z
      · omega
    · rcases c4 _ z with z | z
      · exact wzm z
      · omega
    · rw [hrq] at z
      rcases List.mem_append.1 z with z | z
      · exact h.dw (by simp only [List.mem_append]; exact .inr z)
      · simp only [List.mem_cons, List.not_mem_nil, or_false] at z
        omega
  · intro z
    simp only [List.mem_append] at z
    rcases k4 y hy with p | p
    · have := bl y p
      rcases z with (z | z) | z
      · rcases b4 _ z with z | z
        · exact h.dl y p (by simp [z])
        · omega
      · rcases c4 _ z with z | z
        · exact h.dl y p (by simp [z])
        · omega
      · rcases Irow y z with z | z | z
        · exact h.dl y p (by simp only [List.mem_append]; exact .inr z)
        · omega
        · omega
    · rcases z with (z | z) | z
      · have := b6 y z; omega
      · have := c6 y z; omega
      · rcases Irow y z with z | z | z
        · have := br y z; omega
        · omega
        · omega
  · intro z
    simp only [List.mem_append] at z
    rcases b4 y hy with p | p
    · have := bh y p
      rcases z with z | z
      · rcases c4 _ z with z | z
        · exact h.dh y p (by simp [z])
        · omega
      · rcases Irow y z with z | z | z
        · exact h.dh y p (by simp only [List.mem_append]; exact .inr z)
        · omega
        · omega
    · rcases z with z | z
      · rcases c4 _ z with z | z
        · have := bm y z; omega
        · omega
      · rcases Irow y z with z | z | z
        · have := br y z; omega
        · omega
        · omega
  · intro z
    rcases c4 y hy with p | p
    · have := bm y p
      rcases Irow y z with z | z | z
      · exact h.dm y p z
      · omega
      · omega
    · rcases Irow y z with z | z | z
      · have := br y z; omega
      · omega
      · omega
  · rw [mem4] at hy
    rcases hy with z | z | z | z | z
    · omega
    · have := k6 y z; omega
    · have := b6 y z; omega
    · have := c6 y z; omega
    · rcases Irow y z with z | z | z
      · have := br y z; omega
      · omega
      · omega
  · simp only [List.mem_append] at hy
    have := h.los.2
    rcases hy with (z | z) | z
    · rcases k4 _ z with z | z
      · exact h.los.1 y (by simp [z])
      · omega
    · rcases b4 _ z with z | z
      · exact h.los.1 y (by simp [z])
      · omega
    · rcases c4 _ z with z | z
      · exact h.los.1 y (by simp [z])
      · omega
  · have := h.los.2; omega
  · exact h.c.frS f011 (xS h.cx)
  · exact h.b.frS f011 (xS h.bx)
end Go.Proofs.Ytmaidlndikcgkaa.Sim
namespace Go.Proofs.Ytmaidlndikcgkaa.Sim
set_option linter.unusedSimpArgs false
set_option linter.unusedVariables false
variable {s s' : Store} {M M' : List Nat} {w : WV} {ps : List PP} {sent : List OFV}

theorem of_loop {wr lo n : Nat} {cs : List Int} {x1 x4 x6 : AV} (hn : 1 ≤ n ∧ n ≤ 64) (hcs : ∀ c ∈ cs, 0 ≤ c ∧ c < 256) (hcl : cs.length ≤ maxLen) (k : Nat) (hk : 2 ≤ k) (hk2 : k ≤ 1000000) (s0 : Store) (hlo : lo = s0.next) : ∀ (f i : Nat) (s : Store) (lv hv mv : AV) (zl zh zm : List Nat) (ps : List PP), OfI s wr lo n i cs x1 x6 lv hv mv zl zh zm ps → FrS [wr] s0 s → (∀ y ∈ wr :: (zl ++ zh ++ zm ++ rows ps), y = wr ∨ s0.next ≤ y) → i ≤ n → n - i < f →
    ∃ s' lv' hv' mv' zl' zh' zm' ps', F9.l0 (k + 8) f (.int .i64 (n : Int)) x1 x4 (.ptr wr 0 4) x6 (.int .i64 (i : Int)) s = F9.p0 (k + 8) x4 (.ptr wr 0 4) s' ∧ OfI s' wr lo n n cs x1 x6 lv' hv' mv' zl' zh' zm' ps' ∧ FrS [wr] s0 s' ∧ (∀ y ∈ wr :: (zl' ++ zh' ++ zm' ++ rows ps'), y = wr ∨ s0.next ≤ y) := by
  intro f
  induction f with
  | zero => intro i s _ _ _ _ _ _ _ _ _ _ _ h; omega
  | succ f ih =>
    intro i s lv hv mv zl zh zm ps h e hd hi hf
    have hs : F9.l0 (k + 8) (f + 1) (.int .i64 (n : Int)) x1 x4 (.ptr wr 0 4) x6 (.int .i64 (i : Int)) s = F9.p11 (k + 8) (F9.l0 (k + 8) f) (.int .i64 (n : Int)) x1 x4 (.ptr wr 0 4) x6 (.int .i64 (i : Int)) s := rfl
    rw [hs]
    unfold F9.p11
    simp only [lss_i]
    by_cases hin : (i : Int) < (n : Int)
    rotate_left
    · simp only [decide_eq_false hin, if_f]
      have : i = n := by omega
      subst this
      exact ⟨s, lv, hv, mv, zl, zh, zm, ps, rfl, h, e, hd⟩
    · simp only [decide_eq_true hin, if_t]
      obtain ⟨s1, lv1, hv1, mv1, zl1, zh1, zm1, ps1, a1, a2, a3, a4⟩ := of_turn (x4 := x4) (R0 := F9.l0 (k + 8) f) h hn (by omega) hcs hcl k hk hk2
      rw [a1]
      have n1 := e.next
      obtain ⟨s', lv', hv', mv', zl', zh', zm', ps', b1, b2, b3, b4⟩ := ih (i + 1) s1 lv1 hv1 mv1 zl1 zh1 zm1 ps1 a2 (e.trans a3 fun y hy => by
        rcases hd y (by
          simp only [List.mem_cons, List.mem_append] at hy ⊢
          grind) with z | z
        · exact .inl (by rw [z]; simp)
        · exact .inr z) (fun y hy => by
        rcases a4 y hy with z | z
        · exact hd y z
        · exact .inr (by omega)) (by omega) (by omega)
      exact ⟨s', lv', hv', mv', zl', zh', zm', ps', b1, b2, b3, b4⟩
/-- A row of four nil slices is nobody's. -/
abbrev nil4 : List AV := [AV.nilsl, AV.nilsl, AV.nilsl, AV.nilsl]
theorem IsRM.re4 {v : AV} {l : List Rn} {y : Nat} (h : IsRM s M v l) (hy : s.get y = .cells nil4 false) : IsRM s (y :: M) v l := by
  refine ⟨h.is, fun i b c d e q q2 => ?_, h.wf, h.len⟩
  rcases List.mem_cons.1 q2 with z | z
  · rcases h.is with ⟨q1, _⟩ | ⟨id, ro, q1, h2, h3⟩
    · rw [q1] at q; cases q
    · rw [q1] at q
      injection q with q
      subst q
      subst z
      rw [hy] at h3
      injection h3 with h3
      have := congrArg List.length h3
      rw [flatL_len (c := rcells) (es := 3) (fun _ => rfl)] at this
      simp only [List.length_cons, List.length_nil] at this
      omega
  · exact h.off i b c d e q z
theorem IsSF.re4 {q y : Nat} {f : SF} (h : IsSF s M q f) (hy : s.get y = .cells nil4 false) : IsSF s (y :: M) q f := by
  obtain ⟨cs, ro, ev, av, h1, h2, h3, h4, h5, h6, h7⟩ := h.row
  refine ⟨fun z => ?_, h.lt, ⟨cs, ro, ev, av, h1, h2, h3, h4, h5, h6.re4 hy, h7.re4 hy⟩, h.rnd⟩
  rcases List.mem_cons.1 z with z | z
  · rw [z, hy] at h1
    injection h1 with h1
    rw [← h1] at h2
    simp at h2
  · exact h.off z
theorem RelP.re4 {p : AV} {o : Option SF} {y : Nat} (h : RelP s M p o) (hy : s.get y = .cells nil4 false) : RelP s (y :: M) p o := by
  rcases h with h | ⟨q, f, h1, h2, h3⟩
  · exact .inl h
  · exact .inr ⟨q, f, h1, h2, h3.re4 hy⟩
theorem IsX.re4 {v : XV} {m : XI} {y : Nat} (h : IsX s M v m) (hy : s.get y = .cells nil4 false) : IsX s (y :: M) v m :=
  ⟨h.st, h.frow, h.flen, h.frl, fun i hi => by
    obtain ⟨p, o, h1, h2, h3⟩ := h.rel i hi
    exact ⟨p, o, h1, h2, h3.re4 hy⟩, h.base, fun i b c d e q q2 => by
    rcases List.mem_cons.1 q2 with z | z
    · rcases h.base with ⟨q1, _⟩ | ⟨id, ro, q1, h2, h3⟩
      · rw [q1] at q; cases q
      · rw [q1] at q
        injection q with q
        subst q
        subst z
        rw [hy] at h3
        injection h3 with h3
        cases hb : m.base with
        | nil => rw [hb] at h3; cases h3
        | cons a l => rw [hb] at h3; injection h3 with h3; cases h3
    · exact h.baseM i b c d e q z, h.baseU, h.baseL, h.est.re4 hy, h.vote.re4 hy, h.dec.re4 hy, h.decn, List.mem_cons_of_mem _ h.xM, List.mem_cons_of_mem _ h.fM, h.ne, h.xl, h.fl, h.n1, h.me, h.num, h.most, h.rnd⟩
theorem IsP.re4 {n i y : Nat} {p : PP} (h : IsP s M n i p) (hy : s.get y = .cells nil4 false) : IsP s (y :: M) n i p :=
  ⟨h.x.re4 hy, h.xn, h.me, h.num, h.h, h.hlt, List.mem_cons_of_mem _ h.hM, h.hl, h.mi.re4 hy⟩
theorem LR.row {v : AV} {xs : List AV} {z : List Nat} (h : LR s v xs z) (hx : xs ≠ []) : ∃ id, z = [id] ∧ v = .sl id 0 xs.length 1 xs.length ∧ s.get id = .cells xs false := by
  rcases h with ⟨_, q, _⟩ | h
  · exact absurd q hx
  · exact h
theorem ofw_run {n : Nat} {cs : List Int} {x1 : AV} (hc : IsSl s x1 .u8 cs) (hn : 1 ≤ n ∧ n ≤ 64) (hcs : ∀ c ∈ cs, 0 ≤ c ∧ c < 256) (hcl : cs.length ≤ maxLen) (k : Nat) (hk : 1000 ≤ k) (hk2 : k ≤ 1000000) :
    ∃ s' w ps, rn (k + 9) 9 [.int .i64 (n : Int), x1] s = some (.agg (wvals n w), s') ∧ IsW s' (rowsW w ps) w ps [] ∧ ps.map (·.2) = (List.range n).map (newP n cs) ∧ Ext s s' ∧ ∀ y ∈ rowsW w ps, s.next ≤ y := by
  rw [show k + 9 = (k + 8) + 1 from rfl, F9.eq]
  unfold F9.f F9.p15 F9.p14
  have hl4 : [AV.nilsl, AV.nilsl, AV.nilsl, AV.nilsl].length = 4 := rfl
  have hbn : ∀ {α : Type} (f : List AV → Option α), aBuild [] [AV.nilsl, AV.nilsl, AV.nilsl, AV.nilsl] f = f [AV.nilsl, AV.nilsl, AV.nilsl, AV.nilsl] := fun f => rfl
  have ea := Ext.push s (.cells [AV.nilsl, AV.nilsl, AV.nilsl, AV.nilsl] false)
  have ga : (s.push (.cells [AV.nilsl, AV.nilsl, AV.nilsl, AV.nilsl] false)).get s.next = .cells [AV.nilsl, AV.nilsl, AV.nilsl, AV.nilsl] false := by rw [get_push, if_pos rfl]
  have na : (s.push (.cells [AV.nilsl, AV.nilsl, AV.nilsl, AV.nilsl] false)).next = s.next + 1 := rfl
  simp only [new_s, hl4, hbn]
  generalize s.push (.cells [AV.nilsl, AV.nilsl, AV.nilsl, AV.nilsl] false) = sa at ea ga na ⊢
  have eb := Ext.push sa (.cells [AV.nilsl, AV.nilsl, AV.nilsl, AV.nilsl] false)
  have gb : (sa.push (.cells [AV.nilsl, AV.nilsl, AV.nilsl, AV.nilsl] false)).get sa.next = .cells [AV.nilsl, AV.nilsl, AV.nilsl, AV.nilsl] false := by rw [get_push, if_pos rfl]
  have nb : (sa.push (.cells [AV.nilsl, AV.nilsl, AV.nilsl, AV.nilsl] false)).next = sa.next + 1 := rfl
  have hst : ∀ {α : Type} (f : Store → Option α), aStore 4 (.ptr sa.next 0 4) (.agg [AV.nilsl, AV.nilsl, AV.nilsl, AV.nilsl]) (sa.push (.cells [AV.nilsl, AV.nilsl, AV.nilsl, AV.nilsl] false)) f = f (sa.push (.cells [AV.nilsl, AV.nilsl, AV.nilsl, AV.nilsl] false)) := fun f => by
    rw [st_all gb hl4 rfl, set_same gb]
  simp only [hst]
  generalize sa.push (.cells [AV.nilsl, AV.nilsl, AV.nilsl, AV.nilsl] false) = sb at eb gb nb ⊢
  unfold F9.p13
  rw [mk_u64 (by omega)]
  have ec := Ext.push sb (.cells ((List.replicate n (0 : Int)).map (.int .u64)) false)
  have gc : (sb.push (.cells ((List.replicate n (0 : Int)).map (.int .u64)) false)).get sb.next = .cells ((List.replicate n (0 : Int)).map (.int .u64)) false := by rw [get_push, if_pos rfl]
  have nc : (sb.push (.cells ((List.replicate n (0 : Int)).map (.int .u64)) false)).next = sb.next + 1 := rfl
  generalize sb.push (.cells ((List.replicate n (0 : Int)).map (.int .u64)) false) = sc at ec gc nc ⊢
  unfold F9.p12
  have e3 := (ea.trans eb).trans ec
  have h0 : OfI sc sa.next sc.next n 0 cs x1 (.sl sb.next 0 n 1 n) .nilsl .nilsl .nilsl [] [] [] [] :=
    ⟨(ec.get _ (by omega)).trans gb, .inl ⟨rfl, rfl, rfl⟩, .inl ⟨rfl, rfl, rfl⟩, .inl ⟨rfl, rfl, rfl⟩, rfl, fun j hj => absurd hj (by simp), rfl, List.nodup_nil, by simp [rows], by simp, by simp, by simp, fun y hy => by simp [rows] at hy; omega, ⟨by simp, Nat.le_refl _⟩, hc.ext e3, fun a b c d e q => by have := hc.lt a b c d e q; omega, .inr ⟨sb.next, false, by rw [List.length_replicate], by omega, gc⟩, fun a b c d e q => by injection q with q; omega⟩
  obtain ⟨s', lv, hv, mv, zl, zh, zm, ps, a1, a2, a3, a4⟩ := of_loop (x4 := .ptr s.next 0 4) hn hcs hcl k (by omega) hk2 sc rfl (k + 8) 0 sc _ _ _ _ _ _ _ h0 (FrS.refl _ _) (fun y hy => by simp [rows] at hy; exact .inl hy) (by omega) (by omega)
  rw [show ((0 : Nat) : Int) = 0 from rfl] at a1
  rw [a1]
  unfold F9.p0
  have hpl : ps.length = n := a2.len
  have hne : ps ≠ [] := fun q => by rw [q] at hpl; simp at hpl; omega
  obtain ⟨lr, zl1, lv1, lg⟩ := a2.l.row (by simpa [ptrL] using hne)
  obtain ⟨hr, zh1, hv1, hg⟩ := a2.h.row (by simpa [heldL] using hne)
  obtain ⟨mr, zm1, mv1, mg⟩ := a2.m.row (by simpa [mineL] using hne)
  have ll : (ptrL ps).length = n := by simp [ptrL, hpl]
  have lh : (heldL n ps).length = n := by simp [heldL, hpl]
  have lm : (mineL ps).length = n := by simp [mineL, hpl]
  rw [ll] at lv1; rw [lh] at hv1; rw [lm] at mv1
  obtain ⟨w, hw⟩ : ∃ w : WV, w = ⟨lr, hr, mr, .nilsl, []⟩ := ⟨_, rfl⟩
  have gw : s'.get sa.next = .cells (wvals n w) false := by rw [a2.g, lv1, hv1, mv1, hw]; rfl
  have n3 := a3.next
  have g4 : s'.get s.next = .cells [AV.nilsl, AV.nilsl, AV.nilsl, AV.nilsl] false := (a3.get _ (by omega) (by simp only [List.mem_singleton]; omega)).trans ((ec.get _ (by omega)).trans ((eb.get _ (by omega)).trans ga))
  rw [ld_all gw (wv_len _ _), put_back g4 hl4 (wv_len _ _)]
  have hrw : rowsW w ps = rows ps := by rw [hw]; rfl
  have hin : ∀ y, y ∈ zl ∨ y ∈ zh ∨ y ∈ zm ∨ y ∈ rows ps → sc.next ≤ y ∧ y < s'.next := fun y hy => by
    have hm := mem4.2 (Or.inr hy : y = sa.next ∨ _)
    refine ⟨?_, a2.lt y hm⟩
    rcases a4 y hm with z | z
    · exfalso
      refine a2.dw ?_
      rw [← z]
      simp only [List.mem_append]
      rcases hy with q | q | q | q
      · exact .inl (.inl (.inl q))
      · exact .inl (.inl (.inr q))
      · exact .inl (.inr q)
      · exact .inr q
    · exact z
  have hW : IsW s' (s.next :: rowsW w ps) w ps [] := by
    rw [hrw]
    refine ⟨by omega, by rw [hw]; exact lg, by rw [hw, hpl]; exact hg, by rw [hw]; exact mg, fun r hr => ?_, fun j hj => ?_, by rw [hrw]; exact a2.nd, fun y hy => by rw [hrw] at hy; exact List.mem_cons_of_mem _ hy, fun y hy => ?_, .inl ⟨by rw [hw], rfl, by rw [hw]⟩, fun f hf => (List.not_mem_nil hf).elim⟩
    · rw [hw] at hr
      simp only [List.mem_cons, List.not_mem_nil, or_false] at hr
      rcases hr with z | z | z
      · have : r ∈ zl := by rw [zl1, z]; simp
        have hb := hin r (.inl this)
        exact ⟨hb.2, fun q => by
          rcases List.mem_cons.1 q with q | q
          · omega
          · exact a2.dl r this (by simp only [List.mem_append]; exact .inr q)⟩
      · have : r ∈ zh := by rw [zh1, z]; simp
        have hb := hin r (.inr (.inl this))
        exact ⟨hb.2, fun q => by
          rcases List.mem_cons.1 q with q | q
          · omega
          · exact a2.dh r this (by simp only [List.mem_append]; exact .inr q)⟩
      · have : r ∈ zm := by rw [zm1, z]; simp
        have hb := hin r (.inr (.inr (.inl this)))
        exact ⟨hb.2, fun q => by
          rcases List.mem_cons.1 q with q | q
          · omega
          · exact a2.dm r this q⟩
    · rw [hpl]
      exact ((a2.p j hj).re (fun y hy => .inl (mem4.2 (.inr (.inr (.inr (.inr hy)))))) fun y hy => List.mem_flatten.2 ⟨rowsOf ps[j], List.mem_map.2 ⟨ps[j], List.getElem_mem hj, rfl⟩, hy⟩).re4 g4
    · rcases List.mem_cons.1 hy with q | q
      · omega
      · exact (hin y (.inr (.inr (.inr q)))).2
  have e5 := Fr1.set s.next s' (.cells (wvals n w) false)
  refine ⟨_, w, ps, rfl, ?_, a2.pm, ⟨Nat.le_trans e3.next n3, fun l hl => ?_⟩, fun y hy => ?_⟩
  · -- the result's row is none of those
    have hno : ∀ y ∈ rowsW w ps, y ∉ [s.next] := fun y hy z => by
      rw [hrw] at hy
      have := hin y (.inr (.inr (.inr hy)))
      rw [List.mem_singleton.1 z] at this
      omega
    exact (hW.frS (e5.frS (S := [s.next]) (by simp)) (fun y hy => by rw [List.mem_singleton.1 hy]; simp) hno).less (fun y hy => List.mem_cons_of_mem _ hy) fun y hy => hy
  · rw [get_set, if_neg (by omega), a3.get l (by omega) (by simp only [List.mem_singleton]; omega)]
    exact e3.get l hl
  · rw [hrw] at hy
    have := hin y (.inr (.inr (.inr hy)))
    omega
end Go.Proofs.Ytmaidlndikcgkaa.Sim
namespace Go.Proofs.Ytmaidlndikcgkaa.Sim
set_option linter.unusedSimpArgs false
set_option linter.unusedVariables false

theorem frAt_new (n : Nat) (cs : List Int) (p a ph : Nat) : frAt (newX n cs p) a ph = none := by
  show (List.replicate (n * 2) (none : Option SF))[a * 2 + ph]?.getD none = none
  rw [List.getElem?_replicate]
  split <;> rfl
theorem new_wi {n : Nat} {cs : List Int} : WInv n (mineOf cs) 0 (((List.range n).map (newP n cs)).map (·.x)) [] := by
  refine ⟨fun _ r => if r < 0 then some [] else none, fun p r => if r = 0 ∧ p < n then some (newX n cs p).est else none, ⟨?_, ?_, ?_, ?_⟩, by simp, fun p hp => ?_, fun f hf => (List.not_mem_nil hf).elim⟩
  · intro p r v h
    split at h
    · injection h with h; exact .inl h.symm
    · cases h
  · intro r r' p e hr h ho
    split at h
    · rename_i hr0
      exfalso
      unfold Open nils at ho
      have : ((List.range n).countP fun a => decide ((if r < 0 then some ([] : List Rn) else none) = some [])) = n := by
        rw [if_pos (by omega), List.countP_eq_length.2 (by simp)]
        simp
      rw [this] at ho
      omega
    · cases h
  · intro p r e h
    split at h
    · rename_i hq
      injection h with h
      rw [← h]
      simp only [newX]
      split
      · exact .inr ⟨p, hq.2, rfl⟩
      · exact .inl rfl
    · cases h
  · intro p r e h
    split at h
    · omega
    · cases h
  · have hp2 : p < n := by simpa using hp
    have hx : (((List.range n).map (newP n cs)).map (·.x))[p] = newX n cs p := by simp [newP]
    rw [hx]
    refine ⟨rfl, rfl, rfl, Int.le_refl _, ?_, fun q => ?_, fun _ => ⟨rfl, rfl⟩, fun r hr => ?_, by simp [newX], fun a ph f ha hph hf => ?_, fun ph hph => frAt_new n cs p p ph, fun q => absurd rfl q⟩
    · show (if (0 : Int) = 0 ∧ p < n then _ else none) = _
      rw [if_pos ⟨rfl, hp2⟩]
    · simp [newX] at q
    · have hr : (0 : Int) < r := hr
      constructor
      · show (if r = 0 ∧ p < n then _ else none) = none
        rw [if_neg (by omega)]
      · show (if r < 0 then _ else none) = none
        rw [if_neg (by omega)]
    · rw [frAt_new] at hf; cases hf
/-- What holds along any picks: agreement's, and whose batches these are. -/
structure PInv (n : Nat) (cs : List Int) (b : Int) (l : List PM) (o : List OF) : Prop where
  w : WInv n (mineOf cs) b (l.map (·.x)) o
  len : l.length = n
  mine : ∀ p (h : p < l.length), l[p].mine = mineOf cs p
theorem new_pinv (n : Nat) (cs : List Int) : PInv n cs 0 ((List.range n).map (newP n cs)) [] := ⟨new_wi, by simp, fun p h => by simp [newP]⟩
theorem WInv.mono {n : Nat} {mine : Nat → List Rn} {b b' : Int} {L : List XI} {o : List OF} (h : WInv n mine b L o) (hb : b ≤ b') : WInv n mine b' L o := by
  obtain ⟨V, E, k, hl, hloc, hs⟩ := h
  exact ⟨V, E, k.mono hb, hl, hloc, hs⟩
theorem pstep_pinv {n : Nat} {cs : List Int} {b : Int} {l l' : List PM} {o o' : List OF} (h : PInv n cs b l o) (hb : b + 1 < 18446744073709551616) (st : PStep l o l' o') : PInv n cs (b + 1) l' o' := by
  have other : ∀ (i : Nat) (hi : i < l.length) (q : PM), q.mine = l[i].mine → ∀ p (hp : p < (l.set i q).length), (l.set i q)[p].mine = mineOf cs p := fun i hi q hq p hp => by
    rw [List.length_set] at hp
    rw [List.getElem_set]
    split
    · rename_i z; subst z; rw [hq]; exact h.mine _ hi
    · exact h.mine p hp
  have mx : ∀ (i : Nat) (hi : i < l.length), (l.map (·.x))[i]'(by rw [List.length_map]; exact hi) = l[i].x := fun i hi => by rw [List.getElem_map]
  cases st with
  | same => exact ⟨h.w.mono (by omega), h.len, h.mine⟩
  | hold i q hi hq =>
    refine ⟨?_, by rw [List.length_set]; exact h.len, other i hi _ rfl⟩
    rw [List.map_set]
    show WInv n (mineOf cs) (b + 1) ((l.map (·.x)).set i l[i].x) o
    rw [set_at (by rw [List.getElem?_map, List.getElem?_eq_getElem hi]; rfl)]
    exact h.w.mono (by omega)
  | step i hi sus =>
    refine ⟨?_, by rw [List.length_set]; exact h.len, other i hi _ rfl⟩
    rw [List.map_set]
    have := winv_step (held := l[i].held) (sus := sus) h.w (p := i) (by rw [List.length_map]; exact hi) hb
    rw [mx i hi, ← h.mine i hi] at this
    exact this
  | come i hi f hf =>
    refine ⟨?_, by rw [List.length_set]; exact h.len, other i hi _ rfl⟩
    rw [List.map_set]
    have := winv_come h.w (p := i) (by rw [List.length_map]; exact hi) hf
    rw [mx i hi] at this
    exact this.mono (by omega)
end Go.Proofs.Ytmaidlndikcgkaa.Sim
namespace Go.Proofs.Ytmaidlndikcgkaa.Sim
set_option linter.unusedSimpArgs false
set_option linter.unusedVariables false
variable {s s' : Store} {M M' : List Nat} {w : WV} {ps : List PP} {sent : List OFV}

theorem same_loop (k : Nat) {s : Store} {i1 i2 : Nat} {l1 l2 : List Rn} (h1 : AtRuns s i1 l1) (h2 : AtRuns s i2 l2) (hl : l1.length = l2.length) (hb : l1.length < 9223372036854775808) : ∀ (n i : Nat), i ≤ l1.length → l1.length - i < n →
    F14.l0 k n (.sl i1 0 l1.length 3 (l1.length * 3)) (.sl i2 0 l2.length 3 (l2.length * 3)) (.int .i64 l1.length) (.int .i64 i) s = some (.bool (decide (l1.drop i = l2.drop i)), s)
  | 0, i, _, hn => by omega
  | n + 1, i, hi, hn => by
    have hs : F14.l0 k (n + 1) = fun x0 x1 x12 x13 s => F14.p6 k (F14.l0 k n) x0 x1 x12 x13 s := rfl
    rw [hs]
    clear hs
    simp only
    unfold F14.p6 F14.p5
    rw [lss_i]
    by_cases h : i < l1.length
    · have hz : (i : Int) < (l1.length : Int) := by omega
      rw [decide_eq_true hz, if_t]
      unfold F14.p4 F14.p3
      have hz2 : (i : Int) < (l2.length : Int) := by omega
      simp only [Option.bind_some, index_sl (show (0 : Int) ≤ i by omega) hz, index_sl (show (0 : Int) ≤ i by omega) hz2, Int.toNat_natCast]
      rw [load_run h1 i h]
      simp only [Option.bind_some]
      rw [load_run h2 i (by omega)]
      simp only [Option.bind_some, eq_cells]
      unfold F14.p2 F14.p1
      rw [List.drop_eq_getElem_cons h, List.drop_eq_getElem_cons (by omega : i < l2.length)]
      by_cases he : l1[i] = l2[i]
      · have hw : IntKind.i64.wrap ((i : Int) + 1) = ((i + 1 : Nat) : Int) := by rw [w_i64 (by omega) (by omega)]; omega
        simp only [he, decide_true, Bool.not_true, if_f, add_i, hw, List.cons.injEq, true_and]
        exact same_loop k h1 h2 hl hb n (i + 1) (by omega) (by omega)
      · have hne : ¬ (l1[i] :: l1.drop (i + 1) = l2[i] :: l2.drop (i + 1)) := fun q => he (List.cons.inj q).1
        rw [decide_eq_false hne, decide_eq_false he]
        rfl
    · have hz : ¬ (i : Int) < (l1.length : Int) := by omega
      rw [decide_eq_false hz, if_f]
      unfold F14.p0
      rw [List.drop_eq_nil_of_le (by omega), List.drop_eq_nil_of_le (by omega)]
      simp

theorem same_run {s : Store} {v1 v2 : AV} {l1 l2 : List Rn} (h1 : IsRuns s v1 l1) (h2 : IsRuns s v2 l2) (hb : l1.length < 9223372036854775808) (k : Nat) (hk : l1.length < k) : rn (k + 1) 14 [v1, v2] s = some (.bool (decide (l1 = l2)), s) := by
  rw [F14.eq]
  unfold F14.f F14.p9 F14.p8
  rw [len_runs h1, len_runs h2, neq_i]
  by_cases hl : l1.length = l2.length
  · have hz : (((l1.length : Nat) : Int) != ((l2.length : Nat) : Int)) = false := by simp [hl]
    rw [hz, if_f]
    unfold F14.p7
    rw [len_runs h1]
    obtain ⟨k, rfl⟩ : ∃ q, k = q + 1 := ⟨k - 1, by omega⟩
    by_cases h0 : l1 = []
    · subst h0
      have : l2 = [] := List.length_eq_zero_iff.1 hl.symm
      subst this
      have hs : F14.l0 (k + 1) (k + 1) = fun x0 x1 x12 x13 s => F14.p6 (k + 1) (F14.l0 (k + 1) k) x0 x1 x12 x13 s := rfl
      rw [hs]
      simp [F14.p6, F14.p5, F14.p0, lss_i, aIf]
    · have h0' : l2 ≠ [] := fun q => h0 (List.length_eq_zero_iff.1 (by rw [hl, q]; rfl))
      rcases h1 with ⟨_, h1⟩ | ⟨i1, r1, rfl, _, g1⟩
      · exact absurd h1 h0
      rcases h2 with ⟨_, h2⟩ | ⟨i2, r2, rfl, _, g2⟩
      · exact absurd h2 h0'
      have := same_loop (k + 1) ⟨r1, g1⟩ ⟨r2, g2⟩ hl hb (k + 1) 0 (by omega) (by omega)
      simpa using this
  · have hz : (((l1.length : Nat) : Int) != ((l2.length : Nat) : Int)) = true := by simp; omega
    have hne : l1 ≠ l2 := fun q => hl (by rw [q])
    rw [hz, if_t, decide_eq_false hne]
theorem own_runs {v : AV} {l : List Rn} {lo : Nat} (h : OwnL rcells 3 s v l lo) : IsRuns s v l := by
  rcases h with q | ⟨id, q1, q2, q3, q4⟩
  · exact .inl q
  · exact .inr ⟨id, false, q1, q3, q4⟩
theorem ext1 (x y : AV) {α : Type} (c : AV → Option α) : aExtract 0 (.tuple [x, y]) c = c x := rfl
theorem ext2 (x y : AV) {α : Type} (c : AV → Option α) : aExtract 1 (.tuple [x, y]) c = c y := rfl
theorem agree_in (k : Nat) (hk : 1001 ≤ k) (hk2 : k ≤ 1000000000) {a : List Rn} {x4 x3 : AV} {wr : Nat} {R0 : AV → AV → Store → Option (AV × Store)} (hal : a.length ≤ 1000) (hag : ∀ j (h : j < ps.length), ps[j].2.x.decided ≠ [] → ps[j].2.x.decided = a) : ∀ (f q : Nat) (s : Store) (own : Bool), IsW s M w ps sent → s.get wr = .cells (wvals ps.length w) false → wr < s.next → IsRuns s x4 a → q ≤ ps.length → ps.length - q < f → (own = true ∨ ∃ j, q ≤ j ∧ ∃ h : j < ps.length, a = ps[j].2.mine) →
    ∃ s', F11.l0 (k + 2) R0 f (.ptr wr 0 4) x3 x4 (.bool own) (.int .i64 (q : Int)) s = F11.p2 (k + 2) R0 (.ptr wr 0 4) x3 x4 (.bool true) s' ∧ Ext s s' := by
  intro f
  induction f with
  | zero => intro q s own _ _ _ _ _ hf; omega
  | succ f ih =>
    intro q s own h g hwr ha hq hf ho
    have hs : F11.l0 (k + 2) R0 (f + 1) (.ptr wr 0 4) x3 x4 (.bool own) (.int .i64 (q : Int)) s = F11.p5 (k + 2) R0 (F11.l0 (k + 2) R0 f) (.ptr wr 0 4) x3 x4 (.bool own) (.int .i64 (q : Int)) s := rfl
    rw [hs]
    unfold F11.p5
    have n64 := h.n1.2
    have ld : ∀ {t : Store}, Ext s t → ∀ {j : Nat} {v : AV}, (wvals ps.length w)[j]? = some v → ∀ {α : Type} (c : AV → Option α), aLoad1 (.ptr wr (0 + j) 4) t c = c v := fun {t} e {j v} hv {α} c => ld_fld ((e.get _ hwr).trans g) rfl hv c
    simp only [ld (Ext.refl s) (j := 0) rfl, bnd, guard_tt, guard_ff, guard_tf, guard_ft, pick_t, pick_f, if_t, if_f, add_i, sub_i, lss_i, leq_i, gtr_i, geq_i, eql_i, neq_i, min_i, max_i, conv_i, len_sl, len_nil, not_b, cells_agg, new_s, fld_p, nil_p]
    by_cases hqn : (q : Int) < (ps.length : Int)
    rotate_left
    · simp only [decide_eq_false hqn, bnd, guard_tt, guard_ff, guard_tf, guard_ft, pick_t, pick_f, if_t, if_f, add_i, sub_i, lss_i, leq_i, gtr_i, geq_i, eql_i, neq_i, min_i, max_i, conv_i, len_sl, len_nil, not_b, cells_agg, new_s, fld_p, nil_p]
      rcases ho with rfl | ⟨j, h1, h2, _⟩
      · exact ⟨s, rfl, Ext.refl s⟩
      · omega
    have hqn' : q < ps.length := by omega
    simp only [decide_eq_true hqn, bnd, guard_tt, guard_ff, guard_tf, guard_ft, pick_t, pick_f, if_t, if_f, add_i, sub_i, lss_i, leq_i, gtr_i, geq_i, eql_i, neq_i, min_i, max_i, conv_i, len_sl, len_nil, not_b, cells_agg, new_s, fld_p, nil_p]
    unfold F11.p4
    have hp := h.p q hqn'
    obtain ⟨s1, v, a1, a2, a3⟩ := decided_run hp.x k
    have lL := fun {α : Type} (c : AV → Option α) => h.ldL hqn' c
    have hsame := same_run (ha.ext a3) (own_runs a2) (by omega) (k + 1) (by omega)
    have hsm := same_run (ha.ext a3) ((h.ext a3).p q hqn').mi.is (by omega) (k + 1) (by omega)
    have lM := fun {α : Type} (c : AV → Option α) => (h.ext a3).ldM hqn' c
    have hw1 : IntKind.i64.wrap ((q : Int) + 1) = ((q + 1 : Nat) : Int) := by rw [w_i64 (by omega) (by omega)]; omega
    have next : ∀ own' : Bool, (own' = true ∨ ∃ j, q + 1 ≤ j ∧ ∃ h : j < ps.length, a = ps[j].2.mine) → ∃ s', F11.p3 (k + 2) R0 (F11.l0 (k + 2) R0 f) (.ptr wr 0 4) x3 x4 (.bool own') (.int .i64 (q : Int)) s1 = F11.p2 (k + 2) R0 (.ptr wr 0 4) x3 x4 (.bool true) s' ∧ Ext s s' := fun own' ho' => by
      unfold F11.p3
      simp only [add_i, hw1]
      obtain ⟨s2, b1, b2⟩ := ih (q + 1) s1 own' (h.ext a3) ((a3.get _ hwr).trans g) (Nat.lt_of_lt_of_le hwr a3.next) (ha.ext a3) (by omega) (by omega) ho'
      exact ⟨s2, b1, a3.trans b2⟩
    simp only [fld_p, ld (Ext.refl s) (j := 0) rfl, idx1 hqn', lL, a1, bnd, ext1, ext2]
    have rest : ∀ (own : Bool), (own = true ∨ ∃ j, q ≤ j ∧ ∃ h : j < ps.length, a = ps[j].2.mine) → ∃ s', ((aGuard (.bool own) false (some (x4, s1)) (some (AV.tuple [], s1))).bind fun g15 => (aGuard (.bool own) false (some (AV.ptr wr (0 + 2) 4, g15.2)) (some (AV.tuple [], g15.2))).bind fun g16 => (aGuard (.bool own) false (aLoad1 g16.1 g16.2 fun v19 => some (v19, g16.2)) (some (AV.tuple [], g16.2))).bind fun g18 => (aGuard (.bool own) false (some (.int .i64 (q : Int), g18.2)) (some (AV.tuple [], g18.2))).bind fun g20 => (aGuard (.bool own) false (aIndexSl 1 g18.1 g20.1 fun v22 => some (v22, g20.2)) (some (AV.tuple [], g20.2))).bind fun g21 => (aGuard (.bool own) false (aLoad1 g21.1 g21.2 fun v24 => some (v24, g21.2)) (some (AV.tuple [], g21.2))).bind fun g23 => (aGuard (.bool own) false ((rn (k + 2) 14 [g15.1, g23.1] g23.2).bind fun q26 => some (q26.1, q26.2)) (some (AV.tuple [], g23.2))).bind fun g25 => aPick (.bool own) (AV.bool true) g25.1 fun v27 => F11.p3 (k + 2) R0 (F11.l0 (k + 2) R0 f) (.ptr wr 0 4) x3 x4 v27 (.int .i64 (q : Int)) g25.2) = F11.p2 (k + 2) R0 (.ptr wr 0 4) x3 x4 (.bool true) s' ∧ Ext s s' := by
      intro own ho
      cases own
      · simp only [bnd, guard_tt, guard_ff, guard_tf, guard_ft, pick_t, pick_f, if_t, if_f, add_i, sub_i, lss_i, leq_i, gtr_i, geq_i, eql_i, neq_i, min_i, max_i, conv_i, len_sl, len_nil, not_b, cells_agg, new_s, fld_p, nil_p, ld a3 (j := 2) rfl, idx1 hqn', lM, hsm]
        refine next _ ?_
        rcases ho with z | ⟨j, h1, h2, h3⟩
        · cases z
        · by_cases z : j = q
          · subst z
            exact .inl (decide_eq_true h3)
          · exact .inr ⟨j, by omega, h2, h3⟩
      · simp only [bnd, guard_tt, guard_ff, guard_tf, guard_ft, pick_t, pick_f, if_t, if_f, add_i, sub_i, lss_i, leq_i, gtr_i, geq_i, eql_i, neq_i, min_i, max_i, conv_i, len_sl, len_nil, not_b, cells_agg, new_s, fld_p, nil_p]
        exact next true (.inl rfl)
    by_cases hd : ps[q].2.x.decided = []
    · simp only [decide_eq_true hd, Bool.not_true, bnd, guard_tt, guard_ff, guard_tf, guard_ft, pick_t, pick_f, if_t, if_f, add_i, sub_i, lss_i, leq_i, gtr_i, geq_i, eql_i, neq_i, min_i, max_i, conv_i, len_sl, len_nil, not_b, cells_agg, new_s, fld_p, nil_p, guard_skip]
      exact rest own ho
    · have heq := hag q hqn' hd
      have : decide (a = ps[q].2.x.decided) = true := decide_eq_true heq.symm
      rw [this] at hsame
      simp only [decide_eq_false hd, Bool.not_false, bnd, guard_tt, guard_ff, guard_tf, guard_ft, pick_t, pick_f, if_t, if_f, add_i, sub_i, lss_i, leq_i, gtr_i, geq_i, eql_i, neq_i, min_i, max_i, conv_i, len_sl, len_nil, not_b, cells_agg, new_s, fld_p, nil_p, hsame, Bool.not_true]
      exact rest own ho
theorem agree_out (k : Nat) (hk : 1001 ≤ k) (hk2 : k ≤ 1000000000) {wr : Nat} (hag : ∀ i j (hi : i < ps.length) (hj : j < ps.length), ps[i].2.x.decided ≠ [] → ps[j].2.x.decided ≠ [] → ps[i].2.x.decided = ps[j].2.x.decided) (hval : ∀ i (hi : i < ps.length), ps[i].2.x.decided ≠ [] → ∃ j, ∃ h : j < ps.length, ps[i].2.x.decided = ps[j].2.mine) : ∀ (f q : Nat) (s : Store), IsW s M w ps sent → s.get wr = .cells (wvals ps.length w) false → wr < s.next → q ≤ ps.length → ps.length - q < f →
    ∃ s', F11.l1 (k + 2) f (.ptr wr 0 4) (.int .i64 (q : Int)) s = some (.bool true, s') := by
  intro f
  induction f with
  | zero => intro q s _ _ _ _ hf; omega
  | succ f ih =>
    intro q s h g hwr hq hf
    have hs : F11.l1 (k + 2) (f + 1) (.ptr wr 0 4) (.int .i64 (q : Int)) s = F11.p10 (k + 2) (F11.l1 (k + 2) f) (.ptr wr 0 4) (.int .i64 (q : Int)) s := rfl
    rw [hs]
    unfold F11.p10
    have n64 := h.n1.2
    have ld : ∀ {j : Nat} {v : AV}, (wvals ps.length w)[j]? = some v → ∀ {α : Type} (c : AV → Option α), aLoad1 (.ptr wr (0 + j) 4) s c = c v := fun {j v} hv {α} c => ld_fld g rfl hv c
    simp only [ld (j := 0) rfl, bnd, guard_tt, guard_ff, guard_tf, guard_ft, pick_t, pick_f, if_t, if_f, add_i, sub_i, lss_i, leq_i, gtr_i, geq_i, eql_i, neq_i, min_i, max_i, conv_i, len_sl, len_nil, not_b, cells_agg, new_s, fld_p, nil_p]
    by_cases hqn : (q : Int) < (ps.length : Int)
    rotate_left
    · simp only [decide_eq_false hqn, bnd, guard_tt, guard_ff, guard_tf, guard_ft, pick_t, pick_f, if_t, if_f, add_i, sub_i, lss_i, leq_i, gtr_i, geq_i, eql_i, neq_i, min_i, max_i, conv_i, len_sl, len_nil, not_b, cells_agg, new_s, fld_p, nil_p]
      unfold F11.p0
      exact ⟨s, rfl⟩
    have hqn' : q < ps.length := by omega
    simp only [decide_eq_true hqn, bnd, guard_tt, guard_ff, guard_tf, guard_ft, pick_t, pick_f, if_t, if_f, add_i, sub_i, lss_i, leq_i, gtr_i, geq_i, eql_i, neq_i, min_i, max_i, conv_i, len_sl, len_nil, not_b, cells_agg, new_s, fld_p, nil_p]
    unfold F11.p9
    have hp := h.p q hqn'
    obtain ⟨s1, v, a1, a2, a3⟩ := decided_run hp.x k
    have lL := fun {α : Type} (c : AV → Option α) => h.ldL hqn' c
    have hw1 : IntKind.i64.wrap ((q : Int) + 1) = ((q + 1 : Nat) : Int) := by rw [w_i64 (by omega) (by omega)]; omega
    have next : ∀ {t : Store}, Ext s t → ∃ s', F11.p1 (k + 2) (F11.l1 (k + 2) f) (.ptr wr 0 4) (.int .i64 (q : Int)) t = some (.bool true, s') := fun {t} e => by
      unfold F11.p1
      simp only [add_i, hw1]
      exact ih (q + 1) t (h.ext e) ((e.get _ hwr).trans g) (Nat.lt_of_lt_of_le hwr e.next) (by omega) (by omega)
    simp only [fld_p, ld (j := 0) rfl, idx1 hqn', lL, a1, bnd, ext1, ext2]
    unfold F11.p8
    by_cases hd : ps[q].2.x.decided = []
    · simp only [decide_eq_true hd, Bool.not_true, Bool.not_false, bnd, guard_tt, guard_ff, guard_tf, guard_ft, pick_t, pick_f, if_t, if_f, add_i, sub_i, lss_i, leq_i, gtr_i, geq_i, eql_i, neq_i, min_i, max_i, conv_i, len_sl, len_nil, not_b, cells_agg, new_s, fld_p, nil_p]
      exact next a3
    · simp only [decide_eq_false hd, Bool.not_true, Bool.not_false, bnd, guard_tt, guard_ff, guard_tf, guard_ft, pick_t, pick_f, if_t, if_f, add_i, sub_i, lss_i, leq_i, gtr_i, geq_i, eql_i, neq_i, min_i, max_i, conv_i, len_sl, len_nil, not_b, cells_agg, new_s, fld_p, nil_p]
      unfold F11.p7 F11.p6
      obtain ⟨s2, b1, b2⟩ := agree_in (M := M) (w := w) (ps := ps) (sent := sent) k hk hk2 (a := ps[q].2.x.decided) (x4 := v) (x3 := .int .i64 (q : Int)) (wr := wr) (R0 := F11.l1 (k + 2) f) hp.x.dec.len (fun j hj dj => hag j q hj hqn' dj hd) (k + 2) 0 s1 false (h.ext a3) ((a3.get _ hwr).trans g) (Nat.lt_of_lt_of_le hwr a3.next) (own_runs a2) (by omega) (by omega) (by
        obtain ⟨j, hj, he⟩ := hval q hqn' hd
        exact .inr ⟨j, by omega, hj, he⟩)
      rw [show ((0 : Nat) : Int) = 0 from rfl] at b1
      rw [b1]
      unfold F11.p2
      have hlen : (((ps[q].2.x.decided.length : Nat) : Int) == 0) = false := by
        cases hq : ps[q].2.x.decided with
        | nil => exact absurd hq hd
        | cons x l => simp; omega
      simp only [bnd, guard_tt, guard_ff, guard_tf, guard_ft, pick_t, pick_f, if_t, if_f, add_i, sub_i, lss_i, leq_i, gtr_i, geq_i, eql_i, neq_i, min_i, max_i, conv_i, len_sl, len_nil, not_b, cells_agg, new_s, fld_p, nil_p, Bool.not_true, len_runs ((own_runs a2).ext b2), hlen]
      exact next (a3.trans b2)
theorem agree_run (h : IsW s M w ps sent) (k : Nat) (hk : 1001 ≤ k) (hk2 : k ≤ 1000000000) (hag : ∀ i j (hi : i < ps.length) (hj : j < ps.length), ps[i].2.x.decided ≠ [] → ps[j].2.x.decided ≠ [] → ps[i].2.x.decided = ps[j].2.x.decided) (hval : ∀ i (hi : i < ps.length), ps[i].2.x.decided ≠ [] → ∃ j, ∃ h : j < ps.length, ps[i].2.x.decided = ps[j].2.mine) :
    ∃ s', rn (k + 3) 11 [.agg (wvals ps.length w)] s = some (.bool true, s') := by
  rw [show k + 3 = (k + 2) + 1 from rfl, F11.eq]
  unfold F11.f F11.p12 F11.p11
  simp only [cells_agg, new_s, wv_len]
  have e := Ext.push s (.cells (wvals ps.length w) false)
  have n64 := h.n1.2
  exact agree_out k hk hk2 hag hval (k + 2) 0 _ (h.ext e) (by rw [get_push, if_pos rfl]) (Nat.lt_succ_self _) (by omega) (by omega)
theorem pinv_agree {n : Nat} {cs : List Int} {b : Int} {o : List OF} (h : PInv n cs b (ps.map (·.2)) o) : (∀ i j (hi : i < ps.length) (hj : j < ps.length), ps[i].2.x.decided ≠ [] → ps[j].2.x.decided ≠ [] → ps[i].2.x.decided = ps[j].2.x.decided) ∧ (∀ i (hi : i < ps.length), ps[i].2.x.decided ≠ [] → ∃ j, ∃ h : j < ps.length, ps[i].2.x.decided = ps[j].2.mine) := by
  have hl := h.len
  rw [List.length_map] at hl
  have hx : ∀ i (hi : i < ps.length), ((ps.map (·.2)).map (·.x))[i]'(by simpa using hi) = ps[i].2.x := fun i hi => by rw [List.getElem_map, List.getElem_map]
  refine ⟨fun i j hi hj di dj => ?_, fun i hi di => ?_⟩
  · have := winv_agree h.w (p := i) (q := j) (by simpa using hi) (by simpa using hj) (by rw [hx i hi]; exact di) (by rw [hx j hj]; exact dj)
    rw [hx i hi, hx j hj] at this
    exact this
  · obtain ⟨j, h1, h2⟩ := winv_val h.w (p := i) (by simpa using hi) (by rw [hx i hi]; exact di)
    rw [hx i hi] at h2
    have hj : j < ps.length := by omega
    have := h.mine j (by rw [List.length_map]; exact hj)
    rw [List.getElem_map] at this
    exact ⟨j, hj, by rw [h2, this]⟩
end Go.Proofs.Ytmaidlndikcgkaa.Sim
