/- The texts BArg, B22Args, one behind the other. No condition. -/
import Derived.Test.YtmaidlndikcgkaaB22Wk
namespace Go.Proofs.Ytmaidlndikcgkaa.Sim
set_option linter.unusedSimpArgs false
set_option linter.unusedVariables false

/-- A frame's cells. -/
structure Frm where
  id : Int × Int
  at_ : Int
  of : Int
  size : Int
  dv : AV
  c0 : AV
  c1 : AV
  c2 : AV
  c5 : AV
  c9 : AV
  c10 : AV
  c11 : AV
  c12 : AV
  c13 : AV
  c14 : AV
def Frm.cells (f : Frm) : List AV := [f.c0, f.c1, f.c2, .int .u8 f.id.1, .int .u64 f.id.2, f.c5, .int .u32 f.at_, .int .u32 f.of, .int .u32 f.size, f.c9, f.c10, f.c11, f.c12, f.c13, f.c14, f.dv]
structure Frm.Wf (f : Frm) : Prop where
  at0 : 0 ≤ f.at_ ∧ f.at_ < 4294967296
  of0 : 0 ≤ f.of ∧ f.of < 4294967296
  size0 : 0 ≤ f.size ∧ f.size < 4294967296
theorem put_list {α β : Type} {S : Sh α} {m : Nat} {Rel : Store → List AV → β → Prop} (hmono : ∀ s s' c b, Rel s c b → Ext s s' → Rel s' c b)
    (hput : ∀ x s, S.wf x → ∃ b, Rel (S.put x s).2 (S.put x s).1 b ∧ Ext s (S.put x s).2 ∧ (S.put x s).1.length = m) : ∀ (l : List α) (s : Store), (∀ x ∈ l, S.wf x) →
    ∃ (css : List {c : List AV // c.length = m}) (bs : List β), (S.putL l s).1 = (css.map Subtype.val).flatten ∧ css.length = l.length ∧ bs.length = css.length ∧ (∀ (i : Nat) (h : i < css.length) (h' : i < bs.length), Rel (S.putL l s).2 css[i].val bs[i]) ∧ Ext s (S.putL l s).2
  | [], s, _ => ⟨[], [], rfl, rfl, rfl, fun i h => absurd h (Nat.not_lt_zero _), Ext.refl _⟩
  | x :: l, s, hw => by
    obtain ⟨b, r1, e1, hm⟩ := hput x s (hw x List.mem_cons_self)
    obtain ⟨css, bs, k1, k2, k3, k4, k5⟩ := put_list hmono hput l (S.put x s).2 (fun y hy => hw y (List.mem_cons_of_mem _ hy))
    refine ⟨⟨(S.put x s).1, hm⟩ :: css, b :: bs, ?_, by simp [k2], by simp [k3], fun i h h' => ?_, e1.trans k5⟩
    · show (S.put x s).1 ++ (S.putL l (S.put x s).2).1 = _
      rw [k1]; rfl
    · cases i with
      | zero => exact hmono _ _ _ _ r1 k5
      | succ i => exact k4 i (by simpa using h) (by simpa using h')
theorem put_slice {α β : Type} {S : Sh α} {m : Nat} {Rel : Store → List AV → β → Prop} (hm : S.n = m) (hmono : ∀ s s' c b, Rel s c b → Ext s s' → Rel s' c b)
    (hput : ∀ x s, S.wf x → ∃ b, Rel (S.put x s).2 (S.put x s).1 b ∧ Ext s (S.put x s).2 ∧ (S.put x s).1.length = m) (o : Option (List α)) (s : Store) (hw : (shSlice S).wf o) :
    ∃ (v : AV) (css : List {c : List AV // c.length = m}) (bs : List β), ((shSlice S).put o s).1 = [v] ∧ IsL Subtype.val m ((shSlice S).put o s).2 v css ∧ bs.length = css.length ∧ (∀ (i : Nat) (h : i < css.length) (h' : i < bs.length), Rel ((shSlice S).put o s).2 css[i].val bs[i]) ∧ Ext s ((shSlice S).put o s).2 ∧ css.length ≤ maxLen := by
  cases o with
  | none => exact ⟨.nilsl, [], [], rfl, .inl ⟨rfl, rfl⟩, rfl, fun i h => absurd h (Nat.not_lt_zero _), Ext.refl _, Nat.zero_le _⟩
  | some l =>
    obtain ⟨hl, hx⟩ := hw l rfl
    obtain ⟨css, bs, k1, k2, k3, k4, k5⟩ := put_list hmono hput l s hx
    have e2 := Ext.push (S.putL l s).2 (.cells (S.putL l s).1 true)
    refine ⟨.sl (S.putL l s).2.next 0 l.length S.n (l.length * S.n), css, bs, rfl, .inr ⟨(S.putL l s).2.next, true, by rw [k2, hm], Nat.lt_succ_self _, ?_⟩, k3, fun i h h' => hmono _ _ _ _ (k4 i h h') e2, k5.trans e2, by omega⟩
    show ((S.putL l s).2.push (.cells (S.putL l s).1 true)).get _ = _
    rw [get_push, if_pos rfl, k1]


/-! ### frames as arguments -/
/-- A frame that lies in 16 cells. -/
structure IsFr (s : Store) (c : List AV) (f : Frm × List Int) : Prop where
  eq : c = f.1.cells
  wf : f.1.Wf
  id1 : 0 ≤ f.1.id.1 ∧ f.1.id.1 < 256
  id2 : 0 ≤ f.1.id.2 ∧ f.1.id.2 < 18446744073709551616
  dat : IsV s f.1.dv .u8 f.2
  byte : ∀ x ∈ f.2, 0 ≤ x ∧ x < 256
  most : f.2.length ≤ maxLen
  lens : ∃ n1 n2 n3 n4 : Nat, ∀ {γ : Type} (g : AV → Option γ), aLen f.1.c11 g = g (.int .i64 (n1 : Int)) ∧ aLen f.1.c12 g = g (.int .i64 (n2 : Int)) ∧ aLen f.1.c13 g = g (.int .i64 (n3 : Int)) ∧ aLen f.1.c14 g = g (.int .i64 (n4 : Int))
theorem IsFr.ext {s s' : Store} {c : List AV} {f : Frm × List Int} (h : IsFr s c f) (e : Ext s s') : IsFr s' c f := ⟨h.eq, h.wf, h.id1, h.id2, h.dat.ext e, h.byte, h.most, h.lens⟩
/-- A slice of frames. -/
def IsFrs (s : Store) (v : AV) (F : List (Frm × List Int)) : Prop := ∃ css : List {c : List AV // c.length = 16}, IsL Subtype.val 16 s v css ∧ F.length = css.length ∧ ∀ (i : Nat) (h : i < css.length) (h' : i < F.length), IsFr s css[i].val F[i]
theorem IsFrs.ext {s s' : Store} {v : AV} {F : List (Frm × List Int)} (h : IsFrs s v F) (e : Ext s s') : IsFrs s' v F := by
  obtain ⟨css, h1, h2, h3⟩ := h
  exact ⟨css, h1.ext e, h2, fun i q q' => (h3 i q q').ext e⟩
theorem IsFrs.len {s : Store} {v : AV} {F : List (Frm × List Int)} (h : IsFrs s v F) {α : Type} (f : AV → Option α) : aLen v f = f (.int .i64 F.length) := by
  obtain ⟨css, h1, h2, h3⟩ := h
  rw [lenL h1, h2]
theorem IsFrs.at {s : Store} {v : AV} {F : List (Frm × List Int)} (h : IsFrs s v F) {i : Nat} (hi : i < F.length) : ∃ id ep, (∀ {α : Type} (k : IntKind) (f : AV → Option α), aIndexSl 16 v (.int k (i : Int)) f = f (.ptr id (0 + i * 16) ep)) ∧ (∀ {α : Type} (f : AV → Option α), aLoadN 16 (.ptr id (0 + i * 16) ep) s f = f (.agg F[i].1.cells)) ∧
    (∀ {α : Type} (f : AV → Option α), aLoad1 (.ptr id (0 + i * 16 + 8) ep) s f = f (.int .u32 F[i].1.size)) ∧ (∀ {α : Type} (f : AV → Option α), aLoadN 2 (.ptr id (0 + i * 16 + 3) ep) s f = f (.agg [.int .u8 F[i].1.id.1, .int .u64 F[i].1.id.2])) ∧ IsFr s F[i].1.cells F[i] := by
  obtain ⟨css, h1, h2, h3⟩ := h
  have hi' : i < css.length := by omega
  have hf := h3 i hi' hi
  have hc : css[i].val = F[i].1.cells := hf.eq
  rcases h1 with ⟨_, rfl⟩ | ⟨id, ro, rfl, _, hr⟩
  · simp at hi'
  have hl : ∀ x : {c : List AV // c.length = 16}, x.val.length = 16 := fun x => x.2
  refine ⟨id, css.length * 16, fun k f => idxL hi' f, fun f => by rw [loadL hl hr i hi', hc], fun f => fldL hl hr hi' (by rw [hc]; rfl) f, fun f => ?_, hc ▸ hf⟩
  have hle : i * 16 + 16 ≤ css.length * 16 := by rw [← Nat.succ_mul]; exact Nat.mul_le_mul_right _ hi'
  rw [load_n hr (flatL_len hl css) (by omega)]
  have h5 : ((css.map Subtype.val).flatten.drop (0 + i * 16 + 3)).take 2 = (F[i].1.cells.drop 3).take 2 := by
    rw [← hc, ← flatL_get hl css i hi', List.drop_take, List.take_take, List.drop_drop, Nat.zero_add]
    rfl
  rw [h5]
  rfl
end Go.Proofs.Ytmaidlndikcgkaa.Sim
namespace Go.Proofs.Ytmaidlndikcgkaa.Sim
set_option linter.unusedSimpArgs false
set_option linter.unusedVariables false

theorem put_cnt (o : Option (List Int)) (s : Store) (hw : (shSlice (shInt .u8)).wf o) : ∃ v xs, ((shSlice (shInt .u8)).put o s).1 = [v] ∧ IsSl ((shSlice (shInt .u8)).put o s).2 v .u8 xs ∧ (∀ x ∈ xs, 0 ≤ x ∧ x < 256) ∧ xs.length ≤ maxLen ∧ Ext s ((shSlice (shInt .u8)).put o s).2 := by
  cases o with
  | none => exact ⟨.nilsl, [], rfl, .inl ⟨rfl, rfl⟩, fun x hx => by simp at hx, by simp, Ext.refl _⟩
  | some l =>
    have hp : ∀ l : List Int, (shInt .u8).putL l s = (l.map (.int .u8), s) := fun l => by
      induction l with
      | nil => rfl
      | cons x l ih => simp only [Sh.putL, shInt, List.map_cons]; simp only [shInt] at ih; rw [ih]; rfl
    obtain ⟨h1, h2⟩ := hw l rfl
    have hput : (shSlice (shInt .u8)).put (some l) s = ([.sl s.next 0 l.length 1 l.length], s.push (.cells (l.map (.int .u8)) true)) := by
      show ([AV.sl ((shInt .u8).putL l s).2.next 0 l.length 1 (l.length * 1)], ((shInt .u8).putL l s).2.push (.cells ((shInt .u8).putL l s).1 true)) = _
      rw [hp, Nat.mul_one]
    rw [hput]
    exact ⟨.sl s.next 0 l.length 1 l.length, l, rfl, .inr ⟨s.next, true, rfl, Nat.lt_succ_self _, by rw [get_push, if_pos rfl]⟩, fun x hx => u8_of (h2 x hx), h1, Ext.push _ _⟩
theorem put_pks (o : _) (s : Store) (hw : (shSlice (shPair (shInt .i64) (shPair (shInt .i64) (shPair (shInt .i64) (shInt .u8))))).wf o) : ∃ v P, ((shSlice (shPair (shInt .i64) (shPair (shInt .i64) (shPair (shInt .i64) (shInt .u8))))).put o s).1 = [v] ∧ IsL pcells 4 ((shSlice (shPair (shInt .i64) (shPair (shInt .i64) (shPair (shInt .i64) (shInt .u8))))).put o s).2 v P ∧ (∀ x ∈ P, PkOk x) ∧ Ext s ((shSlice (shPair (shInt .i64) (shPair (shInt .i64) (shPair (shInt .i64) (shInt .u8))))).put o s).2 := by
  obtain ⟨v, css, P, k1, k2, k3, k4, k5, _⟩ := put_slice (m := 4) (β := Pk) (Rel := fun _ c b => c = pcells b ∧ PkOk b) (S := shPair (shInt .i64) (shPair (shInt .i64) (shPair (shInt .i64) (shInt .u8)))) rfl (fun s s' c b h e => h) (fun x s hx => ⟨⟨x.1, x.2.1, x.2.2.1, x.2.2.2⟩, ⟨rfl, ⟨i64_of hx.1, i64_of hx.2.1, i64_of hx.2.2.1⟩⟩, Ext.refl _, rfl⟩) o s hw
  have hm : css.map Subtype.val = P.map pcells := List.ext_getElem (by simp [k3]) fun i h1 h2 => by
    rw [List.getElem_map, List.getElem_map]
    exact (k4 i (by simpa using h1) (by simpa using h2)).1
  refine ⟨v, P, k1, ?_, fun x hx => ?_, k5⟩
  · rcases k2 with ⟨q1, q2⟩ | ⟨id, ro, q1, q2, q3⟩
    · exact .inl ⟨q1, List.length_eq_zero_iff.1 (by rw [k3, q2]; rfl)⟩
    · exact .inr ⟨id, ro, by rw [q1, k3], q2, by rw [q3, hm]⟩
  · obtain ⟨i, hi, rfl⟩ := List.mem_iff_getElem.1 hx
    exact (k4 i (by omega) hi).2
end Go.Proofs.Ytmaidlndikcgkaa.Sim
