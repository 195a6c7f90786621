/- The abstract machine is sound: an operation. No condition. -/
import Derived.Test.YtjbgdpfkmcibbaaGreatDoorSimK
namespace Go.Proofs.YtjbgdpfkmcibbaaGreatDoor.Sim
open Go.RowKit (Below)
set_option linter.unusedSimpArgs false
section
variable {P : Program} {call : CallA} {B : Nat} {w0 : World} {ι : Nat → Loc} {s : Store} {w : World} {α : Type} {r : α} {κ : AV → Store → Option α}

theorem elem_of {t e : TypeId} (he : Sim.elemOf P t = some e) : P.underlying t = some (.slice e) := by
  unfold Sim.elemOf at he
  split at he
  · rename_i hq; rw [hq, Option.some.inj he]
  · cases he

theorem builtin_sound {b : Builtin} {ts : Array TypeId} {ty : TypeId} {cs : Array Bool} {xs : List AV} {xs' : Array Value} (h : aBuiltin P b ts.toList xs s κ = some r) (hx : VRs ι s w xs xs'.toList) (hW : WR B w0 ι s w) :
    Done P call B w0 ι s w (builtin b ts ty cs xs') κ r := by
  unfold aBuiltin at h
  split at h
  · rename_i t tr x xr hts
    obtain ⟨x', hx0, hv⟩ := hx.get (i := 0) rfl
    have hts0 : ts[0]? = some t := by rw [← Array.getElem?_toList, hts]; rfl
    have hx0' : xs'[0]? = some x' := by rw [← Array.getElem?_toList]; exact hx0
    split at h
    · rename_i hu
      obtain ⟨v, v', k1, k2, k3⟩ := lenStr_sound (P := P) (ty := ty) hts0 hx0' hu h hv
      exact .v0 hW k1 k2 k3
    · rename_i e hu
      obtain ⟨v, v', k1, k2, k3⟩ := len_sound (P := P) (ty := ty) hts0 hx0' hu h hv
      exact .v0 hW k1 k2 k3
    · rename_i n e hu
      exact .v0 hW h (by simp [Builtin.len_, hts0, hx0', run_underlying hu, goInt]) (.int _ _)
    · rename_i kt e hu
      obtain ⟨v, v', k1, k2, k3⟩ := lenMap_sound (P := P) (ty := ty) hts0 hx0' hu h hv hW
      exact .v0 hW k1 k2 k3
    · cases h
  · rename_i t u x y hts
    have hts' : ts = #[t, u] := by apply Array.ext'; rw [hts]
    have hl : xs'.toList.length = 2 := by rw [← hx.1]; rfl
    obtain ⟨x', y', hxs⟩ : ∃ x' y', xs' = #[x', y'] := by
      match hq : xs'.toList, hl with
      | [p, q], _ => exact ⟨p, q, by apply Array.ext'; rw [hq]⟩
    subst hxs; subst hts'
    have h1 := hx.2 0 x x' rfl rfl
    have h2 := hx.2 1 y y' rfl rfl
    have hgo : ∀ {e : TypeId} {zs : List AV} {i : TypeInfo}, Sim.elemOf P t = some e → zerosOf P e = some zs → P.info? e = some i → zs.length = i.size → aAppend i.size i.bytes x y s κ = some r → ((∃ e', P.underlying u = some (.slice e')) ∨ P.underlying u = some .string) →
        Done P call B w0 ι s w (builtin .append #[t, u] ty cs #[x', y']) κ r := by
      intro e zs i he hz hi hl ha hu
      have ht : P.underlying t = some (.slice e) := by
        unfold Sim.elemOf at he
        split at he
        · rename_i hq; rw [hq, Option.some.inj he]
        · cases he
      obtain ⟨i', z, hi', hzz, rfl, hone⟩ := zeros_of hz
      obtain rfl : i = i' := Option.some.inj (hi.symm.trans hi')
      obtain ⟨v, s', v', w', ι', k1, k2, k3, k4, k5⟩ := append_sound (P := P) (ty := ty) ht hu ⟨hi, hzz, by simpa using hl, hone⟩ ha h1 h2 hW
      exact .v k1 k2 k3 k4 k5
    split at h
    · rename_i e e' he hu
      split at h
      · rename_i zs i hz hi
        split at h
        · rename_i hl; exact hgo he hz hi hl h (.inl ⟨_, hu⟩)
        · cases h
      · cases h
    · rename_i e he hu
      split at h
      · rename_i zs i hz hi
        split at h
        · rename_i hl; exact hgo he hz hi hl h (.inr hu)
        · cases h
      · cases h
    · rename_i e ku he hu
      split at h
      · rename_i zs i hz hi
        split at h
        · rename_i hl
          have ht : P.underlying t = some (.slice e) := by
            unfold Sim.elemOf at he
            split at he
            · rename_i hq; rw [hq, Option.some.inj he]
            · cases he
          obtain ⟨i', z, hi', hzz, rfl, hone⟩ := zeros_of hz
          obtain rfl : i = i' := Option.some.inj (hi.symm.trans hi')
          obtain ⟨v, s', v', w', ι', k1, k2, k3, k4, k5⟩ := appendMake_sound (P := P) (ty := ty) ht hu ⟨hi, hzz, by simpa using hl, hone⟩ h h1 h2 hW
          exact .v k1 k2 k3 k4 k5
        · cases h
      · cases h
    · cases h
  · rename_i t u x y hts
    have hts' : ts = #[t, u] := by apply Array.ext'; rw [hts]
    have hl : xs'.toList.length = 2 := by rw [← hx.1]; rfl
    obtain ⟨x', y', hxs⟩ : ∃ x' y', xs' = #[x', y'] := by
      match hq : xs'.toList, hl with
      | [p, q], _ => exact ⟨p, q, by apply Array.ext'; rw [hq]⟩
    subst hxs; subst hts'
    have h1 := hx.2 0 x x' rfl rfl
    have h2 := hx.2 1 y y' rfl rfl
    split at h
    · rename_i e he
      split at h
      · rename_i n hn
        have ht : P.underlying t = some (.slice e) := by
          unfold Sim.elemOf at he
          split at he
          · rename_i hq; rw [hq, Option.some.inj he]
          · cases he
        obtain ⟨v, s', v', w', ι', k1, k2, k3, k4, k5⟩ := copy_sound (P := P) (u := u) (ty := ty) ht hn h h1 h2 hW
        exact .v k1 k2 k3 k4 k5
      · cases h
    · cases h
  · rename_i t tr x hts
    have hts0 : ts[0]? = some t := by rw [← Array.getElem?_toList, hts]; rfl
    obtain ⟨x', hx0, hv⟩ := hx.get (i := 0) rfl
    have hx0' : xs'[0]? = some x' := by rw [← Array.getElem?_toList]; exact hx0
    split at h
    · rename_i e he
      split at h
      · rename_i zs i hz hi
        split at h
        · rename_i hl
          obtain ⟨s', w', ι', k1, k2, k3, k4⟩ := clear_sound (P := P) (ty := ty) hts0 hx0' (elem_of he) hz hi hl h hv hW
          exact .v k1 k2 (VRs.tup (ys := []) (.nil _ _ _)) k3 k4
        · cases h
      · cases h
    · cases h
  · rename_i x xr
    obtain ⟨y, ys, hy⟩ : ∃ y ys, xs'.toList = y :: ys := by
      match hq : xs'.toList with
      | [] => have := hx.1; rw [hq] at this; simp at this
      | y :: ys => exact ⟨y, ys, rfl⟩
    rw [hy] at hx
    obtain ⟨v, v', k1, k2, k3⟩ := maxL_sound (P := P) h (hx.2 0 _ _ rfl rfl) (by simpa using hx.drop 1)
    refine .v0 hW k1 ?_ k3
    simp only [Builtin.max_, hy]; exact k2
  · rename_i x xr
    obtain ⟨y, ys, hy⟩ : ∃ y ys, xs'.toList = y :: ys := by
      match hq : xs'.toList with
      | [] => have := hx.1; rw [hq] at this; simp at this
      | y :: ys => exact ⟨y, ys, rfl⟩
    rw [hy] at hx
    obtain ⟨v, v', k1, k2, k3⟩ := minL_sound (P := P) h (hx.2 0 _ _ rfl rfl) (by simpa using hx.drop 1)
    refine .v0 hW k1 ?_ k3
    simp only [Builtin.min_, hy]; exact k2
  · rename_i t tr m k hts
    have hts0 : ts[0]? = some t := by rw [← Array.getElem?_toList, hts]; rfl
    obtain ⟨m', hm0, hm⟩ := hx.get (i := 0) rfl
    obtain ⟨k', hk0, hk⟩ := hx.get (i := 1) rfl
    split at h
    · rename_i kt e hu
      split at h
      · rename_i kd hkd
        obtain ⟨s', w', ι', k1, k2, k3, k4⟩ := delete_sound (P := P) (ty := ty) hts0 (by rw [← Array.getElem?_toList]; exact hm0) (by rw [← Array.getElem?_toList]; exact hk0) hu hkd h hm hk hW
        exact .v k1 k2 (VRs.tup (ys := []) (.nil _ _ _)) k3 k4
      · cases h
    · cases h
  · rename_i t tr x xr hts
    obtain ⟨x', hx0, hv⟩ := hx.get (i := 0) rfl
    have hts0 : ts[0]? = some t := by rw [← Array.getElem?_toList, hts]; rfl
    have hx0' : xs'[0]? = some x' := by rw [← Array.getElem?_toList]; exact hx0
    split at h
    · rename_i e hu
      obtain ⟨v, v', k1, k2, k3⟩ := cap_sound (P := P) (ty := ty) hts0 hx0' hu h hv
      exact .v0 hW k1 k2 k3
    · cases h
  · cases h

theorem map_lo {ρ : Operand → AV} {ρ' : Operand → Value} (hρ : ∀ x, VR ι s w (ρ x) (ρ' x)) (o : Option Operand) : (∀ x, o.map ρ = some x → ∃ x', o.map ρ' = some x' ∧ VR ι s w x x') ∧ (o.map ρ = none → o.map ρ' = none) := by
  cases o with
  | none => exact ⟨fun x hx => (by cases hx), fun _ => rfl⟩
  | some q => exact ⟨fun x hx => by obtain rfl := Option.some.inj hx; exact ⟨_, rfl, hρ q⟩, fun hx => by cases hx⟩
theorem map_args {ρ : Operand → AV} {ρ' : Operand → Value} (hρ : ∀ x, VR ι s w (ρ x) (ρ' x)) (a : Array Operand) : VRs ι s w (a.toList.map ρ) (a.map ρ').toList :=
  ⟨by simp, fun i x y hx hy => by
    rw [List.getElem?_map] at hx
    rw [Array.toList_map, List.getElem?_map] at hy
    cases h : a.toList[i]? with
    | none => rw [h] at hx; cases hx
    | some q =>
      rw [h] at hx hy
      simp only [Option.map_some, Option.some.injEq] at hx hy
      subst hx; subst hy; exact hρ q⟩

theorem aop_sound {o : Oper} {ρ : Operand → AV} {ρ' : Operand → Value} (hB : Bodied P call) (hρ : ∀ x, VR ι s w (ρ x) (ρ' x)) (h : aop P call ρ o s κ = some r) (hW : WR B w0 ι s w) : Done P call B w0 ι s w (execOp ρ' o) κ r := by
  unfold aop at h
  unfold execOp
  split at h <;> rename_i ho <;> simp only [ho]
  · exact .inl ⟨_, _, _, _, _, ι, h, rfl, .inl rfl, hρ _, hW, Later.refl _ _ _⟩
  · exact .inl ⟨_, _, _, _, _, ι, h, rfl, .inl rfl, hρ _, hW, Later.refl _ _ _⟩
  · rename_i c a b
    unfold aPick at h
    split at h
    · rename_i t hc
      have := hρ c
      rw [hc] at this
      generalize hq : ρ' c = q at this
      cases this
      refine .inl ⟨_, _, _, if t then ρ' a else ρ' b, _, ι, h, by rw [Sem.run_bind]; rfl, .inl rfl, ?_, hW, Later.refl _ _ _⟩
      cases t
      · exact hρ b
      · exact hρ a
    · cases h
  · split at h
    · rename_i zs hz; exact alloc_sound hz h hW
    · cases h
  · exact box_sound h (hρ _) hW
  · split at h
    · rename_i zs pl hz hpl
      split at h
      · rename_i ps hps
        obtain ⟨cs, c, k1, k2, k3, k4⟩ := builds_sound hz hpl hps h hρ
        exact .v0 hW k1 k2 (by simpa using k3.agg k4)
      · cases h
    · cases h
  · split at h
    · rename_i e he
      split at h
      · rename_i zs c hz hc
        split at h
        · rename_i hn
          exact buildSlice_sound (elem_of he) hz hc hn h hρ hW
        · cases h
      · cases h
    · cases h
  · obtain ⟨v, v', k1, k2, k3⟩ := load_sound (P := P) h (hρ _) hW
    exact .v0 hW k1 k2 k3
  · split at h
    · rename_i n hn
      obtain ⟨s', w', ι', k1, k2, k3, k4⟩ := store_sound (P := P) hn h (hρ _) (hρ _) hW
      exact .u k1 k2 k3 k4
    · cases h
  · rename_i x
    have hx := hρ x
    unfold aNilCheck at h
    generalize ρ' x = x' at hx
    split at h <;> first
      | (cases h; done)
      | (rename_i n t v hq
         split at h
         · rename_i hmt
           rw [hq] at hx
           have hx0 := hx
           cases hx with
           | meth hv =>
             cases hv with
             | iface hv2 =>
               refine .inl ⟨_, _, _, _, _, ι, h, ?_, .inl rfl, hx0, hW, Later.refl _ _ _⟩
               simp [meth_ahead hB.1 hmt, program, Sem.run]
         · cases h)
      | (rename_i hq; rw [hq] at hx; cases hx; exact .inl ⟨_, _, _, _, _, ι, h, rfl, .inl rfl, (by constructor <;> assumption), hW, Later.refl _ _ _⟩)
      | (rename_i hq; rw [hq] at hx; cases hx; exact .inl ⟨_, _, _, _, _, ι, h, rfl, .inl rfl, .nilsl, hW, Later.refl _ _ _⟩)
  · rename_i op t x y ty
    split at h
    · obtain ⟨v, v', k1, k2, k3⟩ := shift_sound (P := P) (t := t) (ox := x) (oy := y) h (hρ x) (hρ y); exact .v0 hW k1 k2 k3
    · obtain ⟨v, v', k1, k2, k3⟩ := shift_sound (P := P) (t := t) (ox := x) (oy := y) h (hρ x) (hρ y); exact .v0 hW k1 k2 k3
    · rename_i n1 n2
      split at h
      · obtain ⟨v, v', k1, k2, k3⟩ := bin_sound (P := P) (t := t) (ox := x) (oy := y) h ⟨n1, n2⟩ (hρ x) (hρ y); exact .v0 hW k1 k2 k3
      · obtain ⟨v, v', k1, k2, k3⟩ := bin_sound (P := P) (t := t) (ox := x) (oy := y) h ⟨n1, n2⟩ (hρ x) (hρ y); exact .v0 hW k1 k2 k3
      · rename_i e he
        split at h
        · obtain ⟨b, k1, k2, k3⟩ := eq_sound (P := P) (op := .eql) (ox := x) (oy := y) he h (hρ x) (hρ y); exact .v0 hW k1 k2 (.bool _)
        · obtain ⟨b, k1, k2, k3⟩ := eq_sound (P := P) (op := .neq) (ox := x) (oy := y) he h (hρ x) (hρ y); exact .v0 hW k1 k3 (.bool _)
        · cases h
      · cases h
  · obtain ⟨v, v', k1, k2, k3⟩ := un_sound (P := P) h (hρ _); exact .v0 hW k1 k2 k3
  · split at h
    · rename_i hs hd; obtain ⟨v, v', k1, k2, k3⟩ := conv_int_sound (P := P) hs hd h (hρ _); exact .v0 hW k1 k2 k3
    · rename_i hs hd; obtain ⟨b, k1, k2⟩ := conv_str_sound (P := P) hs hd h (hρ _); exact .v0 hW k1 k2 (.str _)
    · rename_i e hs hd
      split at h
      · rename_i he; exact bytesOf_sound hs hd he h (hρ _) hW
      · rename_i he; exact runesOf_sound hs hd he h (hρ _) hW
      · cases h
    · rename_i e hs hd
      split at h
      · rename_i he; obtain ⟨v, v', k1, k2, k3⟩ := strOf_sound (P := P) hs he hd h (hρ _) hW; exact .v0 hW k1 k2 k3
      · cases h
    · rename_i e1 e hs hd
      split at h
      · rename_i he
        split at h
        · rename_i hsd; subst hsd; exact convSl_sound hd he h (hρ _) hW
        · cases h
      · cases h
    · cases h
  · split at h
    · cases h
    · rename_i d hu hn
      refine .v0 hW h (v' := .iface _ (ρ' _)) ?_ (.iface (hρ _))
      cases d <;> first | (exact (hu _ rfl).elim) | (simp [Instr.makeInterface, run_underlying hn]; done)
    · cases h
  · rename_i f first cap
    refine .v0 hW h rfl ?_
    have e1 := map_args hρ first
    have e2 := map_args hρ cap
    exact .func (by simp) (fun i x y hx hy => e1.2 i x y hx (by rw [Array.getElem?_toList]; exact hy)) (by simp) (fun i x y hx hy => e2.2 i x y hx (by rw [Array.getElem?_toList]; exact hy))
  · rename_i n first cap
    split at h
    · rename_i x hx
      have e1 := map_args hρ first
      rw [hx] at e1
      obtain ⟨y, hy⟩ : ∃ y, first.map ρ' = #[y] := by
        have hl := e1.1
        match hq : (first.map ρ').toList, hl with
        | [p], _ => exact ⟨p, by apply Array.ext'; rw [hq]⟩
      refine .v0 hW h rfl ?_
      rw [hy] at e1 ⊢
      exact .meth (e1.2 0 _ _ rfl rfl)
    · cases h
  · exact makeMap_sound h hW
  · split at h
    · rename_i e he
      split at h
      · rename_i zs i hz hi
        split at h
        · rename_i hl
          exact makeSlice_sound (elem_of he) hz hi hl h (hρ _) (hρ _) hW
        · cases h
      · cases h
    · cases h
  · rename_i t x lo hi
    obtain ⟨l1, l2⟩ := map_lo hρ lo
    obtain ⟨g1, g2⟩ := map_lo hρ hi
    split at h
    · rename_i hu; obtain ⟨v, v', k1, k2, k3⟩ := cutStr_sound (P := P) hu h (hρ _) l1 l2 g1 g2; exact .v0 hW k1 k2 k3
    · rename_i e hu
      split at h
      · rename_i c hc; obtain ⟨v, v', k1, k2, k3⟩ := cutSl_sound (P := P) hu hc h (hρ _) l1 l2 g1 g2; exact .v0 hW k1 k2 k3
      · cases h
    · rename_i n e hu
      split at h
      · rename_i c hc; obtain ⟨v, v', k1, k2, k3⟩ := cutArr_sound (P := P) hu hc h (hρ _) hW l1 l2 g1 g2; exact .v0 hW k1 k2 k3
      · cases h
    · cases h
  · rename_i t x lo hi mx
    obtain ⟨l1, l2⟩ := map_lo hρ lo
    obtain ⟨g1, g2⟩ := map_lo hρ hi
    split at h
    · rename_i e hu
      split at h
      · rename_i c hc; obtain ⟨v, v', k1, k2, k3⟩ := cutCap_sound (P := P) hu hc h (hρ _) (hρ _) l1 l2 g1 g2; exact .v0 hW k1 k2 k3
      · cases h
    · cases h
  · split at h
    · rename_i fs hu
      split at h
      · rename_i f hf
        split at h
        · rename_i n hn
          split at h
          · rename_i h0; obtain ⟨v, v', k1, k2, k3⟩ := fieldAddr_sound (P := P) hu hf hn h0 h (hρ _); exact .v0 hW k1 k2 k3
          · cases h
        · cases h
      · cases h
    · cases h
  · split at h
    · rename_i fs hu
      split at h
      · rename_i f hf
        obtain ⟨v, v', k1, k2, k3⟩ := field_sound (P := P) hu hf h (hρ _); exact .v0 hW k1 k2 k3
      · cases h
    · cases h
  · split at h
    · rename_i e hu
      split at h
      · rename_i c hc; obtain ⟨v, v', k1, k2, k3⟩ := indexSl_sound (P := P) hu hc h (hρ _) (hρ _); exact .v0 hW k1 k2 k3
      · cases h
    · rename_i n e hu
      split at h
      · rename_i c hc; obtain ⟨v, v', k1, k2, k3⟩ := indexArr_sound (P := P) hu hc h (hρ _) (hρ _); exact .v0 hW k1 k2 k3
      · cases h
    · cases h
  · split at h
    · rename_i hu; obtain ⟨v, v', k1, k2, k3⟩ := indexStr_sound (P := P) hu h (hρ _) (hρ _); exact .v0 hW k1 k2 k3
    · rename_i n e hu
      split at h
      · rename_i b c hb hc; obtain ⟨v, v', k1, k2, k3⟩ := indexAgg_sound (P := P) hu hb hc h (hρ _) (hρ _); exact .v0 hW k1 k2 k3
      · cases h
    · cases h
  · split at h
    · rename_i kt e hu
      split at h
      · rename_i z hz
        split at h
        · rename_i kd hkd; obtain ⟨v, v', k1, k2, k3⟩ := lookup_sound (P := P) hu hkd hz h (hρ _) (hρ _) hW; exact .v0 hW k1 k2 k3
        · cases h
      · cases h
    · cases h
  · split at h
    · rename_i kt e hu
      split at h
      · rename_i kd hkd; obtain ⟨s', w', ι', k1, k2, k3, k4⟩ := mapUpdate_sound (P := P) hu hkd h (hρ _) (hρ _) (hρ _) hW; exact .u k1 k2 k3 k4
      · cases h
    · cases h
  · obtain ⟨v, v', k1, k2, k3⟩ := extract_sound (P := P) h (hρ _); exact .v0 hW k1 k2 k3
  · rename_i c
    have ha := map_args hρ c.args
    split at h
    · rename_i f hf
      simp only [resolve, hf]
      exact call_sound hB h (hρ f) ha
    · rename_i b hb
      simp only [resolve, hb]
      have := builtin_sound (call := call) (ty := o.type) (cs := c.args.map fun | .const _ => true | _ => false) h ha hW
      exact this
    · rename_i x name hx
      simp only [resolve, hx]
      have := invoke_sound (w0 := w0) (B := B) hB h (hρ x) ha
      have e0 : ((#[ρ' x] ++ c.args.map ρ' : Array Value))[0]? = some (ρ' x) := by rw [Array.getElem?_append_left (by simp)]; rfl
      have e1 : (#[ρ' x] ++ c.args.map ρ').extract 1 (#[ρ' x] ++ c.args.map ρ').size = c.args.map ρ' := by simp
      have e2 : invoke (.fn (.method name) #[]) (#[ρ' x] ++ c.args.map ρ') = callMethod (ρ' x) name (c.args.map ρ') := by
        unfold invoke
        simp only [e0, e1]
      rw [← e2] at this
      exact this
  · split at h
    · rename_i kt e hu
      split at h
      · rename_i z hz
        split at h
        · rename_i kd hkd; exact mapEntry_sound hu hz hkd h (hρ _) (hρ _) hW
        · cases h
      · cases h
    · cases h
  · obtain ⟨s', w', ι', k1, k2, k3, k4⟩ := entryStore_sound (P := P) h (hρ _) (hρ _) (hρ _) hW; exact .u k1 k2 k3 k4
  · split at h
    · rename_i hu; exact rangeStr_sound hu h (hρ _) hW
    · rename_i hu; exact rangeMap_sound hu h (hρ _) hW
    · cases h
  · split at h
    · rename_i hs; subst hs; exact nextStr_sound h (hρ _) hW
    · rename_i hs
      simp only [Bool.not_eq_true] at hs
      subst hs
      exact nextMap_sound h (hρ _) hW
  · obtain ⟨v, v', k1, k2, k3⟩ := entry_sound (P := P) h (hρ _) hW; exact .v0 hW k1 k2 k3
  · obtain ⟨v, v', k1, k2, k3⟩ := assert_sound (P := P) h (hρ _); exact .v0 hW k1 k2 k3
  · cases h
end
end Go.Proofs.YtjbgdpfkmcibbaaGreatDoor.Sim
