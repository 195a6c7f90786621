/- The abstract machine: a law's arguments one by one, for its row. No condition. -/
import Derived.Test.YtjbgdpfkmcibbaaGreatDoorSimP
namespace Go.Proofs.YtjbgdpfkmcibbaaGreatDoor.Sim
open Go.ChangeShapes Go.WideShapes Go.RowKit Go.Deep

section
variable {P : Program} {W : World} {r : Reach} {b0 : Nat} {t : TypeId} {v : Value}
theorem one_int {k : IntKind} (ht : P.underlying t = some (.int k)) (h : Value.okWide P W r b0 t v) : v.cells = #[v] := by obtain ⟨n, rfl⟩ := okWide_int ht h; rfl
theorem one_bool (ht : P.underlying t = some .bool) (h : Value.okWide P W r b0 t v) : v.cells = #[v] := by obtain ⟨n, rfl⟩ := okWide_bool ht h; rfl
theorem one_string (ht : P.underlying t = some .string) (h : Value.okWide P W r b0 t v) : v.cells = #[v] := by obtain ⟨n, rfl⟩ := okWide_string ht h; rfl
theorem one_slice {e : TypeId} (ht : P.underlying t = some (.slice e)) (h : Value.okWide P W r b0 t v) : v.cells = #[v] := by obtain ⟨a, n, c, rfl⟩ := okWide_slice ht h; rfl

/-- A struct, as one argument. -/
def Sh.agg {α : Type} (S : Sh α) : Sh α := ⟨1, fun a s => ([.agg (S.put a s).1], (S.put a s).2), S.wf⟩

/-- What an argument's shape must do for a row. -/
def ArgOk {α : Type} (S : Sh α) (W : World) (v : Value) : Prop := ∃ a, S.wf a ∧ ∀ {B : Nat} {w0 : World} {ι : Nat → Loc} {s : Store} {xs : List AV} {ys : List Value}, s.plain → WR B w0 ι s W → VRs ι s W xs ys → ∃ ι', WR B w0 ι' (S.put a s).2 W ∧ (S.put a s).2.plain ∧ VRs ι' (S.put a s).2 W (xs ++ (S.put a s).1) (ys ++ [v])

variable {H : Type} {enc : TypeId × Value → H} {dat : DataW H} {ps : List MemPlace}
theorem ArgOk.one {α : Type} {S : Sh α} (ho : ShOk P t S) (hv : v.cells = #[v]) (h : DataW.Trod enc P W 0 (fun _ => true) true t v dat ps) : ArgOk S W v := arg_one ho hv h

theorem ArgOk.struct {α : Type} {S : Sh α} {fs : Array Field} (ht : P.underlying t = some (.struct fs)) (ho : ShOk P t S) (hv : Value.okWide P W r b0 t v) (h : DataW.Trod enc P W 0 (fun _ => true) true t v dat ps) : ArgOk S.agg W v := by
  obtain ⟨cs, rfl, _⟩ := okWide_struct ht hv
  obtain ⟨fuel, hf⟩ := h
  have hf' : DataW.trod enc P W 0 (fun _ => true) true fuel t cs.toList = some (dat, ps) := hf
  obtain ⟨a, h1, h2⟩ := ho.go hf'
  refine ⟨a, h1, fun {B w0 ι s xs ys} hp hW hV => ?_⟩
  obtain ⟨ι', k1, k2, k3, k4, k5⟩ := h2 hp hW
  refine ⟨ι', k1, k2, (hV.later k3).append ?_⟩
  refine .cons (.agg (by simpa using k4.1) (fun i x y hx hy => k4.2 i x y hx (by simpa using hy)) k5) (.nil _ _ _)
end
end Go.Proofs.YtjbgdpfkmcibbaaGreatDoor.Sim
