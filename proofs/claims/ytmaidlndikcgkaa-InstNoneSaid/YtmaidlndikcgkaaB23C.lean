/- Layer 23: new orders; the next id; what is delivered. No condition. -/
import Derived.Test.YtmaidlndikcgkaaB23B
namespace Go.Proofs.Ytmaidlndikcgkaa.Sim
set_option linter.unusedSimpArgs false
set_option linter.unusedVariables false

theorem mk_u64 {n : Nat} (h : n ≤ 1000000) (t : Store) {α : Type} (f : AV → Store → Option α) : aMakeSlice [AV.int .u64 0] 1 8 (.int .i64 (n : Int)) (.int .i64 (n : Int)) t f = f (.sl t.next 0 n 1 n) (t.push (.cells ((List.replicate n (0 : Int)).map (.int .u64)) false)) := by
  simp only [aMakeSlice]
  rw [if_pos ⟨by omega, by omega, by omega, by omega⟩, Int.toNat_natCast, Nat.mul_one]
  congr 3
  simp [List.map_replicate]

def newTags (a : Nat) : Nat → Nat := fun l => if l = a + 8 then 1 else if l = a + 1 then 2 else if l = a + 3 then 3 else if l = a + 4 then 6 else 0
end Go.Proofs.Ytmaidlndikcgkaa.Sim
