/- Seat 06: the machine, with the document's example worked out beforehand. No condition. -/
import Derived.Test.YtkfdgegmahbkiaaProg
import Derived.Test.YtkfdgegmahbkiaaSimU
import Derived.KernelRfl
namespace Go.Proofs.Ytkfdgegmahbkiaa.Sim
open Go.RowKit (Below)
noncomputable def orc : CallA := awO Try.prog Store.empty 60 7
noncomputable def rn : Nat → CallA := runO Try.prog orc
theorem rn_eq {f : Nat} {fn : Func} (hf : Try.prog.funcs[f]? = some fn) (hb : fn.body = some (bodyOf fn)) (hn : (fn.name == "runtime.NumGoroutine") = false) {args : List AV} (ha : decide (args.length ≤ fn.ntmps) = true) (k : Nat) (s : Store) (hO : orc f args s = none) :
    rn (k + 1) f args s = exec Try.prog (rn k) k fn.ntmps (bodyOf fn) (topK Try.prog fn.results.toList) (frOf args) s := runO_eq hf hb hn ha k s hO
theorem orc_ok (w0 : World) : OrOk Try.prog w0.heap.size w0 orc := awO_ok fun w _ => ⟨_, WR.start w⟩
theorem awake_fst : (run Try.prog 60 7 [] Store.empty).map (·.1) = some (.bool true) := by kernel_rfl
theorem awake_rn (k : Nat) (s : Store) : rn (k + 1) 7 [] s = some (.bool true, s) := by
  obtain ⟨⟨v, s'⟩, h1, h2⟩ := Option.map_eq_some_iff.1 awake_fst
  simp only at h2
  subst h2
  refine runO_or ?_ k
  unfold orc awO
  rw [if_pos rfl]
  simp only [h1]
end Go.Proofs.Ytkfdgegmahbkiaa.Sim
