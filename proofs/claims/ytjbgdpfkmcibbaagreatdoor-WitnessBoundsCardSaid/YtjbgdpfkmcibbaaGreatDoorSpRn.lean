/- Seat 29: the machine, with the document's example worked out beforehand. No condition. -/
import Derived.Test.YtjbgdpfkmcibbaaGreatDoorProg
import Derived.Test.YtjbgdpfkmcibbaaGreatDoorSimU
import Derived.Test.YtjbgdpfkmcibbaaGreatDoorSpTab
import Derived.KernelRfl
namespace Go.Proofs.YtjbgdpfkmcibbaaGreatDoor.Sim
set_option linter.unusedVariables false
open Go.RowKit (Below)
noncomputable def orc : CallA := awO Tryz.prog (Store.table .u8 tab) 1000 7
noncomputable def rn : Nat → CallA := runO Tryz.prog orc
theorem rn_eq {f : Nat} {fn : Func} (hf : Tryz.prog.funcs[f]? = some fn) (hb : fn.body = some (bodyOf fn)) (hn : (fn.name == "runtime.NumGoroutine") = false) {args : List AV} (ha : decide (args.length ≤ fn.ntmps) = true) (k : Nat) (s : Store) (hO : orc f args s = none) :
    rn (k + 1) f args s = exec Tryz.prog (rn k) k fn.ntmps (bodyOf fn) (topK Tryz.prog fn.results.toList) (frOf args) s := runO_eq hf hb hn ha k s hO
theorem orc_ok (w0 : World) {c : Array Value} {ty : TypeId} {fz : Nat × Nat} (hh : w0.heap[0]? = some (.cells c ty fz)) (hc : c.toList = tab.map (Value.int .u8)) : OrOk Tryz.prog w0.heap.size w0 orc :=
  awO_ok fun w b => ⟨_, WR.table ((b.block 0 (heap_lt hh)).trans hh) hc (fun _ => rfl)⟩
theorem awake_fst : (run Tryz.prog 1000 7 [] (Store.table .u8 tab)).map (·.1) = some (.bool true) := by kernel_rfl
theorem awake_rn (k : Nat) (s : Store) : rn (k + 1) 7 [] s = some (.bool true, s) := by
  obtain ⟨⟨v, s'⟩, h1, h2⟩ := Option.map_eq_some_iff.1 awake_fst
  simp only at h2
  subst h2
  refine runO_or ?_ k
  unfold orc awO
  rw [if_pos rfl]
  simp only [h1]
end Go.Proofs.YtjbgdpfkmcibbaaGreatDoor.Sim
