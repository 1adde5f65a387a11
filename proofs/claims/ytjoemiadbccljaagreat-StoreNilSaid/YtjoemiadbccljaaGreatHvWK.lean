/- The waking runs of the seat's laws: true, by the evaluator. -/
import Derived.Test.YtjoemiadbccljaaGreatHvK3
import Derived.Test.YtjoemiadbccljaaGreatHvLY
set_option maxRecDepth 100000
namespace Go.Hv.Tryz
open Go Go.Hv Go.RowKit Go.Proofs

/-- The primitives: what is gathered from an empty map; a Builder's check, its text. -/
def PS : List (Nat × Prim) := [(286, seqNone 224), (260, ccPrim 253), (169, strPrim 253 5)]

theorem ps_ok [Env] : PrimOk Tryz.prog PS :=
  ⟨⟨seqNone_ok callable286 gathers, seqNone_local 224⟩, ⟨ccPrim_ok callable260 checks, ccPrim_local 253⟩, ⟨strPrim_ok callable169 texts, strPrim_local 253 5⟩, trivial⟩

theorem tab0_ok [Env] : TabOk Tryz.prog (tabOf tree PS) := tabOk_of tree_ok ps_ok

theorem wakes7 [Env] : okRun (funcA (tabOf tree PS) 2000 7 [] h0) = true := by kernel_rfl
theorem woken7 [Env] : CallOk Tryz.prog 7 primTrue := prim_of_run (func_ok mixed tab0_ok 2000 7) wakes7

theorem wakes40 [Env] : okRun (funcA (tabOf tree PS) 2000 40 [] h0) = true := by kernel_rfl
theorem woken40 [Env] : CallOk Tryz.prog 40 primTrue := prim_of_run (func_ok mixed tab0_ok 2000 40) wakes40

end Go.Hv.Tryz
