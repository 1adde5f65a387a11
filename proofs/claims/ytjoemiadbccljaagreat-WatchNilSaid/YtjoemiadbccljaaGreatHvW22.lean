/- A waking run in pieces. -/
import Derived.Test.YtjoemiadbccljaaGreatHvWK
import Derived.Test.YtjoemiadbccljaaGreatHvM22
set_option maxRecDepth 100000
namespace Go.Hv.Tryz
open Go Go.Hv Go.RowKit Go.Proofs

theorem m22_0 [Env] : okMemo (funcA (tabOf tree PS) 2000 69 E22_0.args E22_0.was) E22_0.v E22_0.now = true := by kernel_rfl
theorem m22_1 [Env] : okMemo (funcA (tabOf tree PS) 2000 69 E22_1.args E22_1.was) E22_1.v E22_1.now = true := by kernel_rfl
theorem m22_2 [Env] : okMemo (funcA (tabOf tree PS) 2000 69 E22_2.args E22_2.was) E22_2.v E22_2.now = true := by kernel_rfl
theorem m22_3 [Env] : okMemo (funcA (tabOf tree PS) 2000 69 E22_3.args E22_3.was) E22_3.v E22_3.now = true := by kernel_rfl
theorem m22_4 [Env] : okMemo (funcA (tabOf tree PS) 2000 69 E22_4.args E22_4.was) E22_4.v E22_4.now = true := by kernel_rfl
theorem m22_5 [Env] : okMemo (funcA (tabOf tree PS) 2000 69 E22_5.args E22_5.was) E22_5.v E22_5.now = true := by kernel_rfl
theorem ms22_69 [Env] : Memos (tabOf tree PS) 2000 69 ES22_69 := ⟨okMemo_eq m22_0, okMemo_eq m22_1, okMemo_eq m22_2, okMemo_eq m22_3, okMemo_eq m22_4, okMemo_eq m22_5, trivial⟩
theorem mt22 [Env] : MemoTab (tabOf tree PS) 2000 MS22 := ⟨memoPrim_ok ms22_69, trivial⟩
theorem wakes22m [Env] : okRun (funcA (tabOf tree (MS22 ++ PS)) 2000 22 [] h0) = true := by kernel_rfl
theorem wakes22 [Env] : okRun (funcA (tabOf tree PS) 4001 22 [] h0) = true := okRun_le (fun _ h => memo_run mt22 h) wakes22m
theorem woken22 [Env] : CallOk Tryz.prog 22 primTrue := prim_of_run (func_ok mixed tab0_ok 4001 22) wakes22

end Go.Hv.Tryz
