/- A waking run in pieces. -/
import Derived.Test.YtjoemiadbccljaaGreatHvWK
import Derived.Test.YtjoemiadbccljaaGreatHvM32
set_option maxRecDepth 100000
namespace Go.Hv.Tryz
open Go Go.Hv Go.RowKit Go.Proofs

theorem m32_0 [Env] : okMemo (funcA (tabOf tree PS) 2000 8 E32_0.args E32_0.was) E32_0.v E32_0.now = true := by kernel_rfl
theorem m32_1 [Env] : okMemo (funcA (tabOf tree PS) 2000 8 E32_1.args E32_1.was) E32_1.v E32_1.now = true := by kernel_rfl
theorem m32_2 [Env] : okMemo (funcA (tabOf tree PS) 2000 8 E32_2.args E32_2.was) E32_2.v E32_2.now = true := by kernel_rfl
theorem m32_3 [Env] : okMemo (funcA (tabOf tree PS) 2000 8 E32_3.args E32_3.was) E32_3.v E32_3.now = true := by kernel_rfl
theorem m32_4 [Env] : okMemo (funcA (tabOf tree PS) 2000 8 E32_4.args E32_4.was) E32_4.v E32_4.now = true := by kernel_rfl
theorem m32_5 [Env] : okMemo (funcA (tabOf tree PS) 2000 8 E32_5.args E32_5.was) E32_5.v E32_5.now = true := by kernel_rfl
theorem m32_6 [Env] : okMemo (funcA (tabOf tree PS) 2000 8 E32_6.args E32_6.was) E32_6.v E32_6.now = true := by kernel_rfl
theorem m32_7 [Env] : okMemo (funcA (tabOf tree PS) 2000 8 E32_7.args E32_7.was) E32_7.v E32_7.now = true := by kernel_rfl
theorem m32_8 [Env] : okMemo (funcA (tabOf tree PS) 2000 8 E32_8.args E32_8.was) E32_8.v E32_8.now = true := by kernel_rfl
theorem m32_9 [Env] : okMemo (funcA (tabOf tree PS) 2000 8 E32_9.args E32_9.was) E32_9.v E32_9.now = true := by kernel_rfl
theorem m32_10 [Env] : okMemo (funcA (tabOf tree PS) 2000 36 E32_10.args E32_10.was) E32_10.v E32_10.now = true := by kernel_rfl
theorem ms32_8 [Env] : Memos (tabOf tree PS) 2000 8 ES32_8 := ⟨okMemo_eq m32_0, okMemo_eq m32_1, okMemo_eq m32_2, okMemo_eq m32_3, okMemo_eq m32_4, okMemo_eq m32_5, okMemo_eq m32_6, okMemo_eq m32_7, okMemo_eq m32_8, okMemo_eq m32_9, trivial⟩
theorem ms32_36 [Env] : Memos (tabOf tree PS) 2000 36 ES32_36 := ⟨okMemo_eq m32_10, trivial⟩
theorem mt32 [Env] : MemoTab (tabOf tree PS) 2000 MS32 := ⟨memoPrim_ok ms32_8, memoPrim_ok ms32_36, trivial⟩
theorem wakes32m [Env] : okRun (funcA (tabOf tree (MS32 ++ PS)) 2000 32 [] h0) = true := by kernel_rfl
theorem wakes32 [Env] : okRun (funcA (tabOf tree PS) 4001 32 [] h0) = true := okRun_le (fun _ h => memo_run mt32 h) wakes32m
theorem woken32 [Env] : CallOk Tryz.prog 32 primTrue := prim_of_run (func_ok mixed tab0_ok 4001 32) wakes32

end Go.Hv.Tryz
