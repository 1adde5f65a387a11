/- StoreNil: the law's runs, where the size of a page can not be. -/
import Derived.Test.YtjoemiadbccljaaGreatHvR24a
set_option maxRecDepth 100000
namespace Go.Proofs.YtjoemiadbccljaaGreat
open Go Go.Hv Go.Hv.Tryz Go.RowKit

section
variable (b f s k p n x0 x1 x2 x3 : Int) (y1 y2 : ByteArray) (m : Int) (a : Option Addr) (len cap : Nat)

theorem runLowf (b1 f0 f1 s0 s1 p0 p1 n0 n1 k1 may : Bool) (hf : ∀ x ∈ bitFacts false b1 ++ restFacts f0 f1 s0 s1 p0 p1 n0 n1 false k1, x.Holds (valsOf (vals24 b f s k p n x0 x1 x2 x3 y1 y2 m a len cap))) :
    okRun (@funcA (factEnv (vals24 b f s k p n x0 x1 x2 x3 y1 y2 m a len cap) rfl (bitFacts false b1 ++ restFacts f0 f1 s0 s1 p0 p1 n0 n1 false k1) hf) (tabOf tree (ps24 may)) 300 3 [.agg [.tok 0, .tok 1, .tok 2, .tok 3, .tok 4, .tok 5], .agg [.tok 6, .tok 7, .tok 8, .tok 9, .tok 10, .tok 11, .tok 12, .tok 13]] h0) = true := by kernel_rfl
theorem runLowt (b1 f0 f1 s0 s1 p0 p1 n0 n1 k1 may : Bool) (hf : ∀ x ∈ bitFacts false b1 ++ restFacts f0 f1 s0 s1 p0 p1 n0 n1 true k1, x.Holds (valsOf (vals24 b f s k p n x0 x1 x2 x3 y1 y2 m a len cap))) :
    okRun (@funcA (factEnv (vals24 b f s k p n x0 x1 x2 x3 y1 y2 m a len cap) rfl (bitFacts false b1 ++ restFacts f0 f1 s0 s1 p0 p1 n0 n1 true k1) hf) (tabOf tree (ps24 may)) 300 3 [.agg [.tok 0, .tok 1, .tok 2, .tok 3, .tok 4, .tok 5], .agg [.tok 6, .tok 7, .tok 8, .tok 9, .tok 10, .tok 11, .tok 12, .tok 13]] h0) = true := by kernel_rfl
theorem runLow (b1 f0 f1 s0 s1 p0 p1 n0 n1 k0 k1 may : Bool) (hf : ∀ x ∈ bitFacts false b1 ++ restFacts f0 f1 s0 s1 p0 p1 n0 n1 k0 k1, x.Holds (valsOf (vals24 b f s k p n x0 x1 x2 x3 y1 y2 m a len cap))) :
    okRun (@funcA (factEnv (vals24 b f s k p n x0 x1 x2 x3 y1 y2 m a len cap) rfl (bitFacts false b1 ++ restFacts f0 f1 s0 s1 p0 p1 n0 n1 k0 k1) hf) (tabOf tree (ps24 may)) 300 3 [.agg [.tok 0, .tok 1, .tok 2, .tok 3, .tok 4, .tok 5], .agg [.tok 6, .tok 7, .tok 8, .tok 9, .tok 10, .tok 11, .tok 12, .tok 13]] h0) = true := by
  cases k0
  · exact runLowf b f s k p n x0 x1 x2 x3 y1 y2 m a len cap b1 f0 f1 s0 s1 p0 p1 n0 n1 k1 may hf
  · exact runLowt b f s k p n x0 x1 x2 x3 y1 y2 m a len cap b1 f0 f1 s0 s1 p0 p1 n0 n1 k1 may hf
theorem runHighf (f0 f1 s0 s1 p0 p1 n0 n1 k1 may : Bool) (hf : ∀ x ∈ bitFacts true false ++ restFacts f0 f1 s0 s1 p0 p1 n0 n1 false k1, x.Holds (valsOf (vals24 b f s k p n x0 x1 x2 x3 y1 y2 m a len cap))) :
    okRun (@funcA (factEnv (vals24 b f s k p n x0 x1 x2 x3 y1 y2 m a len cap) rfl (bitFacts true false ++ restFacts f0 f1 s0 s1 p0 p1 n0 n1 false k1) hf) (tabOf tree (ps24 may)) 300 3 [.agg [.tok 0, .tok 1, .tok 2, .tok 3, .tok 4, .tok 5], .agg [.tok 6, .tok 7, .tok 8, .tok 9, .tok 10, .tok 11, .tok 12, .tok 13]] h0) = true := by kernel_rfl
theorem runHight (f0 f1 s0 s1 p0 p1 n0 n1 k1 may : Bool) (hf : ∀ x ∈ bitFacts true false ++ restFacts f0 f1 s0 s1 p0 p1 n0 n1 true k1, x.Holds (valsOf (vals24 b f s k p n x0 x1 x2 x3 y1 y2 m a len cap))) :
    okRun (@funcA (factEnv (vals24 b f s k p n x0 x1 x2 x3 y1 y2 m a len cap) rfl (bitFacts true false ++ restFacts f0 f1 s0 s1 p0 p1 n0 n1 true k1) hf) (tabOf tree (ps24 may)) 300 3 [.agg [.tok 0, .tok 1, .tok 2, .tok 3, .tok 4, .tok 5], .agg [.tok 6, .tok 7, .tok 8, .tok 9, .tok 10, .tok 11, .tok 12, .tok 13]] h0) = true := by kernel_rfl
theorem runHigh (f0 f1 s0 s1 p0 p1 n0 n1 k0 k1 may : Bool) (hf : ∀ x ∈ bitFacts true false ++ restFacts f0 f1 s0 s1 p0 p1 n0 n1 k0 k1, x.Holds (valsOf (vals24 b f s k p n x0 x1 x2 x3 y1 y2 m a len cap))) :
    okRun (@funcA (factEnv (vals24 b f s k p n x0 x1 x2 x3 y1 y2 m a len cap) rfl (bitFacts true false ++ restFacts f0 f1 s0 s1 p0 p1 n0 n1 k0 k1) hf) (tabOf tree (ps24 may)) 300 3 [.agg [.tok 0, .tok 1, .tok 2, .tok 3, .tok 4, .tok 5], .agg [.tok 6, .tok 7, .tok 8, .tok 9, .tok 10, .tok 11, .tok 12, .tok 13]] h0) = true := by
  cases k0
  · exact runHighf b f s k p n x0 x1 x2 x3 y1 y2 m a len cap f0 f1 s0 s1 p0 p1 n0 n1 k1 may hf
  · exact runHight b f s k p n x0 x1 x2 x3 y1 y2 m a len cap f0 f1 s0 s1 p0 p1 n0 n1 k1 may hf
end
end Go.Proofs.YtjoemiadbccljaaGreat
