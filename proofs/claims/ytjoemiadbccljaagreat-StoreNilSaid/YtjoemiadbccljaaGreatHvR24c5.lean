/- StoreNil: the law's runs, where a page has 2^5 words. -/
import Derived.Test.YtjoemiadbccljaaGreatHvR24a
set_option maxRecDepth 100000
namespace Go.Proofs.YtjoemiadbccljaaGreat
open Go Go.Hv Go.Hv.Tryz Go.RowKit

section
variable (b f s k p n x0 x1 x2 x3 : Int) (y1 y2 : ByteArray) (m : Int) (a : Option Addr) (len cap : Nat)

theorem run5_0f (f1 s0 s1 p0 p1 n0 n1 k1 may : Bool) (hf : ∀ x ∈ restFacts false f1 s0 s1 p0 p1 n0 n1 false k1, x.Holds (valsOf (vals24 b f s k p n x0 x1 x2 x3 y1 y2 m a len cap))) :
    okRun (@funcA (factEnv (vals24 b f s k p n x0 x1 x2 x3 y1 y2 m a len cap) rfl (restFacts false f1 s0 s1 p0 p1 n0 n1 false k1) hf) (tabOf tree (ps24 may)) 300 3 [.agg [.int .i64 5, .tok 1, .tok 2, .tok 3, .tok 4, .tok 5], .agg [.tok 6, .tok 7, .tok 8, .tok 9, .tok 10, .tok 11, .tok 12, .tok 13]] h0) = true := by kernel_rfl
theorem run5_0t (f1 s0 s1 p0 p1 n0 n1 k1 may : Bool) (hf : ∀ x ∈ restFacts false f1 s0 s1 p0 p1 n0 n1 true k1, x.Holds (valsOf (vals24 b f s k p n x0 x1 x2 x3 y1 y2 m a len cap))) :
    okRun (@funcA (factEnv (vals24 b f s k p n x0 x1 x2 x3 y1 y2 m a len cap) rfl (restFacts false f1 s0 s1 p0 p1 n0 n1 true k1) hf) (tabOf tree (ps24 may)) 300 3 [.agg [.int .i64 5, .tok 1, .tok 2, .tok 3, .tok 4, .tok 5], .agg [.tok 6, .tok 7, .tok 8, .tok 9, .tok 10, .tok 11, .tok 12, .tok 13]] h0) = true := by kernel_rfl
theorem run5_1f (s0 s1 p0 p1 n0 n1 k1 may : Bool) (hf : ∀ x ∈ restFacts true false s0 s1 p0 p1 n0 n1 false k1, x.Holds (valsOf (vals24 b f s k p n x0 x1 x2 x3 y1 y2 m a len cap))) :
    okRun (@funcA (factEnv (vals24 b f s k p n x0 x1 x2 x3 y1 y2 m a len cap) rfl (restFacts true false s0 s1 p0 p1 n0 n1 false k1) hf) (tabOf tree (ps24 may)) 300 3 [.agg [.int .i64 5, .tok 1, .tok 2, .tok 3, .tok 4, .tok 5], .agg [.tok 6, .tok 7, .tok 8, .tok 9, .tok 10, .tok 11, .tok 12, .tok 13]] h0) = true := by kernel_rfl
theorem run5_1t (s0 s1 p0 p1 n0 n1 k1 may : Bool) (hf : ∀ x ∈ restFacts true false s0 s1 p0 p1 n0 n1 true k1, x.Holds (valsOf (vals24 b f s k p n x0 x1 x2 x3 y1 y2 m a len cap))) :
    okRun (@funcA (factEnv (vals24 b f s k p n x0 x1 x2 x3 y1 y2 m a len cap) rfl (restFacts true false s0 s1 p0 p1 n0 n1 true k1) hf) (tabOf tree (ps24 may)) 300 3 [.agg [.int .i64 5, .tok 1, .tok 2, .tok 3, .tok 4, .tok 5], .agg [.tok 6, .tok 7, .tok 8, .tok 9, .tok 10, .tok 11, .tok 12, .tok 13]] h0) = true := by kernel_rfl
theorem run5_2f (s1 p0 p1 n0 n1 k1 may : Bool) (hf : ∀ x ∈ restFacts true true false s1 p0 p1 n0 n1 false k1, x.Holds (valsOf (vals24 b f s k p n x0 x1 x2 x3 y1 y2 m a len cap))) :
    okRun (@funcA (factEnv (vals24 b f s k p n x0 x1 x2 x3 y1 y2 m a len cap) rfl (restFacts true true false s1 p0 p1 n0 n1 false k1) hf) (tabOf tree (ps24 may)) 300 3 [.agg [.int .i64 5, .tok 1, .tok 2, .tok 3, .tok 4, .tok 5], .agg [.tok 6, .tok 7, .tok 8, .tok 9, .tok 10, .tok 11, .tok 12, .tok 13]] h0) = true := by kernel_rfl
theorem run5_2t (s1 p0 p1 n0 n1 k1 may : Bool) (hf : ∀ x ∈ restFacts true true false s1 p0 p1 n0 n1 true k1, x.Holds (valsOf (vals24 b f s k p n x0 x1 x2 x3 y1 y2 m a len cap))) :
    okRun (@funcA (factEnv (vals24 b f s k p n x0 x1 x2 x3 y1 y2 m a len cap) rfl (restFacts true true false s1 p0 p1 n0 n1 true k1) hf) (tabOf tree (ps24 may)) 300 3 [.agg [.int .i64 5, .tok 1, .tok 2, .tok 3, .tok 4, .tok 5], .agg [.tok 6, .tok 7, .tok 8, .tok 9, .tok 10, .tok 11, .tok 12, .tok 13]] h0) = true := by kernel_rfl
theorem run5_3f (p0 p1 n0 n1 k1 may : Bool) (hf : ∀ x ∈ restFacts true true true false p0 p1 n0 n1 false k1, x.Holds (valsOf (vals24 b f s k p n x0 x1 x2 x3 y1 y2 m a len cap))) :
    okRun (@funcA (factEnv (vals24 b f s k p n x0 x1 x2 x3 y1 y2 m a len cap) rfl (restFacts true true true false p0 p1 n0 n1 false k1) hf) (tabOf tree (ps24 may)) 300 3 [.agg [.int .i64 5, .tok 1, .tok 2, .tok 3, .tok 4, .tok 5], .agg [.tok 6, .tok 7, .tok 8, .tok 9, .tok 10, .tok 11, .tok 12, .tok 13]] h0) = true := by kernel_rfl
theorem run5_3t (p0 p1 n0 n1 k1 may : Bool) (hf : ∀ x ∈ restFacts true true true false p0 p1 n0 n1 true k1, x.Holds (valsOf (vals24 b f s k p n x0 x1 x2 x3 y1 y2 m a len cap))) :
    okRun (@funcA (factEnv (vals24 b f s k p n x0 x1 x2 x3 y1 y2 m a len cap) rfl (restFacts true true true false p0 p1 n0 n1 true k1) hf) (tabOf tree (ps24 may)) 300 3 [.agg [.int .i64 5, .tok 1, .tok 2, .tok 3, .tok 4, .tok 5], .agg [.tok 6, .tok 7, .tok 8, .tok 9, .tok 10, .tok 11, .tok 12, .tok 13]] h0) = true := by kernel_rfl
theorem run5_4f (p0 p1 n0 n1 k1 : Bool) (hf : ∀ x ∈ restFacts true true true true p0 p1 n0 n1 false k1, x.Holds (valsOf (vals24 b f s k p n x0 x1 x2 x3 y1 y2 m a len cap))) :
    okRun (@funcA (factEnv (vals24 b f s k p n x0 x1 x2 x3 y1 y2 m a len cap) rfl (restFacts true true true true p0 p1 n0 n1 false k1) hf) (tabOf tree (ps24 false)) 300 3 [.agg [.int .i64 5, .tok 1, .tok 2, .tok 3, .tok 4, .tok 5], .agg [.tok 6, .tok 7, .tok 8, .tok 9, .tok 10, .tok 11, .tok 12, .tok 13]] h0) = true := by kernel_rfl
theorem run5_4t (p0 p1 n0 n1 k1 : Bool) (hf : ∀ x ∈ restFacts true true true true p0 p1 n0 n1 true k1, x.Holds (valsOf (vals24 b f s k p n x0 x1 x2 x3 y1 y2 m a len cap))) :
    okRun (@funcA (factEnv (vals24 b f s k p n x0 x1 x2 x3 y1 y2 m a len cap) rfl (restFacts true true true true p0 p1 n0 n1 true k1) hf) (tabOf tree (ps24 false)) 300 3 [.agg [.int .i64 5, .tok 1, .tok 2, .tok 3, .tok 4, .tok 5], .agg [.tok 6, .tok 7, .tok 8, .tok 9, .tok 10, .tok 11, .tok 12, .tok 13]] h0) = true := by kernel_rfl
theorem run5_5f (p1 n0 n1 k1 : Bool) (hf : ∀ x ∈ restFacts true true true true false p1 n0 n1 false k1, x.Holds (valsOf (vals24 b f s k p n x0 x1 x2 x3 y1 y2 m a len cap))) :
    okRun (@funcA (factEnv (vals24 b f s k p n x0 x1 x2 x3 y1 y2 m a len cap) rfl (restFacts true true true true false p1 n0 n1 false k1) hf) (tabOf tree (ps24 true)) 300 3 [.agg [.int .i64 5, .tok 1, .tok 2, .tok 3, .tok 4, .tok 5], .agg [.tok 6, .tok 7, .tok 8, .tok 9, .tok 10, .tok 11, .tok 12, .tok 13]] h0) = true := by kernel_rfl
theorem run5_5t (p1 n0 n1 k1 : Bool) (hf : ∀ x ∈ restFacts true true true true false p1 n0 n1 true k1, x.Holds (valsOf (vals24 b f s k p n x0 x1 x2 x3 y1 y2 m a len cap))) :
    okRun (@funcA (factEnv (vals24 b f s k p n x0 x1 x2 x3 y1 y2 m a len cap) rfl (restFacts true true true true false p1 n0 n1 true k1) hf) (tabOf tree (ps24 true)) 300 3 [.agg [.int .i64 5, .tok 1, .tok 2, .tok 3, .tok 4, .tok 5], .agg [.tok 6, .tok 7, .tok 8, .tok 9, .tok 10, .tok 11, .tok 12, .tok 13]] h0) = true := by kernel_rfl
theorem run5_6f (n0 n1 k1 : Bool) (hf : ∀ x ∈ restFacts true true true true true false n0 n1 false k1, x.Holds (valsOf (vals24 b f s k p n x0 x1 x2 x3 y1 y2 m a len cap))) :
    okRun (@funcA (factEnv (vals24 b f s k p n x0 x1 x2 x3 y1 y2 m a len cap) rfl (restFacts true true true true true false n0 n1 false k1) hf) (tabOf tree (ps24 true)) 300 3 [.agg [.int .i64 5, .tok 1, .tok 2, .tok 3, .tok 4, .tok 5], .agg [.tok 6, .tok 7, .tok 8, .tok 9, .tok 10, .tok 11, .tok 12, .tok 13]] h0) = true := by kernel_rfl
theorem run5_6t (n0 n1 k1 : Bool) (hf : ∀ x ∈ restFacts true true true true true false n0 n1 true k1, x.Holds (valsOf (vals24 b f s k p n x0 x1 x2 x3 y1 y2 m a len cap))) :
    okRun (@funcA (factEnv (vals24 b f s k p n x0 x1 x2 x3 y1 y2 m a len cap) rfl (restFacts true true true true true false n0 n1 true k1) hf) (tabOf tree (ps24 true)) 300 3 [.agg [.int .i64 5, .tok 1, .tok 2, .tok 3, .tok 4, .tok 5], .agg [.tok 6, .tok 7, .tok 8, .tok 9, .tok 10, .tok 11, .tok 12, .tok 13]] h0) = true := by kernel_rfl
theorem run5_7f (n1 k1 : Bool) (hf : ∀ x ∈ restFacts true true true true true true false n1 false k1, x.Holds (valsOf (vals24 b f s k p n x0 x1 x2 x3 y1 y2 m a len cap))) :
    okRun (@funcA (factEnv (vals24 b f s k p n x0 x1 x2 x3 y1 y2 m a len cap) rfl (restFacts true true true true true true false n1 false k1) hf) (tabOf tree (ps24 true)) 300 3 [.agg [.int .i64 5, .tok 1, .tok 2, .tok 3, .tok 4, .tok 5], .agg [.tok 6, .tok 7, .tok 8, .tok 9, .tok 10, .tok 11, .tok 12, .tok 13]] h0) = true := by kernel_rfl
theorem run5_7t (n1 k1 : Bool) (hf : ∀ x ∈ restFacts true true true true true true false n1 true k1, x.Holds (valsOf (vals24 b f s k p n x0 x1 x2 x3 y1 y2 m a len cap))) :
    okRun (@funcA (factEnv (vals24 b f s k p n x0 x1 x2 x3 y1 y2 m a len cap) rfl (restFacts true true true true true true false n1 true k1) hf) (tabOf tree (ps24 true)) 300 3 [.agg [.int .i64 5, .tok 1, .tok 2, .tok 3, .tok 4, .tok 5], .agg [.tok 6, .tok 7, .tok 8, .tok 9, .tok 10, .tok 11, .tok 12, .tok 13]] h0) = true := by kernel_rfl
theorem run5_8f (k1 : Bool) (hf : ∀ x ∈ restFacts true true true true true true true false false k1, x.Holds (valsOf (vals24 b f s k p n x0 x1 x2 x3 y1 y2 m a len cap))) :
    okRun (@funcA (factEnv (vals24 b f s k p n x0 x1 x2 x3 y1 y2 m a len cap) rfl (restFacts true true true true true true true false false k1) hf) (tabOf tree (ps24 true)) 300 3 [.agg [.int .i64 5, .tok 1, .tok 2, .tok 3, .tok 4, .tok 5], .agg [.tok 6, .tok 7, .tok 8, .tok 9, .tok 10, .tok 11, .tok 12, .tok 13]] h0) = true := by kernel_rfl
theorem run5_8t (k1 : Bool) (hf : ∀ x ∈ restFacts true true true true true true true false true k1, x.Holds (valsOf (vals24 b f s k p n x0 x1 x2 x3 y1 y2 m a len cap))) :
    okRun (@funcA (factEnv (vals24 b f s k p n x0 x1 x2 x3 y1 y2 m a len cap) rfl (restFacts true true true true true true true false true k1) hf) (tabOf tree (ps24 true)) 300 3 [.agg [.int .i64 5, .tok 1, .tok 2, .tok 3, .tok 4, .tok 5], .agg [.tok 6, .tok 7, .tok 8, .tok 9, .tok 10, .tok 11, .tok 12, .tok 13]] h0) = true := by kernel_rfl
theorem run5_9f (k1 : Bool) (hf : ∀ x ∈ restFacts true true true true true true true true false k1, x.Holds (valsOf (vals24 b f s k p n x0 x1 x2 x3 y1 y2 m a len cap))) :
    okRun (@funcA (factEnv (vals24 b f s k p n x0 x1 x2 x3 y1 y2 m a len cap) rfl (restFacts true true true true true true true true false k1) hf) (tabOf tree (ps24 true)) 300 3 [.agg [.int .i64 5, .tok 1, .tok 2, .tok 3, .tok 4, .tok 5], .agg [.tok 6, .tok 7, .tok 8, .tok 9, .tok 10, .tok 11, .tok 12, .tok 13]] h0) = true := by kernel_rfl
theorem run5_9t (k1 : Bool) (hf : ∀ x ∈ restFacts true true true true true true true true true k1, x.Holds (valsOf (vals24 b f s k p n x0 x1 x2 x3 y1 y2 m a len cap))) :
    okRun (@funcA (factEnv (vals24 b f s k p n x0 x1 x2 x3 y1 y2 m a len cap) rfl (restFacts true true true true true true true true true k1) hf) (tabOf tree (ps24 true)) 300 3 [.agg [.int .i64 5, .tok 1, .tok 2, .tok 3, .tok 4, .tok 5], .agg [.tok 6, .tok 7, .tok 8, .tok 9, .tok 10, .tok 11, .tok 12, .tok 13]] h0) = true := by kernel_rfl
theorem run5 (f0 f1 s0 s1 p0 p1 n0 n1 k0 k1 may : Bool) (hf : ∀ x ∈ restFacts f0 f1 s0 s1 p0 p1 n0 n1 k0 k1, x.Holds (valsOf (vals24 b f s k p n x0 x1 x2 x3 y1 y2 m a len cap))) :
    okRun (@funcA (factEnv (vals24 b f s k p n x0 x1 x2 x3 y1 y2 m a len cap) rfl (restFacts f0 f1 s0 s1 p0 p1 n0 n1 k0 k1) hf) (tabOf tree (ps24 may)) 300 3 [.agg [.int .i64 5, .tok 1, .tok 2, .tok 3, .tok 4, .tok 5], .agg [.tok 6, .tok 7, .tok 8, .tok 9, .tok 10, .tok 11, .tok 12, .tok 13]] h0) = true := by
  cases f0
  · cases k0
    · exact run5_0f b f s k p n x0 x1 x2 x3 y1 y2 m a len cap f1 s0 s1 p0 p1 n0 n1 k1 may hf
    · exact run5_0t b f s k p n x0 x1 x2 x3 y1 y2 m a len cap f1 s0 s1 p0 p1 n0 n1 k1 may hf
  cases f1
  · cases k0
    · exact run5_1f b f s k p n x0 x1 x2 x3 y1 y2 m a len cap s0 s1 p0 p1 n0 n1 k1 may hf
    · exact run5_1t b f s k p n x0 x1 x2 x3 y1 y2 m a len cap s0 s1 p0 p1 n0 n1 k1 may hf
  cases s0
  · cases k0
    · exact run5_2f b f s k p n x0 x1 x2 x3 y1 y2 m a len cap s1 p0 p1 n0 n1 k1 may hf
    · exact run5_2t b f s k p n x0 x1 x2 x3 y1 y2 m a len cap s1 p0 p1 n0 n1 k1 may hf
  cases s1
  · cases k0
    · exact run5_3f b f s k p n x0 x1 x2 x3 y1 y2 m a len cap p0 p1 n0 n1 k1 may hf
    · exact run5_3t b f s k p n x0 x1 x2 x3 y1 y2 m a len cap p0 p1 n0 n1 k1 may hf
  cases may
  · cases k0
    · exact run5_4f b f s k p n x0 x1 x2 x3 y1 y2 m a len cap p0 p1 n0 n1 k1 hf
    · exact run5_4t b f s k p n x0 x1 x2 x3 y1 y2 m a len cap p0 p1 n0 n1 k1 hf
  cases p0
  · cases k0
    · exact run5_5f b f s k p n x0 x1 x2 x3 y1 y2 m a len cap p1 n0 n1 k1 hf
    · exact run5_5t b f s k p n x0 x1 x2 x3 y1 y2 m a len cap p1 n0 n1 k1 hf
  cases p1
  · cases k0
    · exact run5_6f b f s k p n x0 x1 x2 x3 y1 y2 m a len cap n0 n1 k1 hf
    · exact run5_6t b f s k p n x0 x1 x2 x3 y1 y2 m a len cap n0 n1 k1 hf
  cases n0
  · cases k0
    · exact run5_7f b f s k p n x0 x1 x2 x3 y1 y2 m a len cap n1 k1 hf
    · exact run5_7t b f s k p n x0 x1 x2 x3 y1 y2 m a len cap n1 k1 hf
  cases n1
  · cases k0
    · exact run5_8f b f s k p n x0 x1 x2 x3 y1 y2 m a len cap k1 hf
    · exact run5_8t b f s k p n x0 x1 x2 x3 y1 y2 m a len cap k1 hf
  cases k0
  · exact run5_9f b f s k p n x0 x1 x2 x3 y1 y2 m a len cap k1 hf
  · exact run5_9t b f s k p n x0 x1 x2 x3 y1 y2 m a len cap k1 hf
end
end Go.Proofs.YtjoemiadbccljaaGreat
