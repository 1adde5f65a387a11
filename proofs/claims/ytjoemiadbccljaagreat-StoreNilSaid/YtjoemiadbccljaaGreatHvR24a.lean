/- StoreNil: the law is true at every config and step: a store that is not there does nothing, nor is there one without a device, or on one that is off. First: whether there may be so many buckets; what is told of a config. -/
import Derived.Test.YtjoemiadbccljaaGreatHvRO
import Derived.Test.YtjoemiadbccljaaGreatHvWK
import Derived.Test.YtjoemiadbccljaaGreatHvP5
set_option maxRecDepth 100000
namespace Go.Proofs.YtjoemiadbccljaaGreat
open Go Go.Hv Go.Hv.Tryz Go.RowKit

/-- The numbers of buckets that may be. -/
def powers : List Int := [1, 2, 4, 8, 16, 32, 64, 128, 256, 512, 1024]
def mayB (n : Int) : Bool := powers.contains n

theorem tabP_ok [Env] : TabOk Tryz.prog (tabOf tree []) := tabOk_of (ps := []) tree_ok trivial

@[reducible] def none0 : Env := factEnv [] rfl [] (by intro f h; cases h)

theorem all120 : (List.range 1024).all (fun i => okRunB (mayB (Int.ofNat (i + 1))) (@funcA none0 (tabOf tree []) 60 120 [.int .i64 (Int.ofNat (i + 1))] h0)) = true := by kernel_rfl
theorem all63 : powers.all (fun i => okRunB true (@funcA none0 (tabOf tree []) 200 63 [.int .i64 i] h0)) = true := by kernel_rfl

def lowFacts : List Fact := [⟨.geq, 0, .i64, 1, false⟩]
def highFacts : List Fact := [⟨.geq, 0, .i64, 1, true⟩, ⟨.leq, 0, .i64, 1024, false⟩]
def offFacts : List Fact := powers.map fun k => ⟨.eql, 0, .i64, k, false⟩

theorem run120low (n : Int) (hf : ∀ f ∈ lowFacts, f.Holds (valsOf [.int .i64 n])) : okRunB false (@funcA (factEnv [.int .i64 n] rfl lowFacts hf) (tabOf tree []) 60 120 [.tok 0] h0) = true := by kernel_rfl
theorem run120high (n : Int) (hf : ∀ f ∈ highFacts, f.Holds (valsOf [.int .i64 n])) : okRunB false (@funcA (factEnv [.int .i64 n] rfl highFacts hf) (tabOf tree []) 60 120 [.tok 0] h0) = true := by kernel_rfl
theorem run63off (n : Int) (hf : ∀ f ∈ offFacts, f.Holds (valsOf [.int .i64 n])) : okRunB false (@funcA (factEnv [.int .i64 n] rfl offFacts hf) (tabOf tree []) 200 63 [.tok 0] h0) = true := by kernel_rfl

theorem mayB_range {n : Int} (h : mayB n = true) : 1 ≤ n ∧ n ≤ 1024 := by
  unfold mayB powers at h
  simp only [List.contains_cons, List.contains_nil, Bool.or_eq_true, beq_iff_eq, Bool.false_eq_true, or_false] at h
  omega

theorem may120 (n : Int) (w : World) : Calls Tryz.prog 120 #[.int .i64 n] w fun e w' => e = .returned (.bool (mayB n)) ∧ Below w.heap.size w w' := by
  by_cases h1 : n < 1
  · have hb : mayB n = false := by
      cases hm : mayB n with
      | false => rfl
      | true => have := mayB_range hm; omega
    rw [hb]
    have hf : ∀ f ∈ lowFacts, f.Holds (valsOf [.int .i64 n]) := by
      intro f hm
      simp only [lowFacts, List.mem_cons, List.not_mem_nil, or_false] at hm
      subst hm
      exact ⟨n, rfl, by simp [cmpI]; omega⟩
    letI E := factEnv [.int .i64 n] rfl lowFacts hf
    have ha : VRels rho0 [.tok 0] [.int .i64 n] := by simp only [VRels, VRel]; exact ⟨_, _, rfl, rfl, rfl⟩
    exact (run_bool (func_ok mixed tabP_ok 60 120) ha (run120low n hf) w).2
  · by_cases h2 : n ≤ 1024
    · have h := List.all_eq_true.1 all120 (n.toNat - 1) (List.mem_range.2 (by omega))
      have e : Int.ofNat (n.toNat - 1 + 1) = n := by show ((n.toNat - 1 + 1 : Nat) : Int) = n; omega
      rw [e] at h
      letI E := none0
      have ha : VRels rho0 [.int .i64 n] [.int .i64 n] := by simp only [VRels, VRel]; exact ⟨_, _, rfl, rfl, rfl⟩
      exact (run_bool (func_ok mixed tabP_ok 60 120) ha h w).2
    · have hb : mayB n = false := by
        cases hm : mayB n with
        | false => rfl
        | true => have := mayB_range hm; omega
      rw [hb]
      have hf : ∀ f ∈ highFacts, f.Holds (valsOf [.int .i64 n]) := by
        intro f hm
        simp only [highFacts, List.mem_cons, List.not_mem_nil, or_false] at hm
        rcases hm with rfl | rfl
        · exact ⟨n, rfl, by simp [cmpI]; omega⟩
        · exact ⟨n, rfl, by simp [cmpI]; omega⟩
      letI E := factEnv [.int .i64 n] rfl highFacts hf
      have ha : VRels rho0 [.tok 0] [.int .i64 n] := by simp only [VRels, VRel]; exact ⟨_, _, rfl, rfl, rfl⟩
      exact (run_bool (func_ok mixed tabP_ok 60 120) ha (run120high n hf) w).2

theorem may63 (n : Int) (w : World) : Calls Tryz.prog 63 #[.int .i64 n] w fun e w' => e = .returned (.bool (mayB n)) ∧ Below w.heap.size w w' := by
  cases hb : mayB n with
  | true =>
    have hm : n ∈ powers := by
      unfold mayB at hb
      exact List.contains_iff_mem.1 hb
    have h := List.all_eq_true.1 all63 n hm
    letI E := none0
    have ha : VRels rho0 [.int .i64 n] [.int .i64 n] := by simp only [VRels, VRel]; exact ⟨_, _, rfl, rfl, rfl⟩
    exact (run_bool (func_ok mixed tabP_ok 200 63) ha h w).2
  | false =>
    have hf : ∀ f ∈ offFacts, f.Holds (valsOf [.int .i64 n]) := by
      intro f hm
      unfold offFacts at hm
      obtain ⟨k, hk, rfl⟩ := List.mem_map.1 hm
      refine ⟨n, rfl, ?_⟩
      have hne : n ≠ k := by
        rintro rfl
        unfold mayB at hb
        rw [List.contains_iff_mem.2 hk] at hb
        cases hb
      simp [cmpI, hne]
    letI E := factEnv [.int .i64 n] rfl offFacts hf
    have ha : VRels rho0 [.tok 0] [.int .i64 n] := by simp only [VRels, VRel]; exact ⟨_, _, rfl, rfl, rfl⟩
    exact (run_bool (func_ok mixed tabP_ok 200 63) ha (run63off n hf) w).2

theorem callable120 : Callable Tryz.prog 120 := ⟨_, Tryz.func120, by kernel_rfl, by kernel_rfl⟩
theorem callable63 : Callable Tryz.prog 63 := ⟨_, Tryz.func63, by kernel_rfl, by kernel_rfl⟩

/-- The table of the law's run: it is awake; so many buckets may be, or not. -/
@[reducible] def ps24 (may : Bool) : List (Nat × Prim) := (7, primTrue) :: (120, tokPrim 3 may) :: (63, tokPrim 3 may) :: PS

theorem tab24_ok [E : Env] {n : Int} (hv : E.val 3 = .int .i64 n) : TabOk Tryz.prog (tabOf tree (ps24 (mayB n))) :=
  tabOk_of tree_ok ⟨⟨woken7, primTrue_local⟩, ⟨tokPrim_ok callable120 (by rw [hv]; exact may120 n), tokPrim_local 3 _⟩, ⟨tokPrim_ok callable63 (by rw [hv]; exact may63 n), tokPrim_local 3 _⟩, ps_ok⟩

/-- What the tests on a config's numbers came to. -/
@[reducible] def restFacts (f0 f1 s0 s1 p0 p1 n0 n1 k0 k1 : Bool) : List Fact :=
  [⟨.geq, 6, .i64, 1, k0⟩, ⟨.leq, 6, .i64, 3, k1⟩, ⟨.geq, 1, .i64, 2, f0⟩, ⟨.leq, 1, .i64, 8, f1⟩, ⟨.geq, 2, .i64, 1, s0⟩, ⟨.leq, 2, .i64, 64, s1⟩, ⟨.geq, 4, .i64, 0, p0⟩, ⟨.leq, 4, .i64, 64, p1⟩, ⟨.geq, 5, .i64, 1, n0⟩, ⟨.leq, 5, .i64, 8, n1⟩]
@[reducible] def bitFacts (b0 b1 : Bool) : List Fact :=
  [⟨.geq, 0, .i64, 5, b0⟩, ⟨.leq, 0, .i64, 9, b1⟩, ⟨.eql, 0, .i64, 5, false⟩, ⟨.eql, 0, .i64, 6, false⟩, ⟨.eql, 0, .i64, 7, false⟩, ⟨.eql, 0, .i64, 8, false⟩, ⟨.eql, 0, .i64, 9, false⟩]

@[reducible] def vals24 (b f s k p n x0 x1 x2 x3 : Int) (y1 y2 : ByteArray) (m : Int) (a : Option Addr) (len cap : Nat) : List Value :=
  [.int .i64 b, .int .i64 f, .int .i64 s, .int .i64 k, .int .i64 p, .int .i64 n, .int .i64 x0, .int .i64 x1, .int .i64 x2, .int .i64 x3, .string y1, .string y2, .int .u64 m, .slice a len cap]

end Go.Proofs.YtjoemiadbccljaaGreat
