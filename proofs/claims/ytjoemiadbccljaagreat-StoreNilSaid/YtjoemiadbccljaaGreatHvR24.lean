/- StoreNil: the law is true at every config and step: a store that is not there does nothing, nor is there one without a device, or on one that is off. -/
import Derived.Test.YtjoemiadbccljaaGreatHvR24b
import Derived.Test.YtjoemiadbccljaaGreatHvR24c5
import Derived.Test.YtjoemiadbccljaaGreatHvR24c6
import Derived.Test.YtjoemiadbccljaaGreatHvR24c7
import Derived.Test.YtjoemiadbccljaaGreatHvR24c8
import Derived.Test.YtjoemiadbccljaaGreatHvR24c9
set_option maxRecDepth 100000
namespace Go.Proofs.YtjoemiadbccljaaGreat
open Go Go.Hv Go.Hv.Tryz Go.ChangeShapes Go.WideShapes Go.ChangeAt Go.RowKit Go.Joins
open Go.ChangeMaps (open_string shut_string)

section
variable (b f s k p n x0 x1 x2 x3 : Int) (y1 y2 : ByteArray) (m : Int) (a : Option Addr) (len cap : Nat)

theorem restHold : ∀ x ∈ restFacts (decide (f ≥ 2)) (decide (f ≤ 8)) (decide (s ≥ 1)) (decide (s ≤ 64)) (decide (p ≥ 0)) (decide (p ≤ 64)) (decide (n ≥ 1)) (decide (n ≤ 8)) (decide (x0 ≥ 1)) (decide (x0 ≤ 3)), x.Holds (valsOf (vals24 b f s k p n x0 x1 x2 x3 y1 y2 m a len cap)) := by
  intro x hx
  simp only [restFacts, List.mem_cons, List.not_mem_nil, or_false] at hx
  rcases hx with rfl | rfl | rfl | rfl | rfl | rfl | rfl | rfl | rfl | rfl
  · exact ⟨x0, rfl, rfl⟩
  · exact ⟨x0, rfl, rfl⟩
  · exact ⟨f, rfl, rfl⟩
  · exact ⟨f, rfl, rfl⟩
  · exact ⟨s, rfl, rfl⟩
  · exact ⟨s, rfl, rfl⟩
  · exact ⟨p, rfl, rfl⟩
  · exact ⟨p, rfl, rfl⟩
  · exact ⟨n, rfl, rfl⟩
  · exact ⟨n, rfl, rfl⟩

theorem bitHold (hb : b < 5 ∨ 9 < b) : ∀ x ∈ bitFacts (decide (b ≥ 5)) (decide (b ≤ 9)) ++ restFacts (decide (f ≥ 2)) (decide (f ≤ 8)) (decide (s ≥ 1)) (decide (s ≤ 64)) (decide (p ≥ 0)) (decide (p ≤ 64)) (decide (n ≥ 1)) (decide (n ≤ 8)) (decide (x0 ≥ 1)) (decide (x0 ≤ 3)), x.Holds (valsOf (vals24 b f s k p n x0 x1 x2 x3 y1 y2 m a len cap)) := by
  intro x hx
  rcases List.mem_append.1 hx with hx | hx
  · simp only [bitFacts, List.mem_cons, List.not_mem_nil, or_false] at hx
    rcases hx with rfl | rfl | rfl | rfl | rfl | rfl | rfl
    · exact ⟨b, rfl, rfl⟩
    · exact ⟨b, rfl, rfl⟩
    all_goals (refine ⟨b, rfl, ?_⟩; simp only [cmpI, Option.some.injEq, beq_eq_false_iff_ne, ne_eq]; omega)
  · exact restHold b f s k p n x0 x1 x2 x3 y1 y2 m a len cap x hx

/-- The arguments are what the tokens stand for. -/
theorem relTok [E : Env] (c : AVal) (h0' : VRel rho0 c (.int .i64 b)) (h1 : E.val = valsOf (vals24 b f s k p n x0 x1 x2 x3 y1 y2 m a len cap)) :
    VRels rho0 [.agg [c, .tok 1, .tok 2, .tok 3, .tok 4, .tok 5], .agg [.tok 6, .tok 7, .tok 8, .tok 9, .tok 10, .tok 11, .tok 12, .tok 13]]
      [.agg #[.int .i64 b, .int .i64 f, .int .i64 s, .int .i64 k, .int .i64 p, .int .i64 n], .agg #[.int .i64 x0, .int .i64 x1, .int .i64 x2, .int .i64 x3, .string y1, .string y2, .int .u64 m, .slice a len cap]] := by
  simp only [VRels, VRel, h1]
  exact ⟨_, _, ⟨[.int .i64 b, .int .i64 f, .int .i64 s, .int .i64 k, .int .i64 p, .int .i64 n], ⟨_, _, h0', ⟨_, _, rfl, ⟨_, _, rfl, ⟨_, _, rfl, ⟨_, _, rfl, ⟨_, _, rfl, rfl, rfl⟩, rfl⟩, rfl⟩, rfl⟩, rfl⟩, rfl⟩, rfl⟩,
    ⟨_, _, ⟨[.int .i64 x0, .int .i64 x1, .int .i64 x2, .int .i64 x3, .string y1, .string y2, .int .u64 m, .slice a len cap], ⟨_, _, rfl, ⟨_, _, rfl, ⟨_, _, rfl, ⟨_, _, rfl, ⟨_, _, rfl, ⟨_, _, rfl, ⟨_, _, rfl, ⟨_, _, rfl, rfl, rfl⟩, rfl⟩, rfl⟩, rfl⟩, rfl⟩, rfl⟩, rfl⟩, rfl⟩, rfl⟩, rfl, rfl⟩, rfl⟩

theorem walk3 (w : World) : Calls Tryz.prog 3 #[.agg #[.int .i64 b, .int .i64 f, .int .i64 s, .int .i64 k, .int .i64 p, .int .i64 n], .agg #[.int .i64 x0, .int .i64 x1, .int .i64 x2, .int .i64 x3, .string y1, .string y2, .int .u64 m, .slice a len cap]] w fun e w' => e = .returned (.bool true) ∧ Below w.heap.size w w' := by
  by_cases hb : b < 5 ∨ 9 < b
  · letI E := factEnv (vals24 b f s k p n x0 x1 x2 x3 y1 y2 m a len cap) rfl _ (bitHold b f s k p n x0 x1 x2 x3 y1 y2 m a len cap hb)
    have ha := relTok b f s k p n x0 x1 x2 x3 y1 y2 m a len cap (.tok 0) (by simp only [VRel]; rfl) rfl
    refine (run_true (func_ok mixed (tab24_ok (n := k) rfl) 300 3) ha ?_ w).2
    have hh := bitHold b f s k p n x0 x1 x2 x3 y1 y2 m a len cap hb
    by_cases h5 : b < 5
    · have e : decide (b ≥ 5) = false := by simp; omega
      revert hh
      show ∀ hh, okRun (@funcA (factEnv (vals24 b f s k p n x0 x1 x2 x3 y1 y2 m a len cap) rfl (bitFacts (decide (b ≥ 5)) (decide (b ≤ 9)) ++ restFacts (decide (f ≥ 2)) (decide (f ≤ 8)) (decide (s ≥ 1)) (decide (s ≤ 64)) (decide (p ≥ 0)) (decide (p ≤ 64)) (decide (n ≥ 1)) (decide (n ≤ 8)) (decide (x0 ≥ 1)) (decide (x0 ≤ 3))) hh) _ _ _ _ _) = true
      rw [e]
      exact runLow b f s k p n x0 x1 x2 x3 y1 y2 m a len cap _ _ _ _ _ _ _ _ _ _ _ _
    · have e : decide (b ≥ 5) = true := by simp; omega
      have e2 : decide (b ≤ 9) = false := by simp; omega
      revert hh
      show ∀ hh, okRun (@funcA (factEnv (vals24 b f s k p n x0 x1 x2 x3 y1 y2 m a len cap) rfl (bitFacts (decide (b ≥ 5)) (decide (b ≤ 9)) ++ restFacts (decide (f ≥ 2)) (decide (f ≤ 8)) (decide (s ≥ 1)) (decide (s ≤ 64)) (decide (p ≥ 0)) (decide (p ≤ 64)) (decide (n ≥ 1)) (decide (n ≤ 8)) (decide (x0 ≥ 1)) (decide (x0 ≤ 3))) hh) _ _ _ _ _) = true
      rw [e, e2]
      exact runHigh b f s k p n x0 x1 x2 x3 y1 y2 m a len cap _ _ _ _ _ _ _ _ _ _ _
  · letI E := factEnv (vals24 b f s k p n x0 x1 x2 x3 y1 y2 m a len cap) rfl _ (restHold b f s k p n x0 x1 x2 x3 y1 y2 m a len cap)
    have ha := relTok b f s k p n x0 x1 x2 x3 y1 y2 m a len cap (.int .i64 b) (by simp only [VRel]) rfl
    refine (run_true (func_ok mixed (tab24_ok (n := k) rfl) 300 3) ha ?_ w).2
    have hbs : b = 5 ∨ b = 6 ∨ b = 7 ∨ b = 8 ∨ b = 9 := by omega
    rcases hbs with rfl | rfl | rfl | rfl | rfl
    · exact run5 5 f s k p n x0 x1 x2 x3 y1 y2 m a len cap _ _ _ _ _ _ _ _ _ _ _ _
    · exact run6 6 f s k p n x0 x1 x2 x3 y1 y2 m a len cap _ _ _ _ _ _ _ _ _ _ _ _
    · exact run7 7 f s k p n x0 x1 x2 x3 y1 y2 m a len cap _ _ _ _ _ _ _ _ _ _ _ _
    · exact run8 8 f s k p n x0 x1 x2 x3 y1 y2 m a len cap _ _ _ _ _ _ _ _ _ _ _ _
    · exact run9 9 f s k p n x0 x1 x2 x3 y1 y2 m a len cap _ _ _ _ _ _ _ _ _ _ _ _
end

set_option maxRecDepth 100000 in
theorem lifted3 (os : Os) (started : os.Started) (H : Type) (enc : TypeId × Value → H) :
    ReturnsInHanded {} Tryz.checked os 3 .any (Rows.storeNilSpec.pre6 enc Tryz.prog Tryz.f3 Rows.storeNilRow.domain false) (Rows.storeNilSpec.post enc Tryz.prog Tryz.f3 false true false false) := by
  refine returnsInHanded_of_change (C := Tryz.checked) own started (by kernel_rfl) Tryz.func3
    (ChangeSpec.witness6 (enc := enc) (C := Tryz.checked) false ⟨#[], #[.agg #[.int .i64 0, .int .i64 0, .int .i64 0, .int .i64 0, .int .i64 0, .int .i64 0], .agg #[.int .i64 0, .int .i64 0, .int .i64 0, .int .i64 0, .string ⟨#[]⟩, .string ⟨#[]⟩, .int .u64 0, .slice none 0 0]], []⟩ 8 (by kernel_rfl) (by kernel_rfl) (by kernel_rfl) (by kernel_rfl)) ?_
  intro W base args ds gs before hval0 hW hcnd _
  have hval : ∀ (j : Nat) t v, Tryz.f3.params[j]? = some t → args[j]? = some v → Value.okWide Tryz.prog W .any base t v := hval0
  have hW' := hW
  obtain ⟨p, q, hA0, hV, rfl, hfz, hnd⟩ := hW
  have hA : DataW.TrodAll enc Tryz.prog W 0 (fun _ => true) true Tryz.f3.params.toList args.toList ds p := hA0
  rw [Tryz.params3] at hA hval
  obtain ⟨v0, vs0, d0, ds0, p0, q0, hargs, rfl, rfl, h0, r0⟩ := trodAll_cons hA
  obtain ⟨v1, vs1, d1, ds1, p1, q1, rfl, rfl, rfl, h1, r1⟩ := trodAll_cons r0
  obtain ⟨rfl, rfl, rfl⟩ := trodAll_nil r1
  obtain rfl : args = #[v0, v1] := by cases args; simp_all
  obtain ⟨rfl, rfl⟩ := trodVars_none hV
  have k0 := h0
  have lt0 : ∀ x ∈ p0, x.block < W.heap.size := by obtain ⟨m, hm⟩ := k0; exact DataW.trod_lt m _ _ _ hm
  have k1 := h1
  have lt1 : ∀ x ∈ p1, x.block < W.heap.size := by obtain ⟨m, hm⟩ := k1; exact DataW.trod_lt m _ _ _ hm
  obtain ⟨b, f, s, k, z, n, rfl⟩ := config_form (hval 0 23 v0 rfl rfl)
  obtain ⟨x0, x1, x2, x3, y1, y2, m, a, len, cap, rfl⟩ := step_form (hval 1 29 v1 rfl rfl)
  clear hA0 hval0
  refine (walk3 b f s k z n x0 x1 x2 x3 y1 y2 m a len cap W).mono fun e W' ⟨he, bel⟩ => ?_
  subst he
  exact ⟨_, rfl, _, _, _, [], _, [], hW', trodAll_mk1 (shut_bool Tryz.underlying4 _), (trodAll_cons_mk (Below.trod laidOut (by kernel_rfl) (of_decide_eq_true (by kernel_rfl)) k0 bel lt0) (trodAll_cons_mk (Below.trod laidOut (by kernel_rfl) (of_decide_eq_true (by kernel_rfl)) k1 bel lt1) trodAll_mk0)), rfl, bel.frame _, fun h => by cases h⟩

theorem inPlace3 : (Rows.storeNilRow.inPlace == Tryz.prog.inPlace 3) = true := by kernel_rfl
theorem unfollowed3 : (Rows.storeNilRow.unfollowed == Tryz.prog.unfollowed 3) = true := by kernel_rfl
theorem recurses3 : (Rows.storeNilRow.recurses == Tryz.prog.recurses 3) = true := by kernel_rfl
theorem named3 : (Rows.storeNilRow.named == Tryz.prog.varsNamed 3) = true := by kernel_rfl

theorem closed3 : joinedFacts Tryz.prog 3 Tryz.f3 Rows.storeNilSpec Rows.storeNilRow = true := by
  unfold joinedFacts
  rw [laidOut, mapsOk, inPlace3, unfollowed3, recurses3, named3]
  kernel_rfl

theorem storeNil : Rows.StoreNilSaid :=
  OpenClaim.holds_of_wide 3 Tryz.f3 rfl rfl rfl rfl rfl rfl rfl ⟨rfl, rfl, rfl, rfl, rfl⟩ rfl rfl rfl rfl rfl (by kernel_rfl) Tryz.func3 closed3
    (of_decide_eq_true (by kernel_rfl)) (by unfold Func.isWrapper; first | (rw [if_pos (by decide +kernel)]; kernel_rfl) | (rw [if_neg (by decide +kernel)]; exact ⟨rfl, rfl⟩))
    (fun os started H enc _ => lifted3 os started H enc)

end Go.Proofs.YtjoemiadbccljaaGreat
