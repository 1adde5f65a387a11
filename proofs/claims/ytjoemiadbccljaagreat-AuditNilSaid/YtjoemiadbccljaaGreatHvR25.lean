/- AuditNil: the law is true at every address and key: audit, of no store, tells an error alone. -/
import Derived.Test.YtjoemiadbccljaaGreatHvRO
import Derived.Test.YtjoemiadbccljaaGreatHvW32
import Derived.Test.YtjoemiadbccljaaGreatHvP5
set_option maxRecDepth 100000
namespace Go.Proofs.YtjoemiadbccljaaGreat
open Go Go.Hv Go.Hv.Tryz Go.ChangeShapes Go.WideShapes Go.ChangeAt Go.RowKit Go.Joins
open Go.ChangeMaps (open_string shut_string)

/-- The tokens of a call: what they stand for; nothing more is told of them. -/
@[reducible] def plain (l : List Value) (h : (l.all fun v => sortOf v == 0) = true) : Env := factEnv l h [] (by intro f h; cases h)

theorem tab5_ok [Env] : TabOk Tryz.prog (tabOf tree [(32, primTrue)]) := tabOk_of tree_ok ⟨⟨woken32, primTrue_local⟩, trivial⟩

section
variable (a : Int) (s : ByteArray)

theorem run5 : okRun (@funcA (plain [.int .u64 a, .string s] rfl) (tabOf tree [(32, primTrue)]) 1000 5 [.tok 0, .tok 1] h0) = true := by kernel_rfl

theorem walk5 (w : World) : Calls Tryz.prog 5 #[.int .u64 a, .string s] w fun e w' => e = .returned (.bool true) ∧ Below w.heap.size w w' := by
  letI E := plain [.int .u64 a, .string s] rfl
  have ha : VRels rho0 [.tok 0, .tok 1] [.int .u64 a, .string s] := by
    simp only [VRels, VRel]
    exact ⟨_, _, rfl, ⟨_, _, rfl, rfl, rfl⟩, rfl⟩
  exact (run_true (func_ok mixed tab5_ok 1000 5) ha (run5 a s) w).2
end

set_option maxRecDepth 100000 in
theorem lifted5 (os : Os) (started : os.Started) (H : Type) (enc : TypeId × Value → H) :
    ReturnsInHanded {} Tryz.checked os 5 .any (Rows.auditNilSpec.pre6 enc Tryz.prog Tryz.f5 Rows.auditNilRow.domain false) (Rows.auditNilSpec.post enc Tryz.prog Tryz.f5 false true false false) := by
  refine returnsInHanded_of_change (C := Tryz.checked) own started (by kernel_rfl) Tryz.func5
    (ChangeSpec.witness6 (enc := enc) (C := Tryz.checked) false ⟨#[], #[.int .u64 0, .string ⟨#[]⟩], []⟩ 8 (by kernel_rfl) (by kernel_rfl) (by kernel_rfl) (by kernel_rfl)) ?_
  intro W base args ds gs before hval0 hW hcnd _
  have hval : ∀ (j : Nat) t v, Tryz.f5.params[j]? = some t → args[j]? = some v → Value.okWide Tryz.prog W .any base t v := hval0
  have hW' := hW
  obtain ⟨p, q, hA0, hV, rfl, hfz, hnd⟩ := hW
  have hA : DataW.TrodAll enc Tryz.prog W 0 (fun _ => true) true Tryz.f5.params.toList args.toList ds p := hA0
  rw [Tryz.params5] at hA hval
  obtain ⟨v0, vs0, d0, ds0, p0, q0, hargs, rfl, rfl, h0, r0⟩ := trodAll_cons hA
  obtain ⟨v1, vs1, d1, ds1, p1, q1, rfl, rfl, rfl, h1, r1⟩ := trodAll_cons r0
  obtain ⟨rfl, rfl, rfl⟩ := trodAll_nil r1
  obtain rfl : args = #[v0, v1] := by cases args; simp_all
  obtain ⟨rfl, rfl⟩ := trodVars_none hV
  have k0 := h0
  have lt0 : ∀ x ∈ p0, x.block < W.heap.size := by obtain ⟨m, hm⟩ := k0; exact DataW.trod_lt m _ _ _ hm
  have k1 := h1
  have lt1 : ∀ x ∈ p1, x.block < W.heap.size := by obtain ⟨m, hm⟩ := k1; exact DataW.trod_lt m _ _ _ hm
  obtain ⟨a0, rfl⟩ := okWide_int Tryz.underlying24 (hval 0 24 v0 rfl rfl)
  obtain ⟨a1, rfl⟩ := okWide_string Tryz.underlying9 (hval 1 9 v1 rfl rfl)
  clear hA0 hval0
  refine (walk5 a0 a1 W).mono fun e W' ⟨he, bel⟩ => ?_
  subst he
  exact ⟨_, rfl, _, _, _, [], _, [], hW', trodAll_mk1 (shut_bool Tryz.underlying4 _), (trodAll_cons_mk (Below.trod laidOut (by kernel_rfl) (of_decide_eq_true (by kernel_rfl)) k0 bel lt0) (trodAll_cons_mk (Below.trod laidOut (by kernel_rfl) (of_decide_eq_true (by kernel_rfl)) k1 bel lt1) trodAll_mk0)), rfl, bel.frame _, fun h => by cases h⟩

theorem inPlace5 : (Rows.auditNilRow.inPlace == Tryz.prog.inPlace 5) = true := by kernel_rfl
theorem unfollowed5 : (Rows.auditNilRow.unfollowed == Tryz.prog.unfollowed 5) = true := by kernel_rfl
theorem recurses5 : (Rows.auditNilRow.recurses == Tryz.prog.recurses 5) = true := by kernel_rfl
theorem named5 : (Rows.auditNilRow.named == Tryz.prog.varsNamed 5) = true := by kernel_rfl

theorem closed5 : joinedFacts Tryz.prog 5 Tryz.f5 Rows.auditNilSpec Rows.auditNilRow = true := by
  unfold joinedFacts
  rw [laidOut, mapsOk, inPlace5, unfollowed5, recurses5, named5]
  kernel_rfl

theorem auditNil : Rows.AuditNilSaid :=
  OpenClaim.holds_of_wide 5 Tryz.f5 rfl rfl rfl rfl rfl rfl rfl ⟨rfl, rfl, rfl, rfl, rfl⟩ rfl rfl rfl rfl rfl (by kernel_rfl) Tryz.func5 closed5
    (of_decide_eq_true (by kernel_rfl)) (by unfold Func.isWrapper; first | (rw [if_pos (by decide +kernel)]; kernel_rfl) | (rw [if_neg (by decide +kernel)]; exact ⟨rfl, rfl⟩))
    (fun os started H enc _ => lifted5 os started H enc)

end Go.Proofs.YtjoemiadbccljaaGreat
