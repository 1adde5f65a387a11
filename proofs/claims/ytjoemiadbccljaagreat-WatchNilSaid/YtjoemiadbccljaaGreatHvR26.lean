/- WatchNil: the law is true at every step: a watch that is not there sees nothing. -/
import Derived.Test.YtjoemiadbccljaaGreatHvRO
import Derived.Test.YtjoemiadbccljaaGreatHvW22
import Derived.Test.YtjoemiadbccljaaGreatHvP5
set_option maxRecDepth 100000
namespace Go.Proofs.YtjoemiadbccljaaGreat
open Go Go.Hv Go.Hv.Tryz Go.ChangeShapes Go.WideShapes Go.ChangeAt Go.RowKit Go.Joins
open Go.ChangeMaps (open_string shut_string)

/-- The tokens of a call: what they stand for; nothing more is told of them. -/
@[reducible] def plain (l : List Value) (h : (l.all fun v => sortOf v == 0) = true) : Env := factEnv l h [] (by intro f h; cases h)

theorem tab4_ok [Env] : TabOk Tryz.prog (tabOf tree [(22, primTrue)]) := tabOk_of tree_ok ⟨⟨woken22, primTrue_local⟩, trivial⟩

section
variable (k s n o : Int) (s1 s2 : ByteArray) (m : Int) (a : Option Addr) (len cap : Nat)

theorem run4 : okRun (@funcA (plain [.int .i64 k, .int .i64 s, .int .i64 n, .int .i64 o, .string s1, .string s2, .int .u64 m, .slice a len cap] rfl) (tabOf tree [(22, primTrue)]) 1000 4 [.agg [.tok 0, .tok 1, .tok 2, .tok 3, .tok 4, .tok 5, .tok 6, .tok 7]] h0) = true := by kernel_rfl

theorem walk4 (w : World) : Calls Tryz.prog 4 #[.agg #[.int .i64 k, .int .i64 s, .int .i64 n, .int .i64 o, .string s1, .string s2, .int .u64 m, .slice a len cap]] w fun e w' => e = .returned (.bool true) ∧ Below w.heap.size w w' := by
  letI E := plain [.int .i64 k, .int .i64 s, .int .i64 n, .int .i64 o, .string s1, .string s2, .int .u64 m, .slice a len cap] rfl
  have ha : VRels rho0 [.agg [.tok 0, .tok 1, .tok 2, .tok 3, .tok 4, .tok 5, .tok 6, .tok 7]] [.agg #[.int .i64 k, .int .i64 s, .int .i64 n, .int .i64 o, .string s1, .string s2, .int .u64 m, .slice a len cap]] := by
    simp only [VRels, VRel]
    exact ⟨_, _, ⟨[.int .i64 k, .int .i64 s, .int .i64 n, .int .i64 o, .string s1, .string s2, .int .u64 m, .slice a len cap], ⟨_, _, rfl, ⟨_, _, rfl, ⟨_, _, rfl, ⟨_, _, rfl, ⟨_, _, rfl, ⟨_, _, rfl, ⟨_, _, rfl, ⟨_, _, rfl, rfl, rfl⟩, rfl⟩, rfl⟩, rfl⟩, rfl⟩, rfl⟩, rfl⟩, rfl⟩, rfl⟩, rfl, rfl⟩
  exact (run_true (func_ok mixed tab4_ok 1000 4) ha (run4 k s n o s1 s2 m a len cap) w).2
end

set_option maxRecDepth 100000 in
theorem lifted4 (os : Os) (started : os.Started) (H : Type) (enc : TypeId × Value → H) :
    ReturnsInHanded {} Tryz.checked os 4 .any (Rows.watchNilSpec.pre6 enc Tryz.prog Tryz.f4 Rows.watchNilRow.domain false) (Rows.watchNilSpec.post enc Tryz.prog Tryz.f4 false true false false) := by
  refine returnsInHanded_of_change (C := Tryz.checked) own started (by kernel_rfl) Tryz.func4
    (ChangeSpec.witness6 (enc := enc) (C := Tryz.checked) false ⟨#[], #[.agg #[.int .i64 0, .int .i64 0, .int .i64 0, .int .i64 0, .string ⟨#[]⟩, .string ⟨#[]⟩, .int .u64 0, .slice none 0 0]], []⟩ 8 (by kernel_rfl) (by kernel_rfl) (by kernel_rfl) (by kernel_rfl)) ?_
  intro W base args ds gs before hval0 hW hcnd _
  have hval : ∀ (j : Nat) t v, Tryz.f4.params[j]? = some t → args[j]? = some v → Value.okWide Tryz.prog W .any base t v := hval0
  have hW' := hW
  obtain ⟨p, q, hA0, hV, rfl, hfz, hnd⟩ := hW
  have hA : DataW.TrodAll enc Tryz.prog W 0 (fun _ => true) true Tryz.f4.params.toList args.toList ds p := hA0
  rw [Tryz.params4] at hA hval
  obtain ⟨v0, vs0, d0, ds0, p0, q0, hargs, rfl, rfl, h0, r0⟩ := trodAll_cons hA
  obtain ⟨rfl, rfl, rfl⟩ := trodAll_nil r0
  obtain rfl : args = #[v0] := by cases args; simp_all
  obtain ⟨rfl, rfl⟩ := trodVars_none hV
  have k0 := h0
  have lt0 : ∀ x ∈ p0, x.block < W.heap.size := by obtain ⟨m, hm⟩ := k0; exact DataW.trod_lt m _ _ _ hm
  obtain ⟨a0, a1, a2, a3, a4, a5, a6, a7, a8, a9, rfl⟩ := step_form (hval 0 29 v0 rfl rfl)
  clear hA0 hval0
  refine (walk4 a0 a1 a2 a3 a4 a5 a6 a7 a8 a9 W).mono fun e W' ⟨he, bel⟩ => ?_
  subst he
  exact ⟨_, rfl, _, _, _, [], _, [], hW', trodAll_mk1 (shut_bool Tryz.underlying4 _), (trodAll_cons_mk (Below.trod laidOut (by kernel_rfl) (of_decide_eq_true (by kernel_rfl)) k0 bel lt0) trodAll_mk0), rfl, bel.frame _, fun h => by cases h⟩

theorem inPlace4 : (Rows.watchNilRow.inPlace == Tryz.prog.inPlace 4) = true := by kernel_rfl
theorem unfollowed4 : (Rows.watchNilRow.unfollowed == Tryz.prog.unfollowed 4) = true := by kernel_rfl
theorem recurses4 : (Rows.watchNilRow.recurses == Tryz.prog.recurses 4) = true := by kernel_rfl
theorem named4 : (Rows.watchNilRow.named == Tryz.prog.varsNamed 4) = true := by kernel_rfl

theorem closed4 : joinedFacts Tryz.prog 4 Tryz.f4 Rows.watchNilSpec Rows.watchNilRow = true := by
  unfold joinedFacts
  rw [laidOut, mapsOk, inPlace4, unfollowed4, recurses4, named4]
  kernel_rfl

theorem watchNil : Rows.WatchNilSaid :=
  OpenClaim.holds_of_wide 4 Tryz.f4 rfl rfl rfl rfl rfl rfl rfl ⟨rfl, rfl, rfl, rfl, rfl⟩ rfl rfl rfl rfl rfl (by kernel_rfl) Tryz.func4 closed4
    (of_decide_eq_true (by kernel_rfl)) (by unfold Func.isWrapper; first | (rw [if_pos (by decide +kernel)]; kernel_rfl) | (rw [if_neg (by decide +kernel)]; exact ⟨rfl, rfl⟩))
    (fun os started H enc _ => lifted4 os started H enc)

end Go.Proofs.YtjoemiadbccljaaGreat
