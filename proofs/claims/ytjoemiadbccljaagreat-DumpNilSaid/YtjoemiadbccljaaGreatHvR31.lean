/- DumpNil: the law is true at every text: of no watch nothing is told. -/
import Derived.Test.YtjoemiadbccljaaGreatHvRO
import Derived.Test.YtjoemiadbccljaaGreatHvWK
import Derived.Test.YtjoemiadbccljaaGreatHvP5
set_option maxRecDepth 100000
namespace Go.Proofs.YtjoemiadbccljaaGreat
open Go Go.Hv Go.Hv.Tryz Go.ChangeShapes Go.WideShapes Go.ChangeAt Go.RowKit Go.Joins
open Go.ChangeMaps (open_string shut_string)

/-- The tokens of a call: what they stand for; nothing more is told of them. -/
@[reducible] def plain (l : List Value) (h : (l.all fun v => sortOf v == 0) = true) : Env := factEnv l h [] (by intro f h; cases h)

theorem tab6_ok [Env] : TabOk Tryz.prog (tabOf tree [(40, primTrue)]) := tabOk_of tree_ok ⟨⟨woken40, primTrue_local⟩, trivial⟩

section
variable (s : ByteArray)

theorem run6 : okRun (@funcA (plain [.string s] rfl) (tabOf tree [(40, primTrue)]) 1000 6 [.tok 0] h0) = true := by kernel_rfl

theorem walk6 (w : World) : Calls Tryz.prog 6 #[.string s] w fun e w' => e = .returned (.bool true) ∧ Below w.heap.size w w' := by
  letI E := plain [.string s] rfl
  have ha : VRels rho0 [.tok 0] [.string s] := by
    simp only [VRels, VRel]
    exact ⟨_, _, rfl, rfl, rfl⟩
  exact (run_true (func_ok mixed tab6_ok 1000 6) ha (run6 s) w).2
end

set_option maxRecDepth 100000 in
theorem lifted6 (os : Os) (started : os.Started) (H : Type) (enc : TypeId × Value → H) :
    ReturnsInHanded {} Tryz.checked os 6 .any (Rows.dumpNilSpec.pre6 enc Tryz.prog Tryz.f6 Rows.dumpNilRow.domain false) (Rows.dumpNilSpec.post enc Tryz.prog Tryz.f6 false true false false) := by
  refine returnsInHanded_of_change (C := Tryz.checked) own started (by kernel_rfl) Tryz.func6
    (ChangeSpec.witness6 (enc := enc) (C := Tryz.checked) false ⟨#[], #[.string ⟨#[]⟩], []⟩ 8 (by kernel_rfl) (by kernel_rfl) (by kernel_rfl) (by kernel_rfl)) ?_
  intro W base args ds gs before hval0 hW hcnd _
  have hval : ∀ (j : Nat) t v, Tryz.f6.params[j]? = some t → args[j]? = some v → Value.okWide Tryz.prog W .any base t v := hval0
  have hW' := hW
  obtain ⟨p, q, hA0, hV, rfl, hfz, hnd⟩ := hW
  have hA : DataW.TrodAll enc Tryz.prog W 0 (fun _ => true) true Tryz.f6.params.toList args.toList ds p := hA0
  rw [Tryz.params6] at hA hval
  obtain ⟨v0, vs0, d0, ds0, p0, q0, hargs, rfl, rfl, h0, r0⟩ := trodAll_cons hA
  obtain ⟨rfl, rfl, rfl⟩ := trodAll_nil r0
  obtain rfl : args = #[v0] := by cases args; simp_all
  obtain ⟨rfl, rfl⟩ := trodVars_none hV
  have k0 := h0
  have lt0 : ∀ x ∈ p0, x.block < W.heap.size := by obtain ⟨m, hm⟩ := k0; exact DataW.trod_lt m _ _ _ hm
  obtain ⟨a0, rfl⟩ := okWide_string Tryz.underlying9 (hval 0 9 v0 rfl rfl)
  clear hA0 hval0
  refine (walk6 a0 W).mono fun e W' ⟨he, bel⟩ => ?_
  subst he
  exact ⟨_, rfl, _, _, _, [], _, [], hW', trodAll_mk1 (shut_bool Tryz.underlying4 _), (trodAll_cons_mk (Below.trod laidOut (by kernel_rfl) (of_decide_eq_true (by kernel_rfl)) k0 bel lt0) trodAll_mk0), rfl, bel.frame _, fun h => by cases h⟩

theorem inPlace6 : (Rows.dumpNilRow.inPlace == Tryz.prog.inPlace 6) = true := by kernel_rfl
theorem unfollowed6 : (Rows.dumpNilRow.unfollowed == Tryz.prog.unfollowed 6) = true := by kernel_rfl
theorem recurses6 : (Rows.dumpNilRow.recurses == Tryz.prog.recurses 6) = true := by kernel_rfl
theorem named6 : (Rows.dumpNilRow.named == Tryz.prog.varsNamed 6) = true := by kernel_rfl

theorem closed6 : joinedFacts Tryz.prog 6 Tryz.f6 Rows.dumpNilSpec Rows.dumpNilRow = true := by
  unfold joinedFacts
  rw [laidOut, mapsOk, inPlace6, unfollowed6, recurses6, named6]
  kernel_rfl

theorem dumpNil : Rows.DumpNilSaid :=
  OpenClaim.holds_of_wide 6 Tryz.f6 rfl rfl rfl rfl rfl rfl rfl ⟨rfl, rfl, rfl, rfl, rfl⟩ rfl rfl rfl rfl rfl (by kernel_rfl) Tryz.func6 closed6
    (of_decide_eq_true (by kernel_rfl)) (by unfold Func.isWrapper; first | (rw [if_pos (by decide +kernel)]; kernel_rfl) | (rw [if_neg (by decide +kernel)]; exact ⟨rfl, rfl⟩))
    (fun os started H enc _ => lifted6 os started H enc)

end Go.Proofs.YtjoemiadbccljaaGreat
