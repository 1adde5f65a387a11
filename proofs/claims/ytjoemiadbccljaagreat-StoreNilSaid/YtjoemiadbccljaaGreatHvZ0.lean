/- Code and calls: what the evaluator reckons, the model does. -/
import Derived.Test.YtjoemiadbccljaaGreatHvY
namespace Go.Hv
open Go
variable [Env]

def exOf : Ex → Exit
  | .normal => .normal
  | .ret => .ret
  | .exit id => .exit id

/-- The functions that a run may enter are those of the program. -/
structure TabOk (P : Program) (tab : Tab) : Prop where
  code : ∀ f c, tab f = some (.code c) → ∃ fn, P.funcs[f]? = some fn ∧ cfunc P fn = some c
  prim : ∀ f m, tab f = some (.prim m) → CallOk P f m
  loc : LocalTab tab

section
variable {P : Program} {tab : Tab}

def CodeOk (P : Program) (tab : Tab) (n : Nat) : Prop :=
  ∀ (c : Code) (ts ts' : List AVal) (e : Ex) (h h' : Heap) (ρ : Ren) (w : World) (a : Act), codeA tab n (ccode P c) ts h = some ((e, ts'), h') → HRel ρ h.get w → Free ρ h.next h'.next → TRel ρ ts a →
    ∀ (Q : Exit → Act → World → Prop), (∀ ρ' a' w', Goes h.next h'.next ρ h.get w ρ' h'.get w' → TRel ρ' ts' a' → a'.defers = a.defers → Q (exOf e) a' w') → c.wp P Q a w

/-- One result variable, in the model. -/
def resV (tmps : Array Value) : ResultVar → Sem Value
  | .tmp t => pure (tmps.getD t undef)
  | .cell a t => do loadVar t (← asAddr (tmps.getD a undef))

theorem results_rel {ρ : Ren} {w : World} {a : Act} {ts : List AVal} (ht : TRel ρ ts a) : ∀ (rv : List ResultVar) (rs : List IRes) (vs : List AVal) (h h' : Heap), cress P rv = some rs → resultsA ts rs h = some (vs, h') → HRel ρ h.get w →
    h'.next = h.next ∧ h'.get = h.get ∧ ∃ Vs, (rv.mapM (resV a.tmps)).run P w = .ok Vs w ∧ VRels ρ vs Vs
  | [], rs, vs, h, h', hc, he, hr => by
    simp [cress] at hc; subst hc
    simp only [resultsA] at he
    obtain ⟨rfl, rfl⟩ := pure_some he
    exact ⟨rfl, rfl, [], by simp, VRels.nil⟩
  | .tmp t :: rv, rs, vs, h, h', hc, he, hr => by
    simp only [cress, Option.map_eq_some_iff] at hc
    obtain ⟨rs', h1, rfl⟩ := hc
    simp only [resultsA] at he
    obtain ⟨v, hh, he1, he⟩ := bind_some he
    obtain ⟨vs', hh', he2, he⟩ := bind_some he
    obtain ⟨rfl, rfl⟩ := pure_some he
    simp only [resA] at he1
    obtain ⟨rfl, rfl⟩ := pure_some he1
    obtain ⟨e1, e2, Vs, e3, e4⟩ := results_rel ht rv rs' vs' _ _ h1 he2 hr
    have hv := VRels.getD ht t
    refine ⟨e1, e2, a.tmps.toList.getD t undef :: Vs, ?_, VRels.cons hv e4⟩
    simp [List.mapM_cons, resV, e3, List.getD, Array.getD_eq_getD_getElem?]
  | .cell t ty :: rv, rs, vs, h, h', hc, he, hr => by
    simp only [cress] at hc
    split at hc <;> simp at hc
    rename_i g rs' hg h1
    subst hc
    simp only [resultsA] at he
    obtain ⟨v, hh, he1, he⟩ := bind_some he
    obtain ⟨vs', hh', he2, he⟩ := bind_some he
    obtain ⟨rfl, rfl⟩ := pure_some he
    simp only [resA] at he1
    obtain ⟨f1, f2, b, V, f3, f4, f5⟩ := loadA_rel (P := P) he1 hr (VRels.getD ht t) hg
    have hr' : HRel ρ hh.get w := by rw [f2]; exact hr
    obtain ⟨e1, e2, Vs, e3, e4⟩ := results_rel ht rv rs' vs' _ _ h1 he2 hr'
    refine ⟨by omega, by rw [e2, f2], V :: Vs, ?_, VRels.cons f5 e4⟩
    have hget : a.tmps.getD t undef = .pointer (some b) := by
      rw [← f3]; simp [List.getD, Array.getD_eq_getD_getElem?]
    simp [List.mapM_cons, resV, hget, asAddr, f4, e3]

theorem run_results {ρ : Ren} {w : World} {a : Act} {ts : List AVal} {fn : Func} {rs : List IRes} {vs : List AVal} {h h' : Heap} (ht : TRel ρ ts a) (hc : cress P fn.results.toList = some rs) (he : resultsA ts rs h = some (vs, h')) (hr : HRel ρ h.get w) :
    h'.next = h.next ∧ h'.get = h.get ∧ ∃ V, (results fn a.tmps).run P w = .ok V w ∧ VRel ρ (tupled vs) V := by
  obtain ⟨e1, e2, Vs, e3, e4⟩ := results_rel (P := P) ht _ _ _ _ _ hc he hr
  refine ⟨e1, e2, (if h : Vs.toArray.size = 1 then Vs.toArray[0] else .tuple Vs.toArray), ?_, ?_⟩
  · have hm : (fn.results.mapM (resV a.tmps)).run P w = .ok Vs.toArray w := by
      have e : fn.results = fn.results.toList.toArray := by simp
      rw [e, List.mapM_toArray, Sem.run_map, e3]
      rfl
    have hres : results fn a.tmps = (do
        let vs ← fn.results.mapM (resV a.tmps)
        pure (if h : vs.size = 1 then vs[0] else .tuple vs)) := by
      unfold results
      congr 1
    rw [hres, Sem.run_bind, hm]
    rfl
  · cases vs with
    | nil =>
      rw [VRels.nil_iff] at e4
      subst e4
      simp only [tupled, VRel, VRels]
      exact ⟨[], rfl, by simp⟩
    | cons v r =>
      obtain ⟨V, Vr, h1, h2, rfl⟩ := e4.of_cons
      cases r with
      | nil =>
        rw [VRels.nil_iff] at h2
        subst h2
        simpa [tupled] using h1
      | cons v2 r =>
        obtain ⟨V2, Vr2, h3, h4, rfl⟩ := h2.of_cons
        simp only [tupled]
        rw [dif_neg (by simp)]
        simp only [VRel]
        exact ⟨_, VRels.cons h1 (VRels.cons h3 h4), rfl⟩

theorem enter_ok {n : Nat} (tk : TabOk P tab) (hn : CodeOk P tab n) : CallerOk P (enterA tab (codeA tab n)) := by
  intro f args v h h' ρ w Args he hr hf hargs
  unfold enterA at he
  cases htab : tab f with
  | none => rw [htab] at he; exact (fail_some he).elim
  | some en =>
    rw [htab] at he
    cases en with
    | prim m => exact tk.prim f m htab args v h h' ρ w Args he hr hf hargs
    | code c =>
      obtain ⟨fn, h1, h2⟩ := tk.code f c htab
      unfold cfunc at h2
      split at h2
      case h_2 => cases h2
      rename_i body rs hb hrs
      split at h2
      · cases h2
      rename_i hname
      simp only [Option.some.injEq] at h2
      subst h2
      simp only at he
      obtain ⟨p, hh, he1, he2⟩ := bind_some he
      clear he
      obtain ⟨e, ts⟩ := p
      have m1 := (local_code tk.loc n _ _).mono he1
      simp only at he2
      have hfin : (∀ id, e ≠ .exit id) ∧ (resultsA ts rs >>= fun vs => pure (tupled vs)) hh = some (v, h') := by
        cases e with
        | exit id => exact (fail_some he2).elim
        | normal => exact ⟨by simp, he2⟩
        | ret => exact ⟨by simp, he2⟩
      obtain ⟨hex, he3⟩ := hfin
      obtain ⟨vs, hh2, he4, he5⟩ := bind_some he3
      obtain ⟨rfl, rfl⟩ := pure_some he5
      have m2 := (local_results ts rs).mono he4
      refine ⟨Nat.le_trans m1 m2, ⟨fn, h1, by simpa using hname, by simp [hb]⟩, ?_⟩
      refine calls_of_wp h1 hb ?_
      have ht : TRel ρ (args ++ List.replicate (fn.ntmps - args.length) aundef) { tmps := Args.toArray ++ Array.replicate (fn.ntmps - Args.toArray.size) undef, defers := [] } := by
        unfold TRel
        have := hargs.append (VRels.replicate (ρ := ρ) VRel.undef (fn.ntmps - args.length))
        simpa [hargs.length] using this
      refine hn body _ ts e h hh ρ w _ he1 hr (hf.left m2) ht _ fun ρ' a' w' hgo ht' hd => ?_
      obtain ⟨r1, r2, V, r3, r4⟩ := run_results (P := P) ht' hrs he4 hgo.rel
      have hpost : a'.defers = [] ∧ ∃ v, (results fn a'.tmps).run P w' = .ok v w' ∧ ∃ V ρ'', (Ending.returned v = .returned V) ∧ Goes h.next hh2.next ρ h.get w ρ'' hh2.get w' ∧ VRel ρ'' (tupled vs) V := by
        refine ⟨hd, V, r3, V, ρ', rfl, ?_, r4⟩
        rw [r1, r2]
        exact hgo
      cases e with
      | normal => exact hpost
      | ret => exact hpost
      | exit id => exact absurd rfl (hex id)

theorem code_ok (hmix : P.follows .mixedOrders = true) (tk : TabOk P tab) : ∀ n, CodeOk P tab n := by
  intro n
  induction n using Nat.strongRecOn with
  | _ n ih =>
    intro c ts ts' e h h' ρ w a he hr hf ht Q hQ
    cases n with
    | zero => simp only [codeA] at he; exact (fail_some he).elim
    | succ n =>
      have ihn := ih n (by omega)
      have hcall := enter_ok tk ihn
      have hloc : LocalCaller (enterA tab (codeA tab n)) := local_enter tk.loc (local_code tk.loc n)
      cases c with
      | skip =>
        simp only [ccode, codeA] at he
        obtain ⟨e1, rfl⟩ := pure_some he
        cases e1
        exact wp_skip (hQ ρ a w (Goes.refl hr) ht rfl)
      | ret =>
        simp only [ccode, codeA] at he
        obtain ⟨e1, rfl⟩ := pure_some he
        cases e1
        exact wp_ret (hQ ρ a w (Goes.refl hr) ht rfl)
      | exit id =>
        simp only [ccode, codeA] at he
        obtain ⟨e1, rfl⟩ := pure_some he
        cases e1
        exact wp_exit (hQ ρ a w (Goes.refl hr) ht rfl)
      | region id ops d =>
        simp only [ccode] at he
        cases d with
        | false =>
          simp only [Bool.false_eq_true, if_false] at he
          cases hc : copers P ops ops.toList with
          | none => rw [hc] at he; simp only [codeA] at he; exact (fail_some he).elim
          | some l =>
            rw [hc] at he
            simp only [codeA] at he
            obtain ⟨ts1, hh, he1, he2⟩ := bind_some he
            obtain ⟨e1, rfl⟩ := pure_some he2
            cases e1
            obtain ⟨_, hw⟩ := region_wp hcall hloc ops.toList 0 l ts _ h hh ρ w a (by simp) hc he1 hr hf ht
            refine wp_region ?_
            have := hw Q hQ
            simpa [List.range_eq_range'] using this
        | true =>
          simp only [if_true] at he
          cases hc : cdraw P ops with
          | none => rw [hc] at he; simp only [Option.getD_none, codeA] at he; exact (fail_some he).elim
          | some ic =>
            rw [hc] at he
            unfold cdraw at hc
            simp only at hc
            split at hc
            · rename_i l hl
              split at hc
              · rename_i hcond
                simp only [Option.some.injEq] at hc
                subst hc
                simp only [Bool.and_eq_true, beq_iff_eq] at hcond
                simp only [Option.getD_some, codeA] at he
                obtain ⟨ts1, hh, he1, he2⟩ := bind_some he
                obtain ⟨e1, rfl⟩ := pure_some he2
                cases e1
                obtain ⟨_, hw⟩ := draw_wp hmix hcall hloc hl hcond.1.2 hcond.2 he1 hr hf ht
                exact hw id Q hQ
              · cases hc
            · cases hc
      | seq x y =>
        simp only [ccode, codeA] at he
        obtain ⟨p, hh, he1, he2⟩ := bind_some he
        clear he
        obtain ⟨e1, ts1⟩ := p
        have m1 := (local_code tk.loc n _ _).mono he1
        refine wp_seq ?_
        cases e1 with
        | normal =>
          simp only at he2
          have m2 := (local_code tk.loc n _ _).mono he2
          refine ihn x ts ts1 .normal h hh ρ w a he1 hr (hf.left m2) ht _ fun ρ1 a1 w1 hgo ht1 hd1 => ?_
          refine ihn y ts1 ts' e hh h' ρ1 w1 a1 he2 hgo.rel (hf.right m1 hgo) ht1 Q fun ρ2 a2 w2 hgo2 ht2 hd2 => ?_
          exact hQ ρ2 a2 w2 (hgo.trans m1 m2 hgo2) ht2 (hd2.trans hd1)
        | ret =>
          obtain ⟨e2, rfl⟩ := pure_some he2
          cases e2
          exact ihn x ts _ .ret h hh ρ w a he1 hr hf ht _ fun ρ1 a1 w1 hgo ht1 hd1 => hQ ρ1 a1 w1 hgo ht1 hd1
        | exit id =>
          obtain ⟨e2, rfl⟩ := pure_some he2
          cases e2
          exact ihn x ts _ (.exit id) h hh ρ w a he1 hr hf ht _ fun ρ1 a1 w1 hgo ht1 hd1 => hQ ρ1 a1 w1 hgo ht1 hd1
      | cond x y z =>
        simp only [ccode] at he
        cases hc : copd x with
        | none => rw [hc] at he; simp only [codeA] at he; exact (fail_some he).elim
        | some x' =>
          rw [hc] at he
          simp only [codeA] at he
          have hx := copd_rel ht hc
          generalize x'.ev ts = cx at he hx
          cases cx with
          | bool b =>
            simp only [VRel] at hx
            cases b with
            | true => exact wp_cond_true hx (ihn y ts ts' e h h' ρ w a he hr hf ht Q hQ)
            | false => exact wp_cond_false hx (ihn z ts ts' e h h' ρ w a he hr hf ht Q hQ)
          | _ => exact (fail_some he).elim
      | block id x =>
        simp only [ccode, codeA] at he
        obtain ⟨p, hh, he1, he2⟩ := bind_some he
        clear he
        obtain ⟨e1, ts1⟩ := p
        refine wp_block ?_
        cases e1 with
        | normal =>
          obtain ⟨e2, rfl⟩ := pure_some he2
          cases e2
          exact ihn x ts _ .normal h hh ρ w a he1 hr hf ht _ fun ρ1 a1 w1 hgo ht1 hd1 => hQ ρ1 a1 w1 hgo ht1 hd1
        | ret =>
          obtain ⟨e2, rfl⟩ := pure_some he2
          cases e2
          exact ihn x ts _ .ret h hh ρ w a he1 hr hf ht _ fun ρ1 a1 w1 hgo ht1 hd1 => hQ ρ1 a1 w1 hgo ht1 hd1
        | exit i =>
          simp only at he2
          by_cases hi : i = id
          · rw [if_pos hi] at he2
            obtain ⟨e2, rfl⟩ := pure_some he2
            cases e2
            exact ihn x ts _ (.exit i) h hh ρ w a he1 hr hf ht _ fun ρ1 a1 w1 hgo ht1 hd1 => by
              simp only [exOf, Exit.inBlock, hi, if_true]
              exact hQ ρ1 a1 w1 hgo ht1 hd1
          · rw [if_neg hi] at he2
            obtain ⟨e2, rfl⟩ := pure_some he2
            cases e2
            exact ihn x ts _ (.exit i) h hh ρ w a he1 hr hf ht _ fun ρ1 a1 w1 hgo ht1 hd1 => by
              simp only [exOf, Exit.inBlock, hi, if_false]
              exact hQ ρ1 a1 w1 hgo ht1 hd1
      | loop x =>
        have hrounds : ∀ m, m ≤ n + 1 → ∀ (ts ts' : List AVal) (e : Ex) (h h' : Heap) (ρ : Ren) (w : World) (a : Act), codeA tab m (.loop (ccode P x)) ts h = some ((e, ts'), h') → HRel ρ h.get w → Free ρ h.next h'.next → TRel ρ ts a →
            ∀ (Q : Exit → Act → World → Prop), (∀ ρ' a' w', Goes h.next h'.next ρ h.get w ρ' h'.get w' → TRel ρ' ts' a' → a'.defers = a.defers → Q (exOf e) a' w') → Code.rounds P x Q m a w := by
          intro m
          induction m with
          | zero => intro _ ts ts' e h h' ρ w a he; simp only [codeA] at he; exact (fail_some he).elim
          | succ m ihm =>
            intro hm ts ts' e h h' ρ w a he hr hf ht Q hQ
            simp only [codeA] at he
            obtain ⟨p, hh, he1, he2⟩ := bind_some he
            clear he
            obtain ⟨e1, ts1⟩ := p
            have m1 := (local_code tk.loc m _ _).mono he1
            rw [rounds_succ]
            have ihx := ih m (by omega)
            cases e1 with
            | normal =>
              simp only at he2
              have m2 := (local_code tk.loc m _ _).mono he2
              refine ihx x ts ts1 .normal h hh ρ w a he1 hr (hf.left m2) ht _ fun ρ1 a1 w1 hgo ht1 hd1 => ?_
              exact ihm (by omega) ts1 ts' e hh h' ρ1 w1 a1 he2 hgo.rel (hf.right m1 hgo) ht1 Q fun ρ2 a2 w2 hgo2 ht2 hd2 => hQ ρ2 a2 w2 (hgo.trans m1 m2 hgo2) ht2 (hd2.trans hd1)
            | ret =>
              obtain ⟨e2, rfl⟩ := pure_some he2
              cases e2
              exact ihx x ts _ .ret h hh ρ w a he1 hr hf ht _ fun ρ1 a1 w1 hgo ht1 hd1 => hQ ρ1 a1 w1 hgo ht1 hd1
            | exit id =>
              obtain ⟨e2, rfl⟩ := pure_some he2
              cases e2
              exact ihx x ts _ (.exit id) h hh ρ w a he1 hr hf ht _ fun ρ1 a1 w1 hgo ht1 hd1 => hQ ρ1 a1 w1 hgo ht1 hd1
        simp only [ccode] at he
        exact wp_loop_rounds (n + 1) (hrounds (n + 1) (Nat.le_refl _) ts ts' e h h' ρ w a he hr hf ht Q hQ)
      | _ => simp only [ccode, codeA] at he; exact (fail_some he).elim

/-- WHAT IS RECKONED HAPPENS: a call that the evaluator carries out. -/
theorem func_ok (hmix : P.follows .mixedOrders = true) (tk : TabOk P tab) (n : Nat) : CallerOk P (funcA tab n) := enter_ok tk (code_ok hmix tk n)

end
end Go.Hv
