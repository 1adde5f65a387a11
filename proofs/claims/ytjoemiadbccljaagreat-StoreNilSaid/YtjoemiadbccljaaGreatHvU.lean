/- The instructions together; a region in the order of the text. -/
import Derived.Test.YtjoemiadbccljaaGreatHvT2
import Derived.Test.YtjoemiadbccljaaGreatHvV
import Derived.Orders
import Derived.LoopN
namespace Go.Hv
open Go
variable [Env]

section
variable {P : Program} {o : Oper} {i : IOp} {call : Caller} {ts : List AVal} {v : AVal} {h h' : Heap} {ρ : Ren} {w : World} {a : Act}

theorem cbuiltin_ok {b : Builtin} {c : Call} {xs : List Opd} (ho : o.op = .call c) (hcal : c.callee = .builtin b) (hxs : copds c.args.toList = some xs) (hc : cbuiltin P b c.argTypes.toList xs = some i) : OpOk P o i := by
  generalize hts : c.argTypes.toList = tl at hc
  cases b <;> (try (simp [cbuiltin] at hc; done))
  case append =>
    match tl, xs, hc with
    | [t, t2], [x, y], hc => exact ok_append ho hcal hts hxs hc
    | [], _, hc => simp [cbuiltin] at hc
    | [_], _, hc => simp [cbuiltin] at hc
    | _ :: _ :: _ :: _, _, hc => simp [cbuiltin] at hc
    | [_, _], [], hc => simp [cbuiltin] at hc
    | [_, _], [_], hc => simp [cbuiltin] at hc
    | [_, _], _ :: _ :: _ :: _, hc => simp [cbuiltin] at hc
  case clear =>
    match tl, xs, hc with
    | [t], [x], hc => exact ok_clear ho hcal hts hxs hc
    | [], _, hc => simp [cbuiltin] at hc
    | _ :: _ :: _, _, hc => simp [cbuiltin] at hc
    | [_], [], hc => simp [cbuiltin] at hc
    | [_], _ :: _ :: _, hc => simp [cbuiltin] at hc
  case copy =>
    match tl, xs, hc with
    | [t, t2], [x, y], hc => exact ok_copy ho hcal hts hxs hc
    | [], _, hc => simp [cbuiltin] at hc
    | [_], _, hc => simp [cbuiltin] at hc
    | _ :: _ :: _ :: _, _, hc => simp [cbuiltin] at hc
    | [_, _], [], hc => simp [cbuiltin] at hc
    | [_, _], [_], hc => simp [cbuiltin] at hc
    | [_, _], _ :: _ :: _ :: _, hc => simp [cbuiltin] at hc
  case delete =>
    match tl, xs, hc with
    | [t, t2], [x, y], hc => exact ok_delete ho hcal hts hxs hc
    | [], _, hc => simp [cbuiltin] at hc
    | [_], _, hc => simp [cbuiltin] at hc
    | _ :: _ :: _ :: _, _, hc => simp [cbuiltin] at hc
    | [_, _], [], hc => simp [cbuiltin] at hc
    | [_, _], [_], hc => simp [cbuiltin] at hc
    | [_, _], _ :: _ :: _ :: _, hc => simp [cbuiltin] at hc
  case len =>
    match tl, xs, hc with
    | [t], [x], hc => exact ok_len ho hcal hts hxs hc
    | [], _, hc => simp [cbuiltin] at hc
    | _ :: _ :: _, _, hc => simp [cbuiltin] at hc
    | [_], [], hc => simp [cbuiltin] at hc
    | [_], _ :: _ :: _, hc => simp [cbuiltin] at hc
  case max => exact ok_max ho hcal hxs hc
  case min => exact ok_min ho hcal hxs hc

theorem cop_ok (hc : cop? P o = some i) (hn : ∀ c, o.op ≠ .call c) : OpOk P o i := by
  cases hop : o.op with
  | move x => exact ok_move (.inl hop) hc
  | assign x => exact ok_move (.inr hop) hc
  | pick c x y => exact ok_pick hop hc
  | alloc e => exact ok_alloc hop hc
  | box e x => exact ok_box hop hc
  | build t ps => exact ok_build hop hc
  | buildSlice t n ps => exact ok_buildSlice hop hc
  | load t x => exact ok_load hop hc
  | store t x y => exact ok_store hop hc
  | nilCheck x => exact ok_nilck hop hc
  | binOp op t x y t' => exact ok_binOp hop hc
  | unOp op t x => exact ok_un hop hc
  | convert s d x => exact ok_convert hop hc
  | makeFunc fn fs cs => exact ok_makeFunc hop hc
  | makeMap t r => exact ok_makeMap hop hc
  | makeSlice t l c => exact ok_makeSlice hop hc
  | slice t x lo hi mx => exact ok_slice hop hc
  | fieldAddr s x f => exact ok_fieldAddr hop hc
  | field s x f => exact ok_field hop hc
  | indexAddr t x j => exact ok_indexAddr hop hc
  | index t x j => exact ok_index hop hc
  | lookup t m x ok => exact ok_lookup hop hc
  | mapUpdate t m x y => exact ok_mapUpdate (.inl hop) hc
  | insert t m x y => exact ok_mapUpdate (.inr hop) hc
  | extract x k => exact ok_extract hop hc
  | range t x => exact ok_range hop hc
  | next x s => exact ok_next hop hc
  | entry x => exact ok_entry hop hc
  | call c => exact absurd hop (hn c)
  | _ => simp [cop?, hop] at hc

/-- What holds of a call, of one function. -/
def CallOk (P : Program) (f : FuncId) (m : List AVal → M AVal) : Prop :=
  ∀ (args : List AVal) (v : AVal) (h h' : Heap) (ρ : Ren) (w : World) (Args : List Value), m args h = some (v, h') → HRel ρ h.get w → Free ρ h.next h'.next → VRels ρ args Args →
    h.next ≤ h'.next ∧ (∃ fn, P.funcs[f]? = some fn ∧ (fn.name == "runtime.NumGoroutine") = false ∧ fn.body.isNone = false) ∧
    Calls P f Args.toArray w fun e w' => ∃ V ρ', e = .returned V ∧ Goes h.next h'.next ρ h.get w ρ' h'.get w' ∧ VRel ρ' v V

def CallerOk (P : Program) (call : Caller) : Prop := ∀ f, CallOk P f (call f)

omit [Env] in
theorem run_enter {f : FuncId} {fn : Func} {args : Array Value} (hf : P.funcs[f]? = some fn) (hn : (fn.name == "runtime.NumGoroutine") = false) (hb : fn.body.isNone = false) : (callFunc f args).run P w = .ok (.enter f args) w := by
  have h1 : fn.name ≠ "runtime.NumGoroutine" := by simpa using hn
  have h2 : fn.body ≠ none := by intro e; rw [e] at hb; simp at hb
  cases hb' : fn.body with
  | none => exact absurd hb' h2
  | some c => simp [callFunc, hf, h1, hb']

/-- An operation without a call, carried out. -/
theorem quiet_wp (hok : OpOk P o i) (he : i.ev call ts h = some (v, h')) (hr : HRel ρ h.get w) (hf : Free ρ h.next h'.next) (ht : TRel ρ ts a) :
    h.next ≤ h'.next ∧ ∀ (K : Act → World → Prop) (Q : Exit → Act → World → Prop), (∀ ρ' w' V, Goes h.next h'.next ρ h.get w ρ' h'.get w' → VRel ρ' v V → K (a.put o.dst V) w') → o.wp P a w K Q := by
  obtain ⟨x, ρ', w', e1, e2, e3, e4⟩ := hok call ts v h h' ρ w a he hr hf ht
  refine ⟨e2, fun K Q hK => ?_⟩
  unfold Oper.wp
  rw [e1]
  cases x with
  | value V => exact hK ρ' w' V e3 e4
  | skip =>
    simp only [NRel] at e4
    subst e4
    exact hK ρ' w' undef e3 VRel.undef
  | _ => simp [NRel] at e4

/-- A call, carried out. -/
theorem enter_wp {f : FuncId} {args : List AVal} {Args : List Value} (hcall : CallerOk P call) (he : call f args h = some (v, h')) (hr : HRel ρ h.get w) (hf : Free ρ h.next h'.next) (hargs : VRels ρ args Args)
    (hrun : (execOp a.eval o).run P w = (callFunc f Args.toArray).run P w) :
    h.next ≤ h'.next ∧ ∀ (K : Act → World → Prop) (Q : Exit → Act → World → Prop), (∀ ρ' w' V, Goes h.next h'.next ρ h.get w ρ' h'.get w' → VRel ρ' v V → K (a.put o.dst V) w') → o.wp P a w K Q := by
  obtain ⟨e1, ⟨fn, e2, e3, e4⟩, e5⟩ := hcall f args v h h' ρ w Args he hr hf hargs
  refine ⟨e1, fun K Q hK => ?_⟩
  unfold Oper.wp
  rw [hrun, run_enter e2 e3 e4]
  simp only [Oper.upon]
  refine e5.mono ?_
  rintro e w' ⟨V, ρ', rfl, h1, h2⟩
  exact hK ρ' w' V h1 h2

/-- An operation that is carried out. -/
theorem oper_wp (hcall : CallerOk P call) (he : (cop P o).ev call ts h = some (v, h')) (hr : HRel ρ h.get w) (hf : Free ρ h.next h'.next) (ht : TRel ρ ts a) :
    h.next ≤ h'.next ∧ ∀ (K : Act → World → Prop) (Q : Exit → Act → World → Prop), (∀ ρ' w' V, Goes h.next h'.next ρ h.get w ρ' h'.get w' → VRel ρ' v V → K (a.put o.dst V) w') → o.wp P a w K Q := by
  cases hc : cop? P o with
  | none => simp [cop, hc, IOp.ev] at he; exact (fail_some he).elim
  | some i =>
    have hci : cop P o = i := by simp [cop, hc]
    rw [hci] at he
    by_cases hno : ∃ c, o.op = .call c
    case neg => exact quiet_wp (cop_ok hc (fun c e => hno ⟨c, e⟩)) he hr hf ht
    obtain ⟨c, hop⟩ := hno
    simp only [cop?, hop, ccall] at hc
    split at hc
    · cases hc
    · rename_i xs hxs
      have hargs := args_rel ht hxs
      split at hc
      · rename_i b hb
        exact quiet_wp (cbuiltin_ok hop hb hxs hc) he hr hf ht
      · rename_i f hff
        split at hc
        · cases hc
        · rename_i fn hfn
          split at hc
          · cases hc
          · rename_i hname
            split at hc
            · rename_i hbody
              split at hc
              · rename_i horig
                exact quiet_wp (ok_atomic hop hff hfn (by simpa using hname) hbody horig hxs hc) he hr hf ht
              · cases hc
            · simp at hc; subst hc
              simp only [IOp.ev] at he
              refine enter_wp hcall he hr hf hargs ?_
              rw [run_extern hop hff]
      · rename_i g hg1 hg2
        simp at hc
        obtain ⟨gx, hgx, rfl⟩ := hc
        have hg := copd_rel ht hgx
        simp only [IOp.ev] at he
        generalize gx.ev ts = cg at he hg
        unfold callVA at he
        cases cg with
        | func fn first captured =>
          cases fn with
          | func f =>
            simp only [VRel] at hg
            obtain ⟨F, C, g1, g2, g3⟩ := hg
            refine enter_wp hcall he hr hf ((g1.append hargs).append g2) ?_
            have harr : (F ++ (c.args.map a.eval).toList ++ C).toArray = F.toArray ++ c.args.map a.eval ++ C.toArray := by
              apply Array.ext'; simp
            rw [harr]
            simp [execOp, hop, resolve, hg2, invoke, Deferred.ofValue, g3]
          | _ => exact (fail_some he).elim
        | _ => exact (fail_some he).elim
      · cases hc

/-! Guards, slots. -/

theorem bool_inv {x : AVal} {b : Bool} (hx : VRel ρ x (.bool b)) : x = .bool b := by
  cases x with
  | bool => simp only [VRel] at hx; cases hx; rfl
  | int => simp only [VRel] at hx; cases hx
  | str => simp only [VRel] at hx; cases hx
  | ptr p => rcases p with _ | ⟨k, j⟩ <;> simp [VRel] at hx
  | slice p n c op => rcases p with _ | ⟨k, j⟩ <;> cases op <;> simp [VRel] at hx
  | eslice => simp [VRel] at hx
  | map r => cases r <;> simp [VRel] at hx
  | func => simp [VRel] at hx
  | nilFunc => simp [VRel] at hx
  | iface => simp [VRel] at hx
  | nilIface => simp [VRel] at hx
  | agg => simp [VRel] at hx
  | tuple => simp [VRel] at hx
  | tok n =>
    simp only [VRel] at hx
    have := Env.sort n
    rw [← hx] at this
    simp [sortOf] at this

theorem wanted_eq {ops : Array Oper} {g : Option (Nat × Bool)} (hg : cguard ops o = some g) (ht : TRel ρ ts a) : Region.wanted o (yielded ops a.tmps) = wantedA g ts := by
  unfold cguard at hg
  unfold Region.wanted
  cases ho : o.guard with
  | none => rw [ho] at hg; simp at hg; subst hg; rfl
  | some p =>
    obtain ⟨j, want⟩ := p
    rw [ho] at hg
    simp only at hg
    cases hd : (ops[j]?).bind (·.dst) with
    | none => rw [hd] at hg; cases hg
    | some d =>
      rw [hd] at hg
      simp at hg; subst hg
      simp only [wantedA, yielded, hd, Option.bind_some]
      have hrel := VRels.getD ht d
      have hget : a.tmps[d]? = a.tmps.toList[d]? := by simp
      cases hx : ts.getD d aundef with
      | bool b =>
        rw [hx] at hrel
        simp only [VRel] at hrel
        have : a.tmps[d]? = some (.bool b) := by
          rw [hget]
          cases hq : a.tmps.toList[d]? with
          | none => simp [List.getD, hq, undef] at hrel
          | some V => simp [List.getD, hq] at hrel; rw [hrel]
        rw [this]
        rfl
      | _ =>
        have hno : ∀ b, a.tmps[d]? ≠ some (.bool b) := by
          intro b hb
          rw [hget] at hb
          have : a.tmps.toList.getD d undef = .bool b := by simp [List.getD, hb]
          rw [this] at hrel
          have := bool_inv hrel
          rw [hx] at this
          cases this
        simp only
        cases hq : a.tmps[d]? with
        | none => rfl
        | some V =>
          cases V <;> first | rfl | (exfalso; exact hno _ hq)

theorem put_rel {dst : Option Nat} {V : Value} (ht : TRel ρ ts a) (hv : VRel ρ v V) : TRel ρ (putA ts dst v) (a.put dst V) := by
  cases dst with
  | none => exact ht
  | some d =>
    show VRels ρ (ts.set d v) (a.tmps.setIfInBounds d V).toList
    simpa using VRels.set d ht hv

omit [Env] in
theorem put_defers (dst : Option Nat) (V : Value) : (a.put dst V).defers = a.defers := by cases dst <;> rfl

/-- One operation of a region, carried out or passed by. -/
theorem step_wp {ops : Array Oper} {j : Nat} {oi : IOper} {ts' : List AVal} (hcall : CallerOk P call) (hj : ops[j]? = some o) (hc : coper P ops o = some oi) (he : oi.step call ts h = some (ts', h')) (hr : HRel ρ h.get w)
    (hf : Free ρ h.next h'.next) (ht : TRel ρ ts a) :
    h.next ≤ h'.next ∧ ∀ (K : Act → World → Prop) (Q : Exit → Act → World → Prop), (∀ ρ' a' w', Goes h.next h'.next ρ h.get w ρ' h'.get w' → TRel ρ' ts' a' → a'.defers = a.defers → K a' w') → wpOp P ops Q j K a w := by
  simp only [coper, Option.map_eq_some_iff] at hc
  obtain ⟨g, hg, rfl⟩ := hc
  have hwant := wanted_eq hg ht
  unfold IOper.step at he
  simp only at he
  by_cases hw : wantedA g ts = true
  · rw [if_pos hw] at he
    obtain ⟨u, h1, he1, he⟩ := bind_some he
    obtain ⟨rfl, rfl⟩ := pure_some he
    obtain ⟨e1, e2⟩ := oper_wp hcall he1 hr hf ht
    refine ⟨e1, fun K Q hK => ?_⟩
    unfold wpOp
    rw [hj]
    simp only [hwant, hw, if_true]
    refine .inl (e2 K Q fun ρ' w' V hgo hv => hK ρ' _ w' hgo (put_rel (VRels.mono (hgo.le hf) ht) hv) (put_defers _ _))
  · rw [if_neg hw] at he
    obtain ⟨rfl, rfl⟩ := pure_some he
    refine ⟨Nat.le_refl _, fun K Q hK => ?_⟩
    unfold wpOp
    rw [hj]
    have hw' : Region.wanted o (yielded ops a.tmps) = false := by rw [hwant]; simpa using hw
    simp only [hw', Bool.false_eq_true, if_false]
    exact hK ρ _ w (Goes.refl hr) (put_rel ht VRel.undef) (put_defers _ _)

omit [Env] in
theorem Free.left {n m n' : Nat} (h : Free ρ n n') (hm : m ≤ n') : Free ρ n m := fun k h1 h2 => h k h1 (by omega)
theorem Free.right {n m n' : Nat} {ρ' : Ren} {g g' : Nat → Option AObj} {w' : World} (h : Free ρ n n') (hn : n ≤ m) (hg : Goes n m ρ g w ρ' g' w') : Free ρ' m n' := fun k h1 h2 => by
  rw [hg.ext k (by omega)]; exact h k (by omega) h2

/-- A region in the order of the text. -/
theorem region_wp {ops : Array Oper} (hcall : CallerOk P call) (hloc : LocalCaller call) : ∀ (l : List Oper) (j : Nat) (l' : List IOper) (ts ts' : List AVal) (h h' : Heap) (ρ : Ren) (w : World) (a : Act),
    ops.toList.drop j = l → copers P ops l = some l' → regionA call l' ts h = some (ts', h') → HRel ρ h.get w → Free ρ h.next h'.next → TRel ρ ts a →
    h.next ≤ h'.next ∧ ∀ (Q : Exit → Act → World → Prop), (∀ ρ' a' w', Goes h.next h'.next ρ h.get w ρ' h'.get w' → TRel ρ' ts' a' → a'.defers = a.defers → Q .normal a' w') → wpOps P ops Q (List.range' j l.length) a w
  | [], j, l', ts, ts', h, h', ρ, w, a, hl, hc, he, hr, hf, ht => by
    simp [copers] at hc; subst hc
    simp only [regionA] at he
    obtain ⟨rfl, rfl⟩ := pure_some he
    exact ⟨Nat.le_refl _, fun Q hQ => hQ ρ a w (Goes.refl hr) ht rfl⟩
  | o :: l, j, l', ts, ts', h, h', ρ, w, a, hl, hc, he, hr, hf, ht => by
    simp only [copers] at hc
    split at hc <;> simp at hc
    rename_i oi r h1 h2
    subst hc
    simp only [regionA] at he
    obtain ⟨ts1, hh, he1, he2⟩ := bind_some he
    have hj : ops[j]? = some o := by
      have : (ops.toList.drop j)[0]? = some o := by rw [hl]; simp
      rw [List.getElem?_drop] at this
      simpa using this
    have hl' : ops.toList.drop (j + 1) = l := by
      have e : (ops.toList.drop j).drop 1 = (o :: l).drop 1 := by rw [hl]
      rw [List.drop_drop] at e
      simpa using e
    have m1 := (local_step hloc oi ts).mono he1
    have m2 := (local_region hloc r ts1).mono he2
    obtain ⟨s1, s2⟩ := step_wp (ops := ops) hcall hj h1 he1 hr (hf.left m2) ht
    refine ⟨Nat.le_trans m1 m2, fun Q hQ => ?_⟩
    rw [List.length_cons, List.range'_succ, wpOps_cons]
    refine s2 _ Q fun ρ1 a1 w1 hgo ht1 hd1 => ?_
    obtain ⟨_, r2⟩ := region_wp hcall hloc l (j + 1) r ts1 ts' hh h' ρ1 w1 a1 hl' h2 he2 hgo.rel (hf.right m1 hgo) ht1
    exact r2 Q fun ρ2 a2 w2 hgo2 ht2 hd2 => hQ ρ2 a2 w2 (hgo.trans m1 m2 hgo2) ht2 (hd2.trans hd1)

end
end Go.Hv
