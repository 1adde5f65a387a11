/- Each instruction does what the model's operation does: maps. -/
import Derived.Test.YtjoemiadbccljaaGreatHvL
namespace Go.Hv
open Go
variable [Env]

section
variable {P : Program} {o : Oper} {i : IOp} {call : Caller} {ts : List AVal} {v : AVal} {h h' : Heap} {ρ : Ren} {w : World} {a : Act}

theorem ERels.length {ρ : Ren} : ∀ {es : List (AVal × AVal)} {Es : List MapEntry}, ERels ρ es Es → Es.length = es.length
  | [], _, h => by simp only [ERels] at h; subst h; rfl
  | (_, _) :: _, _, ⟨_, _, _, _, h3, rfl⟩ => by simp [ERels.length h3]

/-- What is found, in the model's words. -/
def FRel (ρ : Ren) : Option (Nat × AVal) → Option (Nat × Value) → Prop
  | none, none => True
  | some (i, v), some (j, V) => i = j ∧ VRel ρ v V
  | _, _ => False

theorem sameNow_eq {kt : TypeId} {d : TypeDesc} {k : EqK} {x y : AVal} {X Y : Value} {b b' : Bool} (hu : P.underlying kt = some d) (hk : eqKT P 5 kt = some k) (he : eqA k x y h = some (b, h')) (hx : VRel ρ x X) (hy : VRel ρ y Y)
    (hs : Instr.sameNow d X Y = some b') : b = b' := by
  unfold Instr.sameNow at hs
  split at hs
  · have : k = .int := by simp [eqKT, hu] at hk; exact hk.symm
    subst this
    simp only [eqA] at he
    unfold eqInt at he
    split at he
    · simp only [VRel] at hx hy
      cases hx; cases hy
      split at he
      · rename_i hkk
        obtain ⟨rfl, _⟩ := pure_some he
        rw [if_pos hkk] at hs
        simpa using hs
      · exact (fail_some he).elim
    · exact (fail_some he).elim
  · have : k = .str := by simp [eqKT, hu] at hk; exact hk.symm
    subst this
    simp only [eqA] at he
    unfold eqStr at he
    split at he
    · simp only [VRel] at hx hy
      cases hx; cases hy
      obtain ⟨rfl, _⟩ := pure_some he
      simp only [Option.some.injEq] at hs
      rw [← hs, beq_toListBytes, toList_mk, toList_mk]
    · exact (fail_some he).elim
  · have : k = .bool := by simp [eqKT, hu] at hk; exact hk.symm
    subst this
    simp only [eqA] at he
    unfold eqBool at he
    split at he
    · simp only [VRel] at hx hy
      cases hx; cases hy
      obtain ⟨rfl, _⟩ := pure_some he
      simpa using hs
    · exact (fail_some he).elim
  · cases hs

theorem findA_run {kt : TypeId} {k : EqK} {x : AVal} {X : Value} (hk : eqKT P 5 kt = some k) (hx : VRel ρ x X) : ∀ (es : List (AVal × AVal)) (Es : List MapEntry) (j : Nat) (h h' : Heap) (r : Option (Nat × AVal)),
    findA k x es j h = some (r, h') → HRel ρ h.get w → ERels ρ es Es →
    h'.next = h.next ∧ h'.get = h.get ∧ ∃ R, FRel ρ r R ∧ (Instr.findAsking kt X Es j).run P w = .ok R w ∧ ∀ d S, P.underlying kt = some d → Instr.findNow d X Es j = some S → S = R
  | [], Es, j, h, h', r, he, hr, hE => by
    simp only [ERels] at hE; subst hE
    simp only [findA] at he
    obtain ⟨rfl, rfl⟩ := pure_some he
    refine ⟨rfl, rfl, none, trivial, by simp [Instr.findAsking], fun d S _ hS => ?_⟩
    simp [Instr.findNow] at hS
    exact hS.symm
  | (y, v) :: es, Es, j, h, h', r, he, hr, hE => by
    obtain ⟨E, Rs, e1, e2, e3, rfl⟩ := hE
    simp only [findA] at he
    obtain ⟨b, h1, he1, he⟩ := bind_some he
    obtain ⟨s1, s2, s3⟩ := eqA_run 5 kt k x y X E.key b h h1 w 10000 hk (by omega) he1 hr hx e1
    cases b with
    | true =>
      obtain ⟨rfl, rfl⟩ := pure_some he
      refine ⟨s1, s2, some (j, E.val), ⟨rfl, e2⟩, by simp [Instr.findAsking, Op.equal, Op.maxDepth, s3], fun d S hu hS => ?_⟩
      simp only [Instr.findNow] at hS
      cases hn : Instr.sameNow d X E.key with
      | none => rw [hn] at hS; cases hS
      | some b' =>
        have := sameNow_eq hu hk he1 hx e1 hn
        subst this
        rw [hn] at hS
        simpa using hS.symm
    | false =>
      have hr' : HRel ρ h1.get w := by rw [s2]; exact hr
      obtain ⟨t1, t2, R, t3, t4, t5⟩ := findA_run hk hx es Rs (j + 1) h1 h' r he hr' e3
      refine ⟨by omega, by rw [t2, s2], R, t3, by simp [Instr.findAsking, Op.equal, Op.maxDepth, s3, t4], fun d S hu hS => ?_⟩
      simp only [Instr.findNow] at hS
      cases hn : Instr.sameNow d X E.key with
      | none => rw [hn] at hS; cases hS
      | some b' =>
        have := sameNow_eq hu hk he1 hx e1 hn
        subst this
        rw [hn] at hS
        exact t5 d S hu hS

theorem findKey_run {kt : TypeId} {k : EqK} {x : AVal} {X : Value} {es : List (AVal × AVal)} {Es : List MapEntry} {r : Option (Nat × AVal)} (hk : eqKT P 5 kt = some k) (hx : VRel ρ x X) (he : findA k x es 0 h = some (r, h')) (hr : HRel ρ h.get w) (hE : ERels ρ es Es) :
    h'.next = h.next ∧ h'.get = h.get ∧ ∃ R, FRel ρ r R ∧ (Instr.findKey kt X Es).run P w = .ok R w := by
  obtain ⟨s1, s2, R, s3, s4, s5⟩ := findA_run (P := P) hk hx es Es 0 h h' r he hr hE
  refine ⟨s1, s2, R, s3, ?_⟩
  have hu : ∃ d, P.underlying kt = some d := by
    cases hu : P.underlying kt with
    | none => simp [eqKT, hu] at hk
    | some d => exact ⟨d, rfl⟩
  obtain ⟨d, hu⟩ := hu
  simp only [Instr.findKey, Sem.run_bind, run_und hu, Result.andThen_ok]
  cases hn : Instr.findNow d X Es 0 with
  | none => exact s4
  | some S =>
    have := s5 d S hu hn
    subst this
    simp

omit [Env] in
/-- What is found stands there. -/
theorem findA_at {k : EqK} {x : AVal} : ∀ (es : List (AVal × AVal)) (j : Nat) (h h' : Heap) (i : Nat) (v : AVal), findA k x es j h = some (some (i, v), h') →
    j ≤ i ∧ ∃ y hh hh', es[i - j]? = some (y, v) ∧ eqA k x y hh = some (true, hh')
  | [], j, h, h', i, v, he => by
    simp only [findA] at he
    obtain ⟨h1, _⟩ := pure_some he
    cases h1
  | (y, u) :: es, j, h, h', i, v, he => by
    simp only [findA] at he
    obtain ⟨b, h1, he1, he⟩ := bind_some he
    cases b with
    | true =>
      obtain ⟨e1, _⟩ := pure_some he
      cases e1
      exact ⟨Nat.le_refl _, y, h, h1, by simp, he1⟩
    | false =>
      obtain ⟨l1, y', hh, hh', l2, l3⟩ := findA_at es (j + 1) h1 h' i v he
      refine ⟨by omega, y', hh, hh', ?_, l3⟩
      have : i - j = (i - (j + 1)) + 1 := by omega
      rw [this, List.getElem?_cons_succ]
      exact l2

omit [Env] in
theorem run_forIn_unit {α : Type} {f : α → PUnit → Sem (ForInStep PUnit)} : ∀ (l : List α), (∀ x ∈ l, (f x PUnit.unit).run P w = .ok (ForInStep.yield PUnit.unit) w) → (forIn l PUnit.unit f).run P w = .ok PUnit.unit w
  | [], _ => by simp
  | x :: l, h => by
    rw [List.forIn_cons, Sem.run_bind, h x (by simp)]
    exact run_forIn_unit l (fun y hy => h y (by simp [hy]))

omit [Env] in
theorem key_fields {d : Nat} : ∀ (fs : List Field) (ks : List (Nat × Option Nat × EqK)) (vs : List AVal) (all : List AVal) (j : Nat),
    eqKFs P (eqKT P d) fs = some ks → keyFs ks vs = true → offsFrom ks j = true → vs = all.drop j →
    ∀ f ∈ fs, f.name ≠ "_" → ∃ v, all[f.offset]? = some v ∧ aggT P f.type = some none ∧ (eqKT P d f.type = some .int ∨ eqKT P d f.type = some .str)
  | [], _, _, _, _, _, _, _, _ => by simp
  | f :: fs, ks, vs, all, j, hk, h1, h2, hv => by
    intro f' hf' hn'
    rcases eqKT_fields hk with ⟨hn, hk'⟩ | ⟨hn, g, k, r, g1, g2, g3, rfl⟩
    · rcases List.mem_cons.1 hf' with rfl | hm
      · exact absurd hn hn'
      · exact key_fields fs ks vs all j hk' h1 h2 hv f' hm hn'
    · simp only [offsFrom, Bool.and_eq_true, beq_iff_eq] at h2
      obtain ⟨rfl, h2⟩ := h2
      cases vs with
      | nil => simp [keyFs] at h1
      | cons u us =>
        have hu : all[f.offset]? = some u := by
          have e : (all.drop f.offset)[0]? = some u := by rw [← hv]; simp
          rw [List.getElem?_drop] at e
          simpa using e
        have hus : us = all.drop (f.offset + 1) := by
          have e : (u :: us).drop 1 = (all.drop f.offset).drop 1 := by rw [← hv]
          rw [List.drop_drop] at e
          simpa using e
        unfold keyFs at h1
        split at h1
        · cases ‹_ :: _ = []›
        · rename_i e1 e2
          cases e1; cases e2
          rcases List.mem_cons.1 hf' with rfl | hm
          · exact ⟨_, hu, g1, .inl g2⟩
          · exact key_fields fs _ _ all (f.offset + 1) g3 h1 h2 hus f' hm hn'
        · rename_i e1 e2
          cases e1; cases e2
          rcases List.mem_cons.1 hf' with rfl | hm
          · exact ⟨_, hu, g1, .inr g2⟩
          · exact key_fields fs _ _ all (f.offset + 1) g3 h1 h2 hus f' hm hn'
        · cases h1

omit [Env] in
theorem eqKT_plain {d : Nat} {t : TypeId} {k : EqK} (h : eqKT P d t = some k) (hk : k = .int ∨ k = .str) : (∃ kk, P.underlying t = some (.int kk)) ∨ P.underlying t = some .string := by
  cases d with
  | zero => simp [eqKT] at h
  | succ d =>
    simp only [eqKT] at h
    split at h
    · cases h; simp at hk
    · exact .inl ⟨_, by assumption⟩
    · exact .inr (by assumption)
    · split at h <;> simp at h; subst h; simp at hk
    · cases h; simp at hk
    · cases h; simp at hk
    · cases h; simp at hk
    · split at h
      · cases h
      · simp at h; obtain ⟨a, _, rfl⟩ := h; simp at hk
    · cases h

omit [Env] in
theorem checkKey_plain {d D : Nat} {t : TypeId} {k : EqK} (e : Bool) (h : eqKT P d t = some k) (hk : k = .int ∨ k = .str) (V : Value) : (Instr.checkKey e (D + 1) t V).run P w = .ok () w := by
  rcases eqKT_plain h hk with ⟨kk, hu⟩ | hu <;> simp [Instr.checkKey, run_und hu]

theorem checkKey_run {kt : TypeId} {k : EqK} {x : AVal} {X : Value} (e : Bool) (hk : eqKT P 5 kt = some k) (ho : keyOk k x = true) (hx : VRel ρ x X) : (Instr.checkKey e 10000 kt X).run P w = .ok () w := by
  unfold keyOk at ho
  split at ho
  · exact checkKey_plain e hk (.inl rfl) X
  · exact checkKey_plain e hk (.inr rfl) X
  · rename_i ks vs
    simp only [Bool.and_eq_true] at ho
    have hu : ∃ fs, P.underlying kt = some (.struct fs) ∧ eqKFs P (eqKT P 4) fs.toList = some ks := by
      simp only [eqKT] at hk
      split at hk <;> (try (cases hk; done))
      · split at hk <;> simp at hk
      · rename_i fs hu
        split at hk
        · cases hk
        · simp only [Option.map_eq_some_iff] at hk
          obtain ⟨ks', h1, h2⟩ := hk
          cases h2
          exact ⟨fs, hu, h1⟩
    obtain ⟨fs, hu, hfs⟩ := hu
    simp only [VRel] at hx
    obtain ⟨Cs, hC, rfl⟩ := hx
    have hkf := key_fields (P := P) fs.toList ks vs vs 0 hfs ho.1 ho.2 (by simp)
    suffices hall : ∀ D, (Instr.checkKey e (D + 2) kt (.agg Cs.toArray)).run P w = .ok () w from hall 9998
    intro D
    rw [Instr.checkKey]
    simp only [Sem.run_bind, run_und hu, Result.andThen_ok]
    rw [← Array.forIn_toList]
    rw [run_forIn_unit]
    · rfl
    · intro f hf
      by_cases hn : f.name = "_"
      · simp [hn]
      · obtain ⟨u, h1, h2, h3⟩ := hkf f hf hn
        obtain ⟨V, h4, h5⟩ := run_part (P := P) (w := w) h2 hC (by simpa [partA] using h1)
        have h6 : ∀ V, (Instr.checkKey e (D + 1) f.type V).run P w = .ok () w := fun V => by
          rcases h3 with h3 | h3
          · exact checkKey_plain e h3 (.inl rfl) V
          · exact checkKey_plain e h3 (.inr rfl) V
        simp [hn, h4, h6]
  · cases ho

/-- Keys that are equal are one. -/
theorem keyFs_eq {ρ' : Ren} : ∀ (ks : List (Nat × Option Nat × EqK)) (j : Nat) (xs ys allx ally : List AVal) (h h' : Heap) (Xs Ys : List Value), keyFs ks xs = true → keyFs ks ys = true → offsFrom ks j = true → xs = allx.drop j → ys = ally.drop j →
    eqFs ks allx ally h = some (true, h') → VRels ρ xs Xs → VRels ρ' ys Ys → Xs = Ys
  | [], _, xs, ys, _, _, _, _, Xs, Ys, h1, h2, _, _, _, _, hx, hy => by
    cases xs <;> simp [keyFs] at h1
    cases ys <;> simp [keyFs] at h2
    rw [VRels.nil_iff] at hx hy
    rw [hx, hy]
  | (o, g, k) :: ks, j, xs, ys, allx, ally, h, h', Xs, Ys, h1, h2, h3, e1, e2, he, hx, hy => by
    cases xs with
    | nil => simp [keyFs] at h1
    | cons x xs =>
      cases ys with
      | nil => simp [keyFs] at h2
      | cons y ys =>
        simp only [offsFrom, Bool.and_eq_true, beq_iff_eq] at h3
        obtain ⟨rfl, h3⟩ := h3
        have hax : allx[o]? = some x := by
          have e : (allx.drop o)[0]? = some x := by rw [← e1]; simp
          rw [List.getElem?_drop] at e
          simpa using e
        have hay : ally[o]? = some y := by
          have e : (ally.drop o)[0]? = some y := by rw [← e2]; simp
          rw [List.getElem?_drop] at e
          simpa using e
        have ht : ∀ (a : AVal) (l all : List AVal), a :: l = all.drop o → l = all.drop (o + 1) := by
          intro a l all e
          have e' : (a :: l).drop 1 = (all.drop o).drop 1 := by rw [← e]
          rw [List.drop_drop] at e'
          simpa using e'
        obtain ⟨X, Xs', r1, r2, rfl⟩ := hx.of_cons
        obtain ⟨Y, Ys', r3, r4, rfl⟩ := hy.of_cons
        have hg : g = none := by
          unfold keyFs at h1
          split at h1
          · cases ‹_ :: _ = []›
          · rename_i q1 q2; cases q1; rfl
          · rename_i q1 q2; cases q1; rfl
          · cases h1
        subst hg
        simp only [eqFs, partA, hax, hay] at he
        obtain ⟨b, hh, he1, he2⟩ := bind_some he
        clear he
        cases b with
        | false => obtain ⟨q, _⟩ := pure_some he2; cases q
        | true =>
          simp only [if_true] at he2
          unfold keyFs at h1
          split at h1
          · cases ‹_ :: _ = []›
          · rename_i q1 q2
            cases q1; cases q2
            unfold keyFs at h2
            split at h2
            · cases ‹_ :: _ = []›
            · rename_i q1 q2
              cases q1; cases q2
              simp only [eqA, eqInt] at he1
              split at he1
              · rename_i hkk
                obtain ⟨q, _⟩ := pure_some he1
                simp at q
                simp only [VRel] at r1 r3
                rw [r1, r3, hkk, q, keyFs_eq ks (o + 1) _ _ allx ally hh h' Xs' Ys' h1 h2 h3 (ht _ _ _ e1) (ht _ _ _ e2) he2 r2 r4]
              · exact (fail_some he1).elim
            · first | contradiction | (rename_i q1 q2; cases q1)
            · cases h2
          · rename_i q1 q2
            cases q1; cases q2
            unfold keyFs at h2
            split at h2
            · cases ‹_ :: _ = []›
            · first | contradiction | (rename_i q1 q2; cases q1)
            · rename_i q1 q2
              cases q1; cases q2
              simp only [eqA, eqStr] at he1
              obtain ⟨q, _⟩ := pure_some he1
              simp at q
              simp only [VRel] at r1 r3
              rw [r1, r3, q, keyFs_eq ks (o + 1) _ _ allx ally hh h' Xs' Ys' h1 h2 h3 (ht _ _ _ e1) (ht _ _ _ e2) he2 r2 r4]
            · cases h2
          · cases h1

theorem key_eq {k : EqK} {x y : AVal} {X Y : Value} (h1 : keyOk k x = true) (h2 : keyOk k y = true) (he : eqA k x y h = some (true, h')) (hx : VRel ρ x X) (hy : VRel ρ y Y) : X = Y := by
  cases k with
  | int =>
    cases x <;> simp [keyOk] at h1
    cases y <;> simp [keyOk] at h2
    simp only [eqA, eqInt] at he
    split at he
    · rename_i hkk
      obtain ⟨q, _⟩ := pure_some he
      simp at q
      simp only [VRel] at hx hy
      rw [hx, hy, hkk, q]
    · exact (fail_some he).elim
  | str =>
    cases x <;> simp [keyOk] at h1
    cases y <;> simp [keyOk] at h2
    simp only [eqA, eqStr] at he
    obtain ⟨q, _⟩ := pure_some he
    simp at q
    simp only [VRel] at hx hy
    rw [hx, hy, q]
  | struct ks =>
    cases x <;> simp [keyOk] at h1
    cases y <;> simp [keyOk] at h2
    rename_i vs us
    simp only [eqA, cellsOf] at he
    simp only [VRel] at hx hy
    obtain ⟨Cx, c1, rfl⟩ := hx
    obtain ⟨Cy, c2, rfl⟩ := hy
    rw [keyFs_eq ks 0 _ _ vs us h h' Cx Cy h1.1 h2.1 h1.2 (by simp) (by simp) he c1 c2]
  | _ => simp [keyOk] at h1

end
end Go.Hv
