/- Each instruction does what the model's operation does: comparisons and conversions. -/
import Derived.Test.YtjoemiadbccljaaGreatHvG
import Derived.Laws.StructEq
namespace Go.Hv
open Go
variable [Env]

section
variable {P : Program} {o : Oper} {i : IOp} {call : Caller} {ts : List AVal} {v : AVal} {h h' : Heap} {ρ : Ren} {w : World} {a : Act}

omit [Env] in
theorem eqKT_fields {rec : TypeId → Option EqK} {fs : List Field} {f : Field} {ks : List (Nat × Option Nat × EqK)} (h : eqKFs P rec (f :: fs) = some ks) :
    (f.name = "_" ∧ eqKFs P rec fs = some ks) ∨ (f.name ≠ "_" ∧ ∃ g k r, aggT P f.type = some g ∧ rec f.type = some k ∧ eqKFs P rec fs = some r ∧ ks = (f.offset, g, k) :: r) := by
  simp only [eqKFs] at h
  split at h
  · rename_i hn; exact Or.inl ⟨hn, h⟩
  · rename_i hn
    split at h <;> simp at h
    rename_i g k r h1 h2 h3
    exact Or.inr ⟨hn, g, k, r, h1, h2, h3, h.symm⟩

/-- Two blocks of cells are one or they are not; the model asks no more. -/
theorem run_sameAddr (hr : HRel ρ h.get w) {k l j m : Nat} {c c' : List AVal} {e e' : TypeId} {op op' : Option Nat} {B q B' q' : Nat}
    (hk : h.get k = some (.cells c e op)) (hl : h.get l = some (.cells c' e' op')) (h1 : ρ k = some (B, q)) (h2 : ρ l = some (B', q')) :
    (sameAddr ⟨B, j, none⟩ ⟨B', m, none⟩).run P w = .ok (k == l && j == m) w := by
  obtain ⟨_, _, L1, L2, r1, r2, _, _⟩ := hr.row hk
  obtain ⟨_, _, L3, L4, r3, r4, _, _⟩ := hr.row hl
  rw [h1] at r1; cases r1
  rw [h2] at r3; cases r3
  by_cases hkl : k = l
  · subst hkl
    rw [h1] at h2; cases h2
    by_cases hjm : j = m
    · subst hjm; simp [sameAddr]
    · have e1 : ((⟨B, j, none⟩ : Addr) == ⟨B, m, none⟩) = false := by simp [hjm]
      have e2 : (j == m) = false := by simp [hjm]
      simp [sameAddr, e1, e2]
  · have hB : B ≠ B' := fun e => hkl (hr.inj k l _ _ B q q' hk hl h1 (e ▸ h2))
    have f1 : ∀ x, w.frozen? ⟨B, x, none⟩ = false := fun x => frozen_at r2 x
    have f2 : ∀ x, w.frozen? ⟨B', x, none⟩ = false := fun x => frozen_at r4 x
    have s1 : w.shape? B = some (e, (L1 ++ L2).length) := by simp [World.shape?, r2]
    have s2 : w.shape? B' = some (e', (L3 ++ L4).length) := by simp [World.shape?, r4]
    simp [sameAddr, hB, hkl, f1, f2, noView, viewAt, s1, s2, mayBeOne, stringish]

/-- What is told of a comparison, to a depth. -/
def EqOk (P : Program) (ρ : Ren) (d : Nat) : Prop :=
  ∀ (t : TypeId) (k : EqK) (x y : AVal) (X Y : Value) (b : Bool) (h h' : Heap) (w : World) (D : Nat), eqKT P d t = some k → d ≤ D → eqA k x y h = some (b, h') → HRel ρ h.get w → VRel ρ x X → VRel ρ y Y →
    h'.next = h.next ∧ h'.get = h.get ∧ (Op.equalIn D t X Y).run P w = .ok b w

theorem eqInt_run {x y : AVal} {X Y : Value} {b : Bool} {D : Nat} {t : TypeId} {kk : IntKind} (hu : P.underlying t = some (.int kk)) (he : eqInt x y h = some (b, h')) (hx : VRel ρ x X) (hy : VRel ρ y Y) :
    h = h' ∧ (Op.equalIn (D + 1) t X Y).run P w = .ok b w := by
  unfold eqInt at he
  split at he
  · rename_i k1 a k2 c
    simp only [VRel] at hx hy; subst hx; subst hy
    by_cases hk : k1 = k2
    · subst hk
      rw [if_pos rfl] at he
      obtain ⟨rfl, rfl⟩ := pure_some he
      exact ⟨rfl, by simp [Op.equalIn, run_und hu]⟩
    · rw [if_neg hk] at he; exact (fail_some he).elim
  · exact (fail_some he).elim

theorem eqBool_run {x y : AVal} {X Y : Value} {b : Bool} {D : Nat} {t : TypeId} (hu : P.underlying t = some .bool) (he : eqBool x y h = some (b, h')) (hx : VRel ρ x X) (hy : VRel ρ y Y) :
    h = h' ∧ (Op.equalIn (D + 1) t X Y).run P w = .ok b w := by
  unfold eqBool at he
  split at he
  · simp only [VRel] at hx hy; subst hx; subst hy
    obtain ⟨rfl, rfl⟩ := pure_some he
    exact ⟨rfl, by simp [Op.equalIn, run_und hu]⟩
  · exact (fail_some he).elim

theorem eqStr_run {x y : AVal} {X Y : Value} {b : Bool} {D : Nat} {t : TypeId} (hu : P.underlying t = some .string) (he : eqStr x y h = some (b, h')) (hx : VRel ρ x X) (hy : VRel ρ y Y) :
    h = h' ∧ (Op.equalIn (D + 1) t X Y).run P w = .ok b w := by
  unfold eqStr at he
  split at he
  · simp only [VRel] at hx hy; subst hx; subst hy
    obtain ⟨rfl, rfl⟩ := pure_some he
    refine ⟨rfl, ?_⟩
    rw [run_equalIn_string w _ _ _ _ hu, toList_mk, toList_mk]
  · exact (fail_some he).elim

theorem eqPtr_run {x y : AVal} {X Y : Value} {b : Bool} {D : Nat} {t e : TypeId} {m : Nat} (hu : P.underlying t = some (.pointer e)) (hm : sizeT P e = some (m + 1)) (hr : HRel ρ h.get w) (he : eqPtr x y h = some (b, h')) (hx : VRel ρ x X) (hy : VRel ρ y Y) :
    (h'.next = h.next ∧ h'.get = h.get) ∧ (Op.equalIn (D + 1) t X Y).run P w = .ok b w := by
  unfold eqPtr at he
  split at he
  · rename_i p1 p2
    rcases p1 with _ | ⟨k, j⟩
    · simp only at he
      simp only [VRel] at hx; subst hx
      obtain ⟨rfl, rfl⟩ := pure_some he
      rcases p2 with _ | ⟨l, m⟩ <;> simp only [VRel] at hy
      · subst hy; exact ⟨⟨rfl, rfl⟩, by simp [Op.equalIn, run_und hu]⟩
      · obtain ⟨B, q, _, rfl⟩ := hy; exact ⟨⟨rfl, rfl⟩, by simp [Op.equalIn, run_und hu]⟩
    · simp only [VRel] at hx
      obtain ⟨B, q, r1, rfl⟩ := hx
      rcases p2 with _ | ⟨l, m⟩
      · simp only [VRel] at hy; subst hy
        obtain ⟨rfl, rfl⟩ := pure_some he
        exact ⟨⟨rfl, rfl⟩, by simp [Op.equalIn, run_und hu]⟩
      · simp only [VRel] at hy
        obtain ⟨B', q', r2, rfl⟩ := hy
        simp only [eqAddr] at he
        obtain ⟨o1, h1, l1, he⟩ := bind_some he
        obtain ⟨o2, h2, l2, he⟩ := bind_some he
        obtain ⟨a1, a2, a3⟩ := look_some l1
        obtain ⟨b1, b2, b3⟩ := look_some l2
        rw [a3] at b1
        cases o1 with
        | map => exact (fail_some he).elim
        | iter => exact (fail_some he).elim
        | cells c e1 op =>
          cases o2 with
          | map => exact (fail_some he).elim
          | iter => exact (fail_some he).elim
          | cells c' e2 op' =>
            obtain ⟨rfl, rfl⟩ := pure_some he
            refine ⟨⟨by omega, by rw [b3, a3]⟩, ?_⟩
            simp only [Op.equalIn, Sem.run_bind, run_und hu, Result.andThen_ok, sizeT_run hm]
            simp [run_sameAddr hr a1 b1 r1 r2]
  · exact (fail_some he).elim

/-- What nil is, of the kinds that may be. -/
def nilV : EqK → Bool → Value → Prop
  | .slice, true, X => ∃ n c, X = .slice none n c
  | .slice, false, X => ∃ a n c, X = .slice (some a) n c
  | .map, true, X => X = .map none
  | .map, false, X => ∃ r, X = .map (some r)
  | .func, true, X => X = .nilFunc
  | .func, false, X => ∃ f a b, X = .func f a b
  | _, _, _ => False

theorem nilOf_rel {k : EqK} {x : AVal} {X : Value} {b : Bool} (hn : nilOf k x = some b) (hx : VRel ρ x X) : nilV k b X := by
  unfold nilOf at hn
  split at hn <;> simp at hn <;> subst hn
  · rename_i p n c op
    rcases p with _ | ⟨k, j⟩
    · simp only [VRel] at hx; obtain ⟨_, rfl⟩ := hx; exact ⟨_, _, rfl⟩
    · cases op <;> simp only [VRel] at hx
      · obtain ⟨B, q, _, rfl⟩ := hx; exact ⟨_, _, _, rfl⟩
      · obtain ⟨B, q, _, _, rfl⟩ := hx; exact ⟨_, _, _, rfl⟩
  · simp only [VRel] at hx; obtain ⟨_, _, rfl⟩ := hx; exact ⟨_, _, _, rfl⟩
  · rename_i r
    rcases r with _ | r <;> simp only [VRel] at hx
    · exact hx
    · obtain ⟨B, q, _, rfl⟩ := hx; exact ⟨_, rfl⟩
  · simp only [VRel] at hx; exact hx
  · simp only [VRel] at hx; obtain ⟨F, C, _, _, rfl⟩ := hx; exact ⟨_, _, _, rfl⟩

theorem eqNil_run {k : EqK} {x y : AVal} {X Y : Value} {b : Bool} {D : Nat} {t : TypeId}
    (hu : (k = .slice ∧ ∃ e, P.underlying t = some (.slice e)) ∨ (k = .map ∧ ∃ e e', P.underlying t = some (.map e e')) ∨ (k = .func ∧ ∃ e e' e2, P.underlying t = some (.func e e' e2)))
    (he : eqNil k x y h = some (b, h')) (hx : VRel ρ x X) (hy : VRel ρ y Y) : h = h' ∧ (Op.equalIn (D + 1) t X Y).run P w = .ok b w := by
  have hc : ∃ b1 b2, nilOf k x = some b1 ∧ nilOf k y = some b2 ∧ ((b1 = true ∧ b = b2) ∨ (b1 = false ∧ b2 = true ∧ b = false)) ∧ h = h' := by
    unfold eqNil at he
    cases h1 : nilOf k x with
    | none => rw [h1] at he; exact (fail_some he).elim
    | some b1 =>
      cases h2 : nilOf k y with
      | none => rw [h1, h2] at he; cases b1 <;> exact (fail_some he).elim
      | some b2 =>
        rw [h1, h2] at he
        refine ⟨b1, b2, rfl, rfl, ?_⟩
        cases b1 with
        | true => obtain ⟨rfl, rfl⟩ := pure_some he; exact ⟨.inl ⟨rfl, rfl⟩, rfl⟩
        | false =>
          cases b2 with
          | true => obtain ⟨rfl, rfl⟩ := pure_some he; exact ⟨.inr ⟨rfl, rfl, rfl⟩, rfl⟩
          | false => exact (fail_some he).elim
  obtain ⟨b1, b2, h1, h2, h3, rfl⟩ := hc
  have n1 := nilOf_rel h1 hx
  have n2 := nilOf_rel h2 hy
  refine ⟨rfl, ?_⟩
  rcases h3 with ⟨rfl, rfl⟩ | ⟨rfl, rfl, rfl⟩
  · rcases hu with ⟨rfl, e, hu⟩ | ⟨rfl, e, e', hu⟩ | ⟨rfl, e, e', e2, hu⟩
    · obtain ⟨_, _, rfl⟩ := n1
      cases b <;> simp only [nilV] at n2
      · obtain ⟨_, _, _, rfl⟩ := n2; simp [Op.equalIn, run_und hu]
      · obtain ⟨_, _, rfl⟩ := n2; simp [Op.equalIn, run_und hu]
    · simp only [nilV] at n1; subst n1
      cases b <;> simp only [nilV] at n2
      · obtain ⟨_, rfl⟩ := n2; simp [Op.equalIn, run_und hu]
      · subst n2; simp [Op.equalIn, run_und hu]
    · simp only [nilV] at n1; subst n1
      cases b <;> simp only [nilV] at n2
      · obtain ⟨_, _, _, rfl⟩ := n2; simp [Op.equalIn, run_und hu]
      · subst n2; simp [Op.equalIn, run_und hu]
  · rcases hu with ⟨rfl, e, hu⟩ | ⟨rfl, e, e', hu⟩ | ⟨rfl, e, e', e2, hu⟩
    · obtain ⟨_, _, _, rfl⟩ := n1; obtain ⟨_, _, rfl⟩ := n2; simp [Op.equalIn, run_und hu]
    · obtain ⟨_, rfl⟩ := n1; simp only [nilV] at n2; subst n2; simp [Op.equalIn, run_und hu]
    · obtain ⟨_, _, _, rfl⟩ := n1; simp only [nilV] at n2; subst n2; simp [Op.equalIn, run_und hu]

theorem eqFs_run {d : Nat} (ih : EqOk P ρ d) : ∀ (fs : List Field) (ks : List (Nat × Option Nat × EqK)) (xs ys : List AVal) (Xs Ys : List Value) (b : Bool) (h h' : Heap) (w : World) (D : Nat), eqKFs P (eqKT P d) fs = some ks → d ≤ D → eqFs ks xs ys h = some (b, h') → HRel ρ h.get w → VRels ρ xs Xs → VRels ρ ys Ys →
    h'.next = h.next ∧ h'.get = h.get ∧ (Op.eqFields D Xs.toArray Ys.toArray fs).run P w = .ok b w
  | [], ks, xs, ys, Xs, Ys, b, h, h', w, D, hk, _, he, hr, hx, hy => by
    simp [eqKFs] at hk; subst hk
    simp only [eqFs] at he
    obtain ⟨rfl, rfl⟩ := pure_some he
    exact ⟨rfl, rfl, by simp [Op.eqFields]⟩
  | f :: fs, ks, xs, ys, Xs, Ys, b, h, h', w, D, hk, hD, he, hr, hx, hy => by
    rcases eqKT_fields hk with ⟨hn, hk'⟩ | ⟨hn, g, k, r, h1, h2, h3, rfl⟩
    · obtain ⟨e1, e2, e3⟩ := eqFs_run ih fs ks xs ys Xs Ys b h h' w D hk' hD he hr hx hy
      exact ⟨e1, e2, by simp only [Op.eqFields, hn]; simpa using e3⟩
    · simp only [eqFs] at he
      cases hpx : partA xs f.offset g with
      | none => rw [hpx] at he; exact (fail_some he).elim
      | some x =>
        cases hpy : partA ys f.offset g with
        | none => rw [hpx, hpy] at he; exact (fail_some he).elim
        | some y =>
          rw [hpx, hpy] at he
          obtain ⟨V, s1, s2⟩ := run_part (P := P) (w := w) h1 hx hpx
          obtain ⟨U, s3, s4⟩ := run_part (P := P) (w := w) h1 hy hpy
          obtain ⟨c, hh, he1, he⟩ := bind_some he
          obtain ⟨e1, e2, e3⟩ := ih f.type k x y V U c h hh w D h2 hD he1 hr s2 s4
          cases c with
          | false =>
            obtain ⟨rfl, rfl⟩ := pure_some he
            exact ⟨e1, e2, by simp [Op.eqFields, hn, s1, s3, e3]⟩
          | true =>
            have hr' : HRel ρ hh.get w := by rw [e2]; exact hr
            obtain ⟨e4, e5, e6⟩ := eqFs_run ih fs r xs ys Xs Ys b hh h' w D h3 hD he hr' hx hy
            exact ⟨by omega, by rw [e5, e2], by simp [Op.eqFields, hn, s1, s3, e3, e6]⟩

theorem eqA_run : ∀ (d : Nat), EqOk P ρ d := by
  intro d
  induction d with
  | zero => intro t k x y X Y b h h' w D hk; simp [eqKT] at hk
  | succ d ih =>
    intro t k x y X Y b h h' w D hk hD he hr hx hy
    obtain ⟨D, rfl⟩ : ∃ D', D = D' + 1 := ⟨D - 1, by omega⟩
    simp only [eqKT] at hk
    split at hk
    · rename_i hu
      cases hk
      simp only [eqA] at he
      obtain ⟨rfl, h2⟩ := eqBool_run (P := P) (w := w) (D := D) hu he hx hy
      exact ⟨rfl, rfl, h2⟩
    · rename_i kk hu
      cases hk
      simp only [eqA] at he
      obtain ⟨rfl, h2⟩ := eqInt_run (P := P) (w := w) (D := D) hu he hx hy
      exact ⟨rfl, rfl, h2⟩
    · rename_i hu
      cases hk
      simp only [eqA] at he
      obtain ⟨rfl, h2⟩ := eqStr_run (P := P) (w := w) (D := D) hu he hx hy
      exact ⟨rfl, rfl, h2⟩
    · rename_i e hu
      split at hk <;> simp at hk
      rename_i m hm
      subst hk
      simp only [eqA] at he
      obtain ⟨⟨h1, h2⟩, h3⟩ := eqPtr_run (P := P) (w := w) (D := D) hu hm hr he hx hy
      exact ⟨h1, h2, h3⟩
    · rename_i e hu
      cases hk
      simp only [eqA] at he
      obtain ⟨rfl, h2⟩ := eqNil_run (P := P) (w := w) (D := D) (.inl ⟨rfl, e, hu⟩) he hx hy
      exact ⟨rfl, rfl, h2⟩
    · rename_i e1 e2 hu
      cases hk
      simp only [eqA] at he
      obtain ⟨rfl, h2⟩ := eqNil_run (P := P) (w := w) (D := D) (.inr (.inl ⟨rfl, e1, e2, hu⟩)) he hx hy
      exact ⟨rfl, rfl, h2⟩
    · rename_i e1 e2 e3 hu
      cases hk
      simp only [eqA] at he
      obtain ⟨rfl, h2⟩ := eqNil_run (P := P) (w := w) (D := D) (.inr (.inr ⟨rfl, e1, e2, e3, hu⟩)) he hx hy
      exact ⟨rfl, rfl, h2⟩
    · rename_i fs hu
      split at hk
      · cases hk
      · rename_i hst
        simp at hk
        obtain ⟨ks, hks, rfl⟩ := hk
        simp only [eqA] at he
        cases hcx : cellsOf x with
        | none => rw [hcx] at he; exact (fail_some he).elim
        | some xs =>
          cases hcy : cellsOf y with
          | none => rw [hcx, hcy] at he; exact (fail_some he).elim
          | some ys =>
            rw [hcx, hcy] at he
            have ex : x = .agg xs := by cases x <;> simp [cellsOf] at hcx; rw [hcx]
            have ey : y = .agg ys := by cases y <;> simp [cellsOf] at hcy; rw [hcy]
            subst ex; subst ey
            simp only [VRel] at hx hy
            obtain ⟨Xs, hX, rfl⟩ := hx
            obtain ⟨Ys, hY, rfl⟩ := hy
            have hfs : P.fieldsOf t = fs := by simp [Program.fieldsOf, hu]
            obtain ⟨e1, e2, e3⟩ := eqFs_run ih fs.toList ks _ _ Xs Ys b h h' w D hks (by omega) he hr hX hY
            refine ⟨e1, e2, ?_⟩
            rw [run_equalIn_struct w D t _ _ (by rw [hfs]; exact hu) (by simpa using hst), hfs]
            exact e3
    · cases hk

end
end Go.Hv
