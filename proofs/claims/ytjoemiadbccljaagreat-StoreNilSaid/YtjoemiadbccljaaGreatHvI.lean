/- Each instruction does what the model's operation does: comparisons, conversions, slices. -/
import Derived.Test.YtjoemiadbccljaaGreatHvH
namespace Go.Hv
open Go
variable [Env]

section
variable {P : Program} {o : Oper} {i : IOp} {call : Caller} {ts : List AVal} {v : AVal} {h h' : Heap} {ρ : Ren} {w : World} {a : Act}

/-- What is compared by its type. -/
def EqX (k : EqK) (X : Value) : Prop :=
  (∃ b, X = .bool b) ∨ (∃ p, X = .pointer p) ∨ (∃ a n c, X = .slice a n c) ∨ (∃ r, X = .map r) ∨ (∃ f a b, X = .func f a b) ∨ X = .nilFunc ∨ ((∃ cs, X = .agg cs) ∧ ∃ ks, k = .struct ks)

omit [Env] in
theorem nilV_eqX {k : EqK} {b : Bool} {X : Value} (h : nilV k b X) : EqX k X := by
  cases k <;> cases b <;> simp only [nilV] at h <;> (try exact h.elim)
  · obtain ⟨_, _, _, rfl⟩ := h; exact .inr (.inr (.inl ⟨_, _, _, rfl⟩))
  · obtain ⟨_, _, rfl⟩ := h; exact .inr (.inr (.inl ⟨_, _, _, rfl⟩))
  · obtain ⟨_, rfl⟩ := h; exact .inr (.inr (.inr (.inl ⟨_, rfl⟩)))
  · subst h; exact .inr (.inr (.inr (.inl ⟨_, rfl⟩)))
  · obtain ⟨_, _, _, rfl⟩ := h; exact .inr (.inr (.inr (.inr (.inl ⟨_, _, _, rfl⟩))))
  · subst h; exact .inr (.inr (.inr (.inr (.inr (.inl rfl)))))

theorem eqNil_x {k : EqK} {x y : AVal} {b : Bool} {X : Value} (he : eqNil k x y h = some (b, h')) (hx : VRel ρ x X) : EqX k X := by
  unfold eqNil at he
  cases h1 : nilOf k x with
  | none => rw [h1] at he; exact (fail_some he).elim
  | some b1 => exact nilV_eqX (nilOf_rel h1 hx)

theorem eqA_x {k : EqK} {x y : AVal} {b : Bool} {X : Value} (hk : k ≠ .int ∧ k ≠ .str) (he : eqA k x y h = some (b, h')) (hx : VRel ρ x X) : EqX k X := by
  cases k <;> simp only [eqA] at he <;> simp at hk
  · unfold eqBool at he
    cases x <;> (try exact (fail_some he).elim)
    simp only [VRel] at hx; exact .inl ⟨_, hx⟩
  · unfold eqPtr at he
    cases x <;> (try exact (fail_some he).elim)
    rename_i p
    rcases p with _ | ⟨k, j⟩ <;> simp only [VRel] at hx
    · exact .inr (.inl ⟨_, hx⟩)
    · obtain ⟨B, q, _, rfl⟩ := hx; exact .inr (.inl ⟨_, rfl⟩)
  · exact eqNil_x he hx
  · exact eqNil_x he hx
  · exact eqNil_x he hx
  · rename_i fs
    cases hcx : cellsOf x with
    | none => rw [hcx] at he; exact (fail_some he).elim
    | some xs =>
      have ex : x = .agg xs := by cases x <;> simp [cellsOf] at hcx; rw [hcx]
      subst ex
      simp only [VRel] at hx
      obtain ⟨Xs, _, rfl⟩ := hx
      exact .inr (.inr (.inr (.inr (.inr (.inr ⟨⟨_, rfl⟩, _, rfl⟩)))))

omit [Env] in
theorem binOp_eq {k : EqK} {X : Value} (hX : EqX k X) (t : TypeId) (Y : Value) :
    binOp .eql t X Y = (do pure (.bool (← Op.equal t X Y))) ∧ binOp .neq t X Y = (do pure (.bool (!(← Op.equal t X Y)))) := by
  rcases hX with ⟨_, rfl⟩ | ⟨_, rfl⟩ | ⟨_, _, _, rfl⟩ | ⟨_, rfl⟩ | ⟨_, _, _, rfl⟩ | rfl | ⟨⟨_, rfl⟩, _⟩ <;> cases Y <;> exact ⟨rfl, rfl⟩

omit [Env] in
theorem eqGuard_run {k : EqK} {X : Value} (hX : EqX k X) (op : BinOp) (t : TypeId) (xo yo : Operand) (Y : Value) (hg : ∀ ks, k = .struct ks → P.eqGuardType P.depth t = false) :
    (eqGuard op t xo yo X Y).run P w = .ok () w := by
  rcases hX with ⟨_, rfl⟩ | ⟨_, rfl⟩ | ⟨_, _, _, rfl⟩ | ⟨_, rfl⟩ | ⟨_, _, _, rfl⟩ | rfl | ⟨⟨_, rfl⟩, ks, rfl⟩
  all_goals (cases Y <;> first | (cases op <;> simp [eqGuard]; done) | skip)
  exact run_eqGuard_agg w op t xo yo _ _ (hg ks rfl)

theorem ok_binOp {op : BinOp} {t t' : TypeId} {x y : Operand} (ho : o.op = .binOp op t x y t') (hc : cop? P o = some i) : OpOk P o i := by
  intro call ts v h h' ρ w a he hr hf ht
  simp only [cop?, ho] at hc
  split at hc
  case h_2 => cases hc
  rename_i x' y' hx' hy'
  have hx := copd_rel ht hx'
  have hy := copd_rel ht hy'
  have hbin : ∀ j, j = IOp.bin op x' y' → j.ev call ts h = some (v, h') → Does P h h' ρ w (execOp a.eval o) (fun ρ' x => NRel ρ' v x) := by
    rintro j rfl he
    simp only [IOp.ev] at he
    obtain ⟨hv, rfl⟩ := ofOption_some he
    obtain ⟨V, h1, h2, h3⟩ := binA_run (P := P) (w := w) hx hy hv t
    exact Does.same hr (b := .value V) (by simp [execOp, ho, h1, h3]) h2
  have heq : ∀ neg k, (neg = (op == .neq)) → (op = .eql ∨ op = .neq) → eqKT P 5 t = some k → (k ≠ .int ∧ k ≠ .str) → (∀ ks, k = .struct ks → P.eqGuardType P.depth t = false) → (IOp.eq neg k x' y').ev call ts h = some (v, h') →
      Does P h h' ρ w (execOp a.eval o) (fun ρ' x => NRel ρ' v x) := by
    rintro neg k rfl hop hk hne hg he
    simp only [IOp.ev] at he
    obtain ⟨b, h1, he1, he⟩ := bind_some he
    obtain ⟨rfl, rfl⟩ := pure_some he
    obtain ⟨e1, e2, e3⟩ := eqA_run 5 t k _ _ _ _ b h h1 w 10000 hk (by omega) he1 hr hx hy
    have hX := eqA_x hne he1 hx
    have hgr := eqGuard_run (P := P) (w := w) hX op t x y (a.eval y) hg
    obtain ⟨q1, q2⟩ := binOp_eq hX t (a.eval y)
    rcases hop with rfl | rfl
    · exact Does.still hr e1 e2 (b := .value (.bool b)) (by simp [execOp, ho, hgr, q1, Op.equal, Op.maxDepth, e3]) (by simp [NRel, VRel])
    · exact Does.still hr e1 e2 (b := .value (.bool !b)) (by simp [execOp, ho, hgr, q2, Op.equal, Op.maxDepth, e3]) (by simp [NRel, VRel])
  have hboth : (op = .eql ∨ op = .neq) → (match eqKT P 5 t with
        | some .int | some .str => some (.bin op x' y')
        | some (.struct fs) => if P.eqGuardType P.depth t then none else some (.eq (op == .neq) (.struct fs) x' y')
        | some k => some (.eq (op == .neq) k x' y')
        | none => none) = some i → Does P h h' ρ w (execOp a.eval o) (fun ρ' x => NRel ρ' v x) := by
    intro hop hc
    cases hk : eqKT P 5 t with
    | none => rw [hk] at hc; cases hc
    | some k =>
      rw [hk] at hc
      cases k with
      | int => simp at hc; exact hbin i hc.symm he
      | str => simp at hc; exact hbin i hc.symm he
      | struct fs =>
        simp only at hc
        split at hc
        · cases hc
        · rename_i hg
          simp at hc
          subst hc
          exact heq _ _ rfl hop hk (by simp) (fun _ _ => by simpa using hg) he
      | _ =>
        simp at hc
        subst hc
        exact heq _ _ rfl hop hk (by simp) (fun _ e => by cases e) he
  cases op <;> first
    | (exact hboth (by simp) hc)
    | (simp at hc; exact hbin i hc.symm he)

theorem run_fromBytes {f : Value → ByteArray → Sem (ForInStep ByteArray)} (hf : ∀ n s, f (.int .u8 n) s = pure (ForInStep.yield (s.push (UInt8.ofNat n.toNat)))) :
    ∀ (l : List AVal) (L : List Value) (bs : List UInt8), VRels ρ l L → bytesA l = some bs → ∀ (s : ByteArray),
    ((forIn L s f) : Sem ByteArray).run P w = .ok ⟨s.data ++ bs.toArray⟩ w
  | [], L, bs, hl, hb, s => by
    rw [VRels.nil_iff] at hl; subst hl
    simp [bytesA] at hb; subst hb
    simp
  | x :: r, L, bs, hl, hb, s => by
    obtain ⟨W, Ws, h1, h2, rfl⟩ := hl.of_cons
    unfold bytesA at hb
    split at hb
    · cases ‹_ :: _ = []›
    · rename_i n r' heq
      cases heq
      simp at hb
      obtain ⟨bs', h3, rfl⟩ := hb
      simp only [VRel] at h1
      subst h1
      rw [List.forIn_cons]
      have ih := run_fromBytes hf r Ws bs' h2 h3 (s.push (UInt8.ofNat n.toNat))
      rw [hf, pure_bind]
      simp only []
      rw [ih]
      congr 1
      apply ByteArray.ext
      simp [ByteArray.push]
    · cases hb

theorem cvBytes_run {x : AVal} {X : Value} (he : cvBytesA x h = some (v, h')) (hr : HRel ρ h.get w) (hx : VRel ρ x X) :
    h'.next = h.next ∧ h'.get = h.get ∧ (∃ p n c, X = .slice p n c) ∧ ∃ V, (Conv.bytesToString X).run P w = .ok V w ∧ VRel ρ v V := by
  unfold cvBytesA at he
  cases x with
  | eslice =>
    simp only [VRel] at hx; obtain ⟨b, c, rfl⟩ := hx
    obtain ⟨rfl, rfl⟩ := pure_some he
    refine ⟨rfl, rfl, ⟨_, _, _, rfl⟩, .string .empty, ?_, by simp only [VRel]; rfl⟩
    simp [Conv.bytesToString, loadCells, loadCellsFrom]
  | slice p n c op =>
    rcases p with _ | ⟨k, off⟩
    · simp only [VRel] at hx; obtain ⟨_, rfl⟩ := hx
      obtain ⟨rfl, rfl⟩ := pure_some he
      exact ⟨rfl, rfl, ⟨_, _, _, rfl⟩, .string .empty, by simp [Conv.bytesToString], by simp only [VRel]; rfl⟩
    · obtain ⟨ob, h1, hl, he⟩ := bind_some he
      obtain ⟨l1, l2, l3⟩ := look_some hl
      cases ob with
      | map => exact (fail_some he).elim
      | iter => exact (fail_some he).elim
      | cells cs e op' =>
        simp only at he
        by_cases hle : off + n ≤ cs.length
        case neg => rw [if_neg hle] at he; exact (fail_some he).elim
        rw [if_pos hle] at he
        obtain ⟨bs, h2, he1, he⟩ := bind_some he
        obtain ⟨hb, rfl⟩ := ofOption_some he1
        obtain ⟨rfl, rfl⟩ := pure_some he
        have hX : ∃ B q c', ρ k = some (B, q) ∧ X = .slice (some ⟨B, off, none⟩) n c' := by
          cases op <;> simp only [VRel] at hx
          · obtain ⟨B, q', h1, h2⟩ := hx; exact ⟨B, q', _, h1, h2⟩
          · obtain ⟨B, q', h1, _, h2⟩ := hx; exact ⟨B, q', _, h1, h2⟩
        obtain ⟨B, q, c', r1, rfl⟩ := hX
        obtain ⟨B', q', L1, L2, r2, r3, r4, _⟩ := hr.row l1
        rw [r1] at r2; cases r2
        refine ⟨l2, l3, ⟨_, _, _, rfl⟩, .string ⟨bs.toArray⟩, ?_, by simp only [VRel]⟩
        have hrun := run_cells (P := P) r3 (off := off) (n := n) (by simp [r4.length]; omega)
        rw [take_append_of_le (by rw [r4.length]; exact hle)] at hrun
        simp only [Conv.bytesToString, Sem.run_bind, hrun, Result.andThen_ok]
        rw [← Array.forIn_toList]
        rw [run_fromBytes (P := P) (w := w) (fun _ _ => rfl) _ _ bs (r4.sub off n) hb ByteArray.empty]
        simp
  | _ => exact (fail_some he).elim

theorem ok_convert {s d : TypeId} {x : Operand} (ho : o.op = .convert s d x) (hc : cop? P o = some i) : OpOk P o i := by
  intro call ts v h h' ρ w a he hr hf ht
  simp only [cop?, ho] at hc
  split at hc
  · rename_i y k0 k hy hs hd
    simp at hc; subst hc
    have hx := copd_rel ht hy
    simp only [IOp.ev] at he
    generalize y.ev ts = cy at he hx
    cases cy with
    | int k1 n =>
      obtain ⟨rfl, rfl⟩ := pure_some he
      simp only [VRel] at hx
      exact Does.same hr (b := .value (.int k (k.wrap n))) (by simp [execOp, ho, convert, run_und hs, run_und hd, hx, Conv.intToInt]) (by simp [NRel, VRel])
    | _ => exact (fail_some he).elim
  · rename_i y hy hs hd
    simp at hc; subst hc
    have hx := copd_rel ht hy
    simp only [IOp.ev] at he
    generalize y.ev ts = cy at he hx
    cases cy with
    | str l =>
      obtain ⟨rfl, rfl⟩ := pure_some he
      simp only [VRel] at hx
      exact Does.same hr (b := .value (.string ⟨l.toArray⟩)) (by simp [execOp, ho, convert, run_und hs, run_und hd, hx]) (by simp [NRel, VRel])
    | _ => exact (fail_some he).elim
  · rename_i y e hy hs hd
    split at hc
    · rename_i hu
      simp at hc; subst hc
      simp only [IOp.ev] at he
      obtain ⟨e1, e2, ⟨p, n, c, hX⟩, V, e3, e4⟩ := cvBytes_run (P := P) he hr (copd_rel ht hy)
      rw [hX] at e3
      exact Does.still hr e1 e2 (b := .value V) (by simp [execOp, ho, convert, run_und hs, run_und hd, hX, run_und hu, e3]) e4
    · cases hc
  · cases hc

end
end Go.Hv
