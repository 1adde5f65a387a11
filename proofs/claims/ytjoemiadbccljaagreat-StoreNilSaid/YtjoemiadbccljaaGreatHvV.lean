/- What a run looks at and writes is all that it hangs on. -/
import Derived.Test.YtjoemiadbccljaaGreatHvB
namespace Go.Hv
open Go

/-- What a run did: it hangs on what it looked at alone, and turned what it wrote alone. -/
structure LocAt {α : Type} (m : M α) (h : Heap) (a : α) (h' : Heap) (R W : Nat) : Prop where
  run : ∀ H : Heap, H.next = h.next → (∀ k, R.testBit k = true → H.get k = h.get k) →
    ∃ H', m H = some (a, H') ∧ H'.next = h'.next ∧ H'.rd = H.rd ||| R ∧ H'.wr = H.wr ||| W ∧ (∀ k, W.testBit k = true → H'.get k = h'.get k) ∧ (∀ k, W.testBit k = false → H'.get k = H.get k)
  new : ∀ k, h.next ≤ k → k < h'.next → W.testBit k = true
  bnd : ∀ k, W.testBit k = true → k < 2 ^ depth

def Local {α : Type} (m : M α) : Prop := ∀ h a h', m h = some (a, h') → h.next ≤ h'.next ∧ ∃ R W, LocAt m h a h' R W

section
variable {α β : Type}

theorem LocAt.self {m : M α} {h h' : Heap} {a : α} {R W : Nat} (hl : LocAt m h a h' R W) (he : m h = some (a, h')) : h'.rd = h.rd ||| R ∧ h'.wr = h.wr ||| W ∧ ∀ k, W.testBit k = false → h'.get k = h.get k := by
  obtain ⟨H', h1, h2, h3, h4, h5, h6⟩ := hl.run h rfl (fun _ _ => rfl)
  rw [he] at h1
  cases h1
  exact ⟨h3, h4, h6⟩

theorem Local.mono {m : M α} (hl : Local m) {h h' : Heap} {a : α} (he : m h = some (a, h')) : h.next ≤ h'.next := (hl h a h' he).1

theorem local_pure (a : α) : Local (pure a : M α) := by
  intro h b h' he
  simp only [Pure.pure, M.pure, Option.some.injEq, Prod.mk.injEq] at he
  obtain ⟨rfl, rfl⟩ := he
  exact ⟨Nat.le_refl _, 0, 0, ⟨fun H _ _ => ⟨H, rfl, by assumption, by simp, by simp, by simp, by simp⟩, fun k h1 h2 => by omega, by simp⟩⟩

theorem local_fail : Local (M.fail : M α) := by
  intro h b h' he
  simp [M.fail] at he

theorem local_ofOption (o : Option α) : Local (M.ofOption o) := by
  cases o with
  | none => intro h b h' he; simp [M.ofOption] at he
  | some a => exact local_pure a

theorem local_look (k : Nat) : Local (look k) := by
  intro h b h' he
  simp only [look] at he
  split at he <;> simp at he
  rename_i o ho
  obtain ⟨rfl, rfl⟩ := he
  refine ⟨Nat.le_refl _, 2 ^ k, 0, ⟨fun H hn hg => ?_, fun j h1 h2 => by simp at h2; omega, by simp⟩⟩
  have hk : H.tree.get k = some o := by
    have := hg k (by simp)
    exact this.trans ho
  exact ⟨{ H with rd := H.rd ||| 2 ^ k }, by simp [look, hk], hn, rfl, by simp, by simp, fun _ _ => rfl⟩

theorem local_put (k : Nat) (ob : Option AObj) (hk : k < 2 ^ depth) (h h' : Heap) (hh : h' = { h with wr := h.wr ||| 2 ^ k, tree := Tree.put (depth + 1) h.tree k ob }) (m : M Unit) (hm : ∀ H : Heap, m H = some ((), { H with wr := H.wr ||| 2 ^ k, tree := Tree.put (depth + 1) H.tree k ob })) :
    LocAt m h () h' 0 (2 ^ k) := by
  refine ⟨fun H hn _ => ⟨_, hm H, ?_, by simp, rfl, ?_, ?_⟩, fun j h1 h2 => ?_, fun j hj => ?_⟩
  · rw [hh]; exact hn
  · intro j hj
    rw [Nat.testBit_two_pow] at hj
    have : k = j := by simpa using hj
    subst this
    rw [hh]
    show (Tree.put (depth + 1) H.tree k ob).get k = (Tree.put (depth + 1) h.tree k ob).get k
    rw [Tree.get_put _ _ _ _ _ hk, Tree.get_put _ _ _ _ _ hk]
    simp
  · intro j hj
    rw [Nat.testBit_two_pow] at hj
    have : ¬ (j = k) := by
      intro e; subst e; simp at hj
    show (Tree.put (depth + 1) H.tree k ob).get j = H.tree.get j
    rw [Tree.get_put _ _ _ _ _ hk, if_neg this]
  · rw [hh] at h2
    simp at h2
    omega
  · rw [Nat.testBit_two_pow] at hj
    have : k = j := by simpa using hj
    omega

theorem local_write (k : Nat) (o : AObj) : Local (write k o) := by
  intro h b h' he
  simp only [write] at he
  split at he <;> simp at he
  rename_i hk
  refine ⟨by rw [← he]; exact Nat.le_refl _, 0, 2 ^ k, local_put k (some o) hk h h' he.symm _ (fun H => by simp [write, hk])⟩

theorem local_kill (k : Nat) : Local (kill k) := by
  intro h b h' he
  simp only [kill] at he
  split at he <;> simp at he
  rename_i hk
  refine ⟨by rw [← he]; exact Nat.le_refl _, 0, 2 ^ k, local_put k none hk h h' he.symm _ (fun H => by simp [kill, hk])⟩

theorem local_alloc (o : AObj) : Local (alloc o) := by
  intro h b h' he
  simp only [alloc] at he
  split at he <;> simp at he
  rename_i hk
  obtain ⟨rfl, rfl⟩ := he
  refine ⟨by simp, 0, 2 ^ h.next, ⟨fun H hn _ => ?_, fun j h1 h2 => ?_, fun j hj => ?_⟩⟩
  · refine ⟨{ next := H.next + 1, rd := H.rd, wr := H.wr ||| 2 ^ H.next, tree := Tree.put (depth + 1) H.tree H.next (some o) }, ?_, by simp [hn], by simp, by simp [hn], ?_, ?_⟩
    · simp [alloc, hn, hk]
    · intro j hj
      rw [Nat.testBit_two_pow] at hj
      have : h.next = j := by simpa using hj
      subst this
      show (Tree.put (depth + 1) H.tree H.next (some o)).get h.next = (Tree.put (depth + 1) h.tree h.next (some o)).get h.next
      rw [hn, Tree.get_put _ _ _ _ _ hk, Tree.get_put _ _ _ _ _ hk]
      simp
    · intro j hj
      rw [Nat.testBit_two_pow] at hj
      have : ¬ (j = h.next) := by
        intro e; subst e; simp at hj
      show (Tree.put (depth + 1) H.tree H.next (some o)).get j = H.tree.get j
      rw [hn, Tree.get_put _ _ _ _ _ hk, if_neg this]
  · rw [Nat.testBit_two_pow]
    simp at h2
    simp
    omega
  · rw [Nat.testBit_two_pow] at hj
    have : h.next = j := by simpa using hj
    omega

theorem local_bind {m : M α} {f : α → M β} (hm : Local m) (hf : ∀ a, Local (f a)) : Local (m >>= f) := by
  intro h b h' he
  simp only [Bind.bind, M.bind] at he
  cases hmh : m h with
  | none => rw [hmh] at he; cases he
  | some p =>
    obtain ⟨a, h1⟩ := p
    rw [hmh] at he
    simp only at he
    obtain ⟨n1, R1, W1, l1⟩ := hm h a h1 hmh
    obtain ⟨n2, R2, W2, l2⟩ := hf a h1 b h' he
    obtain ⟨_, _, s1⟩ := l1.self hmh
    obtain ⟨_, _, s2⟩ := l2.self he
    refine ⟨Nat.le_trans n1 n2, R1 ||| R2, W1 ||| W2, ⟨fun H hn hg => ?_, fun k h2 h3 => ?_, fun k hk => ?_⟩⟩
    · obtain ⟨H1, a1, a2, a3, a4, a5, a6⟩ := l1.run H hn (fun k hk => hg k (by simp [hk]))
      obtain ⟨H2, b1, b2, b3, b4, b5, b6⟩ := l2.run H1 a2 (fun k hk => by
        cases hw : W1.testBit k with
        | true => exact a5 k hw
        | false => rw [a6 k hw, hg k (by simp [hk]), s1 k hw])
      refine ⟨H2, ?_, b2, by rw [b3, a3, Nat.or_assoc], by rw [b4, a4, Nat.or_assoc], ?_, ?_⟩
      · simp only [Bind.bind, M.bind, a1]; exact b1
      · intro k hk
        cases hw2 : W2.testBit k with
        | true => exact b5 k hw2
        | false =>
          have hw1 : W1.testBit k = true := by simpa [hw2] using hk
          rw [b6 k hw2, a5 k hw1, s2 k hw2]
      · intro k hk
        rw [Nat.testBit_or, Bool.or_eq_false_iff] at hk
        rw [b6 k hk.2, a6 k hk.1]
    · rw [Nat.testBit_or]
      by_cases hk : k < h1.next
      · simp [l1.new k h2 hk]
      · simp [l2.new k (by omega) h3]
    · rw [Nat.testBit_or, Bool.or_eq_true] at hk
      rcases hk with hk | hk
      · exact l1.bnd k hk
      · exact l2.bnd k hk

theorem local_ite {c : Prop} [Decidable c] {x y : M α} (hx : Local x) (hy : Local y) : Local (if c then x else y) := by
  split
  · exact hx
  · exact hy

theorem local_apart {m : M α} (hm : Local m) : Local (apart m) := by
  intro h b h' he
  simp only [apart] at he
  cases hmh : m { h with rd := 0, wr := 0 } with
  | none => rw [hmh] at he; cases he
  | some p =>
    obtain ⟨a, h1⟩ := p
    rw [hmh] at he
    simp only [Option.some.injEq, Prod.mk.injEq] at he
    obtain ⟨rfl, rfl⟩ := he
    obtain ⟨n1, R, W, l⟩ := hm _ a h1 hmh
    obtain ⟨s1, s2, s3⟩ := l.self hmh
    simp only [Nat.zero_or] at s1 s2
    refine ⟨n1, R, W, ⟨fun H hn hg => ?_, l.new, l.bnd⟩⟩
    obtain ⟨H1, a1, a2, a3, a4, a5, a6⟩ := l.run { H with rd := 0, wr := 0 } hn hg
    simp only [Nat.zero_or] at a3 a4
    refine ⟨{ H1 with rd := H.rd ||| H1.rd, wr := H.wr ||| H1.wr }, ?_, a2, by simp [a3], by simp [a4], a5, a6⟩
    simp [apart, a1, a3, a4, s1, s2]

end

/-! Each instruction. -/

theorem local_partLoad (agg : Option Nat) (x : AVal) : Local (loadA agg x) := by
  unfold loadA
  split
  · refine local_bind (local_look _) fun o => ?_
    cases o
    · exact local_ofOption _
    · exact local_fail
    · exact local_fail
  · exact local_fail

theorem local_store (sz : Nat) (x : AVal) (vs : List AVal) : Local (storeA sz x vs) := by
  unfold storeA
  split
  · refine local_bind (local_look _) fun o => ?_
    cases o
    · exact local_ite (local_write _ _) local_fail
    · exact local_fail
    · exact local_fail
  · exact local_fail

theorem local_eqInt (x y : AVal) : Local (eqInt x y) := by
  unfold eqInt
  split
  · exact local_ite (local_pure _) local_fail
  · exact local_fail
theorem local_eqBool (x y : AVal) : Local (eqBool x y) := by
  unfold eqBool
  split
  · exact local_pure _
  · exact local_fail
theorem local_eqStr (x y : AVal) : Local (eqStr x y) := by
  unfold eqStr
  split
  · exact local_pure _
  · exact local_fail
theorem local_eqAddr (p q : Nat × Nat) : Local (eqAddr p q) := by
  unfold eqAddr
  refine local_bind (local_look _) fun o => local_bind (local_look _) fun o' => ?_
  cases o <;> cases o' <;> first | exact local_pure _ | exact local_fail
theorem local_eqPtr (x y : AVal) : Local (eqPtr x y) := by
  unfold eqPtr
  split
  · rename_i a b
    cases a
    · exact local_pure _
    · cases b
      · exact local_pure _
      · exact local_eqAddr _ _
  · exact local_fail
theorem local_eqNil (k : EqK) (x y : AVal) : Local (eqNil k x y) := by
  unfold eqNil
  split
  · exact local_pure _
  · exact local_pure _
  · exact local_fail

mutual
theorem local_eqA : ∀ (k : EqK) (x y : AVal), Local (eqA k x y)
  | .int, x, y => by simp only [eqA]; exact local_eqInt x y
  | .bool, x, y => by simp only [eqA]; exact local_eqBool x y
  | .str, x, y => by simp only [eqA]; exact local_eqStr x y
  | .ptr, x, y => by simp only [eqA]; exact local_eqPtr x y
  | .struct fs, x, y => by
    simp only [eqA]
    cases cellsOf x with
    | none => exact local_fail
    | some xs =>
      cases cellsOf y with
      | none => exact local_fail
      | some ys => exact local_eqFs fs xs ys
  | .slice, x, y => by simp only [eqA]; exact local_eqNil _ x y
  | .map, x, y => by simp only [eqA]; exact local_eqNil _ x y
  | .func, x, y => by simp only [eqA]; exact local_eqNil _ x y
theorem local_eqFs : ∀ (fs : List (Nat × Option Nat × EqK)) (xs ys : List AVal), Local (eqFs fs xs ys)
  | [], xs, ys => by simp only [eqFs]; exact local_pure _
  | (off, g, k) :: rest, xs, ys => by
    simp only [eqFs]
    cases partA xs off g with
    | none => exact local_fail
    | some x =>
      cases partA ys off g with
      | none => exact local_fail
      | some y =>
        refine local_bind (local_eqA k x y) fun b => ?_
        cases b
        · exact local_pure _
        · exact local_eqFs rest xs ys
end

theorem local_find (k : EqK) (x : AVal) : ∀ (es : List (AVal × AVal)) (i : Nat), Local (findA k x es i)
  | [], _ => by simp only [findA]; exact local_pure _
  | (y, v) :: es, i => by
    simp only [findA]
    refine local_bind (local_eqA k x y) fun b => ?_
    cases b
    · exact local_find k x es (i + 1)
    · exact local_pure _

theorem local_entries (m : AVal) : Local (entriesA m) := by
  unfold entriesA
  split
  · exact local_pure _
  · refine local_bind (local_look _) fun o => ?_
    cases o
    · exact local_fail
    · exact local_pure _
    · exact local_fail
  · exact local_fail

theorem local_lookup (k : EqK) (z : AVal) (ok : Bool) (m x : AVal) : Local (lookupA k z ok m x) := by
  unfold lookupA
  refine local_bind (local_entries m) fun es => local_ite local_fail (local_bind (local_find k x es 0) fun r => ?_)
  cases r
  · exact local_pure _
  · exact local_pure _

theorem local_mapup (k : EqK) (m x v : AVal) : Local (mapupA k m x v) := by
  unfold mapupA
  split
  · refine local_bind (local_look _) fun o => ?_
    cases o
    · exact local_fail
    · refine local_ite local_fail (local_bind (local_find k x _ 0) fun r => ?_)
      cases r
      · exact local_write _ _
      · exact local_ite (local_write _ _) local_fail
    · exact local_fail
  · exact local_fail

theorem local_mdel (k : EqK) (m x : AVal) : Local (mdelA k m x) := by
  unfold mdelA
  split
  · exact local_ite local_fail (local_pure _)
  · refine local_bind (local_look _) fun o => ?_
    cases o
    · exact local_fail
    · refine local_ite local_fail (local_bind (local_find k x _ 0) fun r => ?_)
      cases r
      · exact local_pure _
      · exact local_write _ _
    · exact local_fail
  · exact local_fail

theorem local_mclear (m : AVal) : Local (mclearA m) := by
  unfold mclearA
  split
  · exact local_pure _
  · refine local_bind (local_look _) fun o => ?_
    cases o
    · exact local_fail
    · exact local_write _ _
    · exact local_fail
  · exact local_fail

theorem local_news (sz : Nat) (x : AVal) : Local (newsA sz x) := by
  unfold newsA
  split
  · exact local_ite (local_pure _) local_fail
  · exact local_pure _
  · refine local_bind (local_look _) fun o => ?_
    cases o
    · exact local_ite (local_pure _) local_fail
    · exact local_fail
    · exact local_fail
  · exact local_ite (local_pure _) local_fail
  · exact local_fail

theorem local_splice (k off : Nat) (vs : List AVal) : Local (spliceAt k off vs) := by
  unfold spliceAt
  refine local_bind (local_look _) fun o => ?_
  cases o
  · exact local_ite (local_write _ _) local_fail
  · exact local_fail
  · exact local_fail

theorem local_grow (e sz : Nat) (cs : List AVal) (n : Nat) : Local (growA e sz cs n) := by
  unfold growA
  exact local_bind (local_alloc _) fun _ => local_pure _

theorem local_append (e sz bytes : Nat) (s x : AVal) : Local (appendA e sz bytes s x) := by
  unfold appendA
  refine local_bind (local_news _ _) fun p => ?_
  obtain ⟨news, n⟩ := p
  simp only
  split
  · unfold appendKnown
    refine local_ite ?_ (local_ite ?_ local_fail)
    · split
      · exact local_pure _
      · exact local_bind (local_splice _ _ _) fun _ => local_pure _
    · split
      · exact local_ite (local_grow _ _ _ _) local_fail
      · refine local_bind (local_look _) fun o => ?_
        cases o
        · exact local_ite (local_grow _ _ _ _) local_fail
        · exact local_fail
        · exact local_fail
  · unfold appendOpen
    refine local_bind (local_look _) fun o => ?_
    cases o with
    | map => exact local_fail
    | iter => exact local_fail
    | cells c ee op =>
      cases op
      · exact local_fail
      · exact local_ite (local_bind (local_kill _) fun _ => local_grow _ _ _ _) local_fail
  · exact local_fail

theorem local_copy (sz : Nat) (d s : AVal) : Local (copyA sz d s) := by
  unfold copyA
  split
  · refine local_bind (local_news _ _) fun p => ?_
    obtain ⟨cs, n⟩ := p
    simp only
    split
    · exact local_bind (local_splice _ _ _) fun _ => local_pure _
    · exact local_pure _
    · exact local_pure _
    · exact local_fail
  · exact local_fail

theorem local_cvBytes (x : AVal) : Local (cvBytesA x) := by
  unfold cvBytesA
  split
  · exact local_pure _
  · exact local_pure _
  · refine local_bind (local_look _) fun o => ?_
    cases o
    · exact local_ite (local_bind (local_ofOption _) fun _ => local_pure _) local_fail
    · exact local_fail
    · exact local_fail
  · exact local_fail

theorem local_mkSlice (e sz bytes : Nat) (zs : List AVal) (l c : AVal) : Local (mkSliceA e sz bytes zs l c) := by
  unfold mkSliceA
  split
  · exact local_ite (local_bind (local_alloc _) fun _ => local_pure _) local_fail
  · exact local_fail

theorem local_aload (k : IntKind) (x : AVal) : Local (aloadA k x) := by
  unfold aloadA
  refine local_bind (local_partLoad _ _) fun u => ?_
  split
  · exact local_ite (local_pure _) local_fail
  · exact local_fail

theorem local_acas (x o n : AVal) : Local (acasA x o n) := by
  unfold acasA
  refine local_bind (local_partLoad _ _) fun u => ?_
  split
  · exact local_ite (local_ite (local_bind (local_store _ _ _) fun _ => local_pure _) (local_pure _)) local_fail
  · exact local_fail

theorem local_aadd (k : IntKind) (x d : AVal) : Local (aaddA k x d) := by
  unfold aaddA
  refine local_bind (local_partLoad _ _) fun u => ?_
  split
  · exact local_ite (local_bind (local_store _ _ _) fun _ => local_pure _) local_fail
  · exact local_fail

theorem local_sclear (sz : Nat) (zs : List AVal) (x : AVal) : Local (sclearA sz zs x) := by
  unfold sclearA
  split
  · exact local_pure _
  · exact local_pure _
  · exact local_ite (local_pure _) (local_ite (local_splice _ _ _) local_fail)
  · exact local_fail

theorem local_range (m : AVal) : Local (rangeA m) := by
  unfold rangeA
  split
  · exact local_bind (local_alloc _) fun _ => local_pure _
  · refine local_bind (local_look _) fun o => ?_
    cases o
    · exact local_fail
    · exact local_bind (local_alloc _) fun _ => local_pure _
    · exact local_fail
  · exact local_fail

theorem local_next (x : AVal) : Local (nextA x) := by
  unfold nextA
  split
  · refine local_bind (local_look _) fun o => ?_
    split
    · exact local_pure _
    · refine local_bind (local_look _) fun o => ?_
      split
      · refine local_ite local_fail ?_
        split
        · exact local_pure _
        · exact local_bind (local_write _ _) fun _ => local_pure _
        · exact local_fail
      · exact local_fail
    · exact local_fail
  · exact local_fail

theorem local_entry (x : AVal) : Local (entryA x) := by
  unfold entryA
  split
  · refine local_bind (local_look _) fun o => ?_
    split
    · refine local_bind (local_look _) fun o => ?_
      split
      · refine local_ite ?_ local_fail
        split
        · split
          · exact local_pure _
          · exact local_fail
        · exact local_fail
      · exact local_fail
    · exact local_fail
  · exact local_fail

def LocalCaller (call : Caller) : Prop := ∀ f args, Local (call f args)

variable [Env]

theorem local_op {call : Caller} (hc : LocalCaller call) (ts : List AVal) (i : IOp) : Local (i.ev call ts) := by
  cases i <;> simp only [IOp.ev] <;> first
    | exact local_pure _
    | exact local_ofOption _
    | exact local_fail
    | exact local_bind (local_alloc _) fun _ => local_pure _
    | exact local_bind (local_ofOption _) fun _ => local_pure _
    | exact local_bind (local_ofOption _) fun _ => local_bind (local_alloc _) fun _ => local_pure _
    | exact local_partLoad _ _
    | exact local_bind (local_store _ _ _) fun _ => local_pure _
    | exact local_bind (local_eqA _ _ _) fun _ => local_pure _
    | exact local_cvBytes _
    | exact local_mkSlice _ _ _ _ _ _
    | exact local_lookup _ _ _ _ _
    | exact local_bind (local_mapup _ _ _ _) fun _ => local_pure _
    | exact local_bind (local_mdel _ _ _) fun _ => local_pure _
    | exact local_bind (local_mclear _) fun _ => local_pure _
    | exact local_bind (local_sclear _ _ _) fun _ => local_pure _
    | exact local_range _
    | exact local_next _
    | exact local_entry _
    | exact hc _ _
    | exact local_bind (local_entries _) fun _ => local_pure _
    | exact local_append _ _ _ _ _
    | exact local_copy _ _ _
    | exact local_aload _ _
    | exact local_acas _ _ _
    | exact local_aadd _ _ _
    | skip
  case pick c x y =>
    split
    · exact local_pure _
    · exact local_pure _
    · exact local_fail
  case cvInt =>
    split
    · exact local_pure _
    · exact local_fail
  case cvStr =>
    split
    · exact local_pure _
    · exact local_fail
  case fld =>
    split
    · exact local_ofOption _
    · exact local_fail
  case extract =>
    split
    · exact local_ofOption _
    · exact local_fail
  case callV =>
    unfold callVA
    split
    · exact hc _ _
    · exact local_fail
  case lenS =>
    split
    · exact local_pure _
    · split
      · exact local_pure _
      · exact local_fail
    · exact local_fail
  case lenL =>
    split
    · exact local_pure _
    · exact local_pure _
    · exact local_fail
  case astore =>
    split
    · exact local_bind (local_store _ _ _) fun _ => local_pure _
    · exact local_fail

theorem local_step {call : Caller} (hc : LocalCaller call) (o : IOper) (ts : List AVal) : Local (o.step call ts) := by
  unfold IOper.step
  exact local_ite (local_bind (local_op hc ts _) fun _ => local_pure _) (local_pure _)

theorem local_region {call : Caller} (hc : LocalCaller call) : ∀ (l : List IOper) (ts : List AVal), Local (regionA call l ts)
  | [], _ => by simp only [regionA]; exact local_pure _
  | o :: l, ts => by
    simp only [regionA]
    exact local_bind (local_step hc o ts) fun _ => local_region hc l _

theorem local_draw {call : Caller} (hc : LocalCaller call) : ∀ (l : List (IOper × List Nat)) (i : Nat) (seen : List (Nat × Nat × Nat)) (ts : List AVal), Local (drawA call l i seen ts)
  | [], _, _, _ => by simp only [drawA]; exact local_pure _
  | (o, b) :: l, i, seen, ts => by
    simp only [drawA]
    refine local_bind (local_apart (local_step hc o ts)) fun p => ?_
    obtain ⟨ts', rd, wr⟩ := p
    simp only
    exact local_ite local_fail (local_draw hc l _ _ _)

omit [Env] in
theorem local_results (ts : List AVal) : ∀ rs, Local (resultsA ts rs)
  | [] => by simp only [resultsA]; exact local_pure _
  | r :: rs => by
    simp only [resultsA]
    refine local_bind ?_ fun _ => local_bind (local_results ts rs) fun _ => local_pure _
    cases r with
    | t n => exact local_pure _
    | cell n g => exact local_partLoad _ _

/-- The functions that are given as such hang on what they look at alone. -/
def LocalTab (tab : Tab) : Prop := ∀ f m, tab f = some (.prim m) → ∀ args, Local (m args)

omit [Env] in
theorem local_enter {tab : Tab} (ht : LocalTab tab) {run : ICode → List AVal → M (Ex × List AVal)} (hr : ∀ c ts, Local (run c ts)) : LocalCaller (enterA tab run) := by
  intro f args
  unfold enterA
  split
  · exact local_fail
  · rename_i m hm; exact ht f m hm args
  · refine local_bind (hr _ _) fun p => ?_
    obtain ⟨e, ts⟩ := p
    simp only
    split
    · exact local_fail
    · exact local_bind (local_results _ _) fun _ => local_pure _

theorem local_code {tab : Tab} (ht : LocalTab tab) : ∀ (n : Nat) (c : ICode) (ts : List AVal), Local (codeA tab n c ts)
  | 0, _, _ => by simp only [codeA]; exact local_fail
  | n + 1, c, ts => by
    have ih := local_code ht n
    cases c <;> simp only [codeA]
    case skip => exact local_pure _
    case region ops => exact local_bind (local_region (local_enter ht ih) _ _) fun _ => local_pure _
    case draw ops => exact local_bind (local_draw (local_enter ht ih) _ _ _ _) fun _ => local_pure _
    case seq a b =>
      refine local_bind (ih _ _) fun p => ?_
      obtain ⟨e, ts⟩ := p
      simp only
      split
      · exact ih _ _
      · exact local_pure _
    case cond x a b =>
      split
      · exact ih _ _
      · exact ih _ _
      · exact local_fail
    case block id a =>
      refine local_bind (ih _ _) fun p => ?_
      obtain ⟨e, ts⟩ := p
      simp only
      split
      · exact local_ite (local_pure _) (local_pure _)
      · exact local_pure _
    case loop a =>
      refine local_bind (ih _ _) fun p => ?_
      obtain ⟨e, ts⟩ := p
      simp only
      split
      · exact ih _ _
      · exact local_pure _
    case exit => exact local_pure _
    case ret => exact local_pure _
    case bad => exact local_fail

end Go.Hv
