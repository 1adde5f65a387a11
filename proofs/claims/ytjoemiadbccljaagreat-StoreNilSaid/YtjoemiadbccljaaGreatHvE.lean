/- Each instruction does what the model's operation does: operands, types, memory. -/
import Derived.Test.YtjoemiadbccljaaGreatHvC
import Derived.Test.YtjoemiadbccljaaGreatHvD
import Derived.Laws.Entries
namespace Go.Hv
open Go
variable [Env]

theorem cvals_rel {ρ : Ren} {f : Value → Option AVal} (hf : ∀ v a, f v = some a → VRel ρ a v) : ∀ {vs : List Value} {as : List AVal}, cvals f vs = some as → VRels ρ as vs
  | [], as, h => by simp [cvals] at h; subst h; exact VRels.nil
  | v :: r, as, h => by
    simp only [cvals] at h
    split at h <;> simp at h
    rename_i a as' h1 h2
    subst h
    exact VRels.cons (hf _ _ h1) (cvals_rel hf h2)

theorem cval_rel (ρ : Ren) : ∀ (n : Nat) (v : Value) (a : AVal), cval n v = some a → VRel ρ a v
  | 0, _, _, h => by simp [cval] at h
  | n + 1, v, a, h => by
    cases v with
    | bool => simp [cval] at h; subst h; simp [VRel]
    | int => simp [cval] at h; subst h; simp [VRel]
    | float => simp [cval] at h
    | complex => simp [cval] at h
    | string s => simp [cval] at h; subst h; simp [VRel]
    | pointer p => cases p <;> simp [cval] at h; subst h; simp [VRel]
    | slice p => cases p <;> simp [cval] at h; subst h; simp [VRel]
    | map r => cases r <;> simp [cval] at h; subst h; simp [VRel]
    | chan => simp [cval] at h
    | func => simp [cval] at h
    | nilFunc => simp [cval] at h; subst h; simp [VRel]
    | iface => simp [cval] at h
    | nilIface => simp [cval] at h; subst h; simp [VRel]
    | agg cs =>
      simp [cval] at h
      obtain ⟨as, h1, rfl⟩ := h
      simp only [VRel]
      exact ⟨cs.toList, cvals_rel (fun v a => cval_rel ρ n v a) h1, by simp⟩
    | tuple cs =>
      simp [cval] at h
      obtain ⟨as, h1, rfl⟩ := h
      simp only [VRel]
      exact ⟨cs.toList, cvals_rel (fun v a => cval_rel ρ n v a) h1, by simp⟩

theorem cconst_rel (ρ : Ren) {v : Value} {a : AVal} (h : cconst v = some a) : VRel ρ a v := cval_rel ρ 4 v a h

/-- The slots stand to the model's. -/
def TRel (ρ : Ren) (ts : List AVal) (a : Act) : Prop := VRels ρ ts a.tmps.toList

theorem copd_rel {ρ : Ren} {ts : List AVal} {a : Act} (ht : TRel ρ ts a) {x : Operand} {y : Opd} (h : copd x = some y) : VRel ρ (y.ev ts) (a.eval x) := by
  cases x with
  | tmp t =>
    simp [copd] at h; subst h
    have := VRels.getD ht t
    simpa [Opd.ev, Act.eval, List.getD, Array.getD_eq_getD_getElem?] using this
  | const v =>
    simp [copd] at h
    obtain ⟨c, h1, rfl⟩ := h
    exact cconst_rel ρ h1
  | global g => simp [copd] at h
  | func f =>
    simp [copd] at h; subst h
    simp only [Opd.ev, Act.eval, VRel, VRels]
    exact ⟨[], [], rfl, rfl, rfl⟩

theorem copds_rel {ρ : Ren} {ts : List AVal} {a : Act} (ht : TRel ρ ts a) : ∀ {xs : List Operand} {ys : List Opd}, copds xs = some ys → VRels ρ (ys.map (Opd.ev ts)) (xs.map a.eval)
  | [], _, h => by simp [copds] at h; subst h; exact VRels.nil
  | x :: r, _, h => by
    simp only [copds] at h
    split at h <;> simp at h
    rename_i y ys h1 h2
    subst h
    exact VRels.cons (copd_rel ht h1) (copds_rel ht h2)

/-! What the model asks of a type. -/
section
variable {P : Program} {w : World}

omit [Env] in
theorem run_und {t : TypeId} {d : TypeDesc} (h : P.underlying t = some d) : (underlying t).run P w = .ok d w := by simp [underlying, h]
omit [Env] in
theorem run_info {t : TypeId} {i : TypeInfo} (h : P.info? t = some i) : (typeInfo t).run P w = .ok i w := by simp [typeInfo, h]

omit [Env] in
theorem sizeT_run {t : TypeId} {n : Nat} (h : sizeT P t = some n) : (sizeOf t).run P w = .ok n w := by
  simp [sizeT] at h
  obtain ⟨i, h1, rfl⟩ := h
  simp [sizeOf, run_info h1]

theorem zeroVT_run {ρ : Ren} {t : TypeId} {z : AVal} (h : zeroVT P t = some z) : ∃ Z, (zeroValue t).run P w = .ok Z w ∧ VRel ρ z Z := by
  unfold zeroVT at h
  cases h1 : P.info? t with
  | none => simp [h1] at h
  | some i =>
    cases h2 : i.zero with
    | none => simp [h1, h2] at h
    | some Z =>
      simp [h1, h2] at h
      exact ⟨Z, by simp [zeroValue, run_info h1, h2], cconst_rel ρ h⟩

theorem zeroT_run {ρ : Ren} {t : TypeId} {zs : List AVal} (h : zeroT P t = some zs) : ∃ Z, (zeroValue t).run P w = .ok Z w ∧ VRels ρ zs Z.cells.toList := by
  unfold zeroT at h
  cases h1 : P.info? t with
  | none => simp [h1] at h
  | some i =>
    cases h2 : i.zero with
    | none => simp [h1, h2] at h
    | some Z =>
      simp [h1, h2] at h
      obtain ⟨z, h3, rfl⟩ := h
      exact ⟨Z, by simp [zeroValue, run_info h1, h2], (cconst_rel ρ h3).cells⟩

omit [Env] in
theorem isAggT_run {t : TypeId} {b : Bool} (h : isAggT P t = some b) : (isAgg t).run P w = .ok b w := by
  simp [isAggT] at h
  obtain ⟨d, h1, h2⟩ := h
  simp only [isAgg, Sem.run_bind, run_und h1, Result.andThen_ok]
  cases d <;> simp_all

omit [Env] in
theorem aggT_run {t : TypeId} {g : Option Nat} (h : aggT P t = some g) : ∃ n, (sizeOf t).run P w = .ok n w ∧ (isAgg t).run P w = .ok g.isSome w ∧ ∀ m, g = some m → m = n := by
  unfold aggT at h
  split at h <;> simp at h
  · rename_i n h1 h2
    subst h
    exact ⟨n, sizeT_run h2, isAggT_run h1, by simp⟩
  · rename_i n h1 h2
    subst h
    exact ⟨n, sizeT_run h2, isAggT_run h1, by simp⟩
end

/-- What an operation of the model gives, and what the evaluator's gave. -/
def NRel (ρ : Ren) (v : AVal) : Next → Prop
  | .value V => VRel ρ v V
  | .skip => v = aundef
  | _ => False

/-- A run of the model does what was reckoned. -/
def Does {β : Type} (P : Program) (h h' : Heap) (ρ : Ren) (w : World) (s : Sem β) (R : Ren → β → Prop) : Prop :=
  ∃ b ρ' w', s.run P w = .ok b w' ∧ h.next ≤ h'.next ∧ Goes h.next h'.next ρ h.get w ρ' h'.get w' ∧ R ρ' b

theorem Does.same {β : Type} {P : Program} {h : Heap} {ρ : Ren} {w : World} {s : Sem β} {R : Ren → β → Prop} {b : β} (hr : HRel ρ h.get w) (hs : s.run P w = .ok b w) (hR : R ρ b) : Does P h h ρ w s R :=
  ⟨b, ρ, w, hs, Nat.le_refl _, Goes.refl hr, hR⟩

theorem Does.value {P : Program} {h h' : Heap} {ρ : Ren} {w : World} {s : Sem Value} {v : AVal} (k : Does P h h' ρ w s fun ρ' V => VRel ρ' v V) :
    Does P h h' ρ w (do pure (.value (← s)) : Sem Next) (fun ρ' x => NRel ρ' v x) := by
  obtain ⟨V, ρ', w', h1, h2, h3, h4⟩ := k
  exact ⟨.value V, ρ', w', by simp [h1], h2, h3, h4⟩

theorem Does.unit {P : Program} {h h' : Heap} {ρ : Ren} {w : World} {s : Sem Unit} (k : Does P h h' ρ w s fun _ _ => True) :
    Does P h h' ρ w (do s; pure .skip : Sem Next) (fun ρ' x => NRel ρ' aundef x) := by
  obtain ⟨V, ρ', w', h1, h2, h3, h4⟩ := k
  exact ⟨.skip, ρ', w', by simp [h1], h2, h3, rfl⟩

/-! The monad's steps, taken apart. -/

omit [Env] in
theorem bind_some {α β : Type} {m : M α} {f : α → M β} {h h' : Heap} {b : β} (e : (m >>= f) h = some (b, h')) : ∃ a h1, m h = some (a, h1) ∧ f a h1 = some (b, h') := by
  simp only [Bind.bind, M.bind] at e
  cases hm : m h with
  | none => rw [hm] at e; cases e
  | some p => obtain ⟨a, h1⟩ := p; rw [hm] at e; exact ⟨a, h1, rfl, e⟩

omit [Env] in
theorem pure_some {α : Type} {a b : α} {h h' : Heap} (e : (pure a : M α) h = some (b, h')) : a = b ∧ h = h' := by
  simp only [Pure.pure, M.pure, Option.some.injEq, Prod.mk.injEq] at e
  exact e

omit [Env] in
theorem fail_some {α : Type} {b : α} {h h' : Heap} (e : (M.fail : M α) h = some (b, h')) : False := by simp [M.fail] at e

omit [Env] in
theorem ofOption_some {α : Type} {o : Option α} {b : α} {h h' : Heap} (e : M.ofOption o h = some (b, h')) : o = some b ∧ h = h' := by
  cases o <;> simp [M.ofOption] at e
  exact ⟨by rw [e.1], e.2⟩

omit [Env] in
theorem look_some {k : Nat} {o : AObj} {h h' : Heap} (e : look k h = some (o, h')) : h.get k = some o ∧ h'.next = h.next ∧ h'.get = h.get := by
  simp only [look] at e
  split at e <;> simp at e
  rename_i o' ho
  obtain ⟨rfl, rfl⟩ := e
  exact ⟨ho, rfl, rfl⟩

omit [Env] in
theorem write_some {k : Nat} {o : AObj} {u : Unit} {h h' : Heap} (e : write k o h = some (u, h')) : h'.next = h.next ∧ h'.get = upd h.get k (some o) := by
  simp only [write] at e
  split at e <;> simp at e
  rename_i hk
  subst e
  refine ⟨rfl, funext fun j => ?_⟩
  exact Tree.get_put _ _ _ _ _ hk

omit [Env] in
theorem kill_some {k : Nat} {u : Unit} {h h' : Heap} (e : kill k h = some (u, h')) : h'.next = h.next ∧ h'.get = upd h.get k none := by
  simp only [kill] at e
  split at e <;> simp at e
  rename_i hk
  subst e
  refine ⟨rfl, funext fun j => ?_⟩
  exact Tree.get_put _ _ _ _ _ hk

omit [Env] in
theorem alloc_some {o : AObj} {k : Nat} {h h' : Heap} (e : alloc o h = some (k, h')) : k = h.next ∧ h'.next = h.next + 1 ∧ h'.get = upd h.get h.next (some o) := by
  simp only [alloc] at e
  split at e <;> simp at e
  rename_i hk
  obtain ⟨rfl, rfl⟩ := e
  refine ⟨rfl, rfl, funext fun j => ?_⟩
  exact Tree.get_put _ _ _ _ _ hk

/-! Cells. -/
section
variable {P : Program} {ρ : Ren} {g : Nat → Option AObj} {w : World}

omit [Env] in
theorem add_at (b o n : Nat) : (⟨b, o, none⟩ : Addr).add n = ⟨b, o + n, none⟩ := by unfold Addr.add; split <;> simp_all

/-- A row, as it lies in the world. -/
theorem HRel.row (hr : HRel ρ g w) {k : Nat} {c : List AVal} {e : TypeId} {op : Option Nat} (hk : g k = some (.cells c e op)) :
    ∃ B q L1 L2, ρ k = some (B, q) ∧ w.heap[B]? = some (.cells (L1 ++ L2).toArray e (0, 0)) ∧ VRels ρ c L1 ∧ Fits q L1 L2 op := by
  obtain ⟨B, q, X, h1, h2, L1, L2, h3, rfl, h4⟩ := hr.obj k _ hk
  exact ⟨B, q, L1, L2, h1, h2, h3, h4⟩

omit [Env] in
theorem cell_at {B : Nat} {L : List Value} {e : TypeId} (hB : w.heap[B]? = some (.cells L.toArray e (0, 0))) (i : Nat) : w.cell? ⟨B, i, none⟩ = L[i]? := by
  simp [World.cell?, hB]

omit [Env] in
theorem frozen_at {B : Nat} {L : List Value} {e : TypeId} (hB : w.heap[B]? = some (.cells L.toArray e (0, 0))) (i : Nat) : w.frozen? ⟨B, i, none⟩ = false := by
  simp [World.frozen?, hB]

omit [Env] in
/-- Cells out of a row. -/
theorem run_cells {B : Nat} {L : List Value} {e : TypeId} (hB : w.heap[B]? = some (.cells L.toArray e (0, 0))) {off n : Nat} (hn : off + n ≤ L.length) :
    (loadCells ⟨B, off, none⟩ n).run P w = .ok ((L.drop off).take n).toArray w := by
  have hl : ((L.drop off).take n).length = n := by simp; omega
  have := run_loadCells_list (P := P) w ⟨B, off, none⟩ ((L.drop off).take n) (fun j v hv => by
    rw [add_at, cell_at hB]
    have hj : j < n := by
      have := (List.getElem?_eq_some_iff.1 hv).1
      omega
    rw [List.getElem?_take_of_lt hj, List.getElem?_drop] at hv
    exact hv)
  rw [hl] at this
  exact this

omit [Env] in
theorem take_append_of_le {α : Type} {L1 L2 : List α} {off n : Nat} (h : off + n ≤ L1.length) : ((L1 ++ L2).drop off).take n = (L1.drop off).take n := by
  rw [List.drop_append_of_le_length (by omega), List.take_append_of_le_length (by simp; omega)]

/-- Loading. -/
theorem loadVar_rel (hr : HRel ρ g w) {k off : Nat} {c : List AVal} {e : TypeId} {op : Option Nat} {t : TypeId} {gg : Option Nat} {v : AVal} {B q : Nat}
    (hk : g k = some (.cells c e op)) (hρ : ρ k = some (B, q)) (ht : aggT P t = some gg) (hv : partA c off gg = some v) :
    ∃ V, (loadVar t ⟨B, off, none⟩).run P w = .ok V w ∧ VRel ρ v V := by
  obtain ⟨B', q', L1, L2, h1, h2, h3, _⟩ := hr.row hk
  rw [hρ] at h1; cases h1
  obtain ⟨n, s1, s2, s3⟩ := aggT_run (w := w) ht
  cases gg with
  | some m =>
    obtain rfl := s3 m rfl
    simp only [partA] at hv
    split at hv <;> simp at hv
    rename_i hle
    subst hv
    refine ⟨.agg ((L1.drop off).take m).toArray, ?_, ?_⟩
    · simp only [loadVar, Sem.run_bind, s2, Result.andThen_ok, Option.isSome, if_true, s1]
      rw [run_cells h2 (by simp [h3.length]; omega), take_append_of_le (by rw [h3.length]; exact hle)]
      simp
    · simp only [VRel]
      exact ⟨_, h3.sub off m, rfl⟩
  | none =>
    simp only [partA] at hv
    obtain ⟨V, h5, h6⟩ := h3.get hv
    refine ⟨V, ?_, h6⟩
    have hc : w.cell? ⟨B, off, none⟩ = some V := by
      rw [cell_at h2, List.getElem?_append_left (List.getElem?_eq_some_iff.1 h5).1]; exact h5
    simp [loadVar, s2, hc]

/-- Storing cells. -/
theorem storeCells_rel (hr : HRel ρ g w) {k off : Nat} {c vs : List AVal} {e : TypeId} {op : Option Nat} {B q : Nat} {Vs : List Value} (n : Nat)
    (hk : g k = some (.cells c e op)) (hρ : ρ k = some (B, q)) (hV : VRels ρ vs Vs) (h1 : vs.all AVal.oneCell = true) (hle : off + vs.length ≤ c.length) :
    ∃ w', (storeCells ⟨B, off, none⟩ Vs).run P w = .ok () w' ∧ Goes n n ρ g w ρ (upd g k (some (.cells (splice c off vs) e op))) w' := by
  obtain ⟨B', q', L1, L2, h2, h3, h4, h5⟩ := hr.row hk
  rw [hρ] at h2; cases h2
  have hlen : off + Vs.length ≤ L1.length := by rw [hV.length, h4.length]; exact hle
  have hrun := run_storeCells_at (P := P) B off e Vs 0 (L1 ++ L2).toArray w h3 (by simp; omega) (hV.oneCell h1)
  refine ⟨_, hrun, ?_⟩
  rw [setRow_eq w B _ e _ h3]
  refine goes_write hr n hk hρ ⟨L1.take off ++ Vs ++ L1.drop (off + Vs.length), L2, h4.splice off hV, ?_, ?_⟩
  · simp only [Nat.add_zero, List.append_assoc]
    rw [List.take_append_of_le_length (by omega), List.drop_append_of_le_length (by omega)]
  · cases op with
    | none => exact h5
    | some m =>
      simp only [Fits] at h5 ⊢
      rw [← h5]
      simp
      omega
end

end Go.Hv
