/- Primitives: what the library gathers from an empty map; a Builder's check and its text. -/
import Derived.Test.YtjoemiadbccljaaGreatHvL1
namespace Go.Hv
open Go Go.RowKit
variable [Env]

/-- A call that turns nothing that is there. -/
theorem goes_below {n : Nat} {ρ : Ren} {g : Nat → Option AObj} {w w' : World} (hr : HRel ρ g w) (hb : Below w.heap.size w w') : Goes n n ρ g w ρ g w' := by
  have hob : ∀ b X, w.heap[b]? = some X → w'.heap[b]? = some X := fun b X hX => by
    rw [hb.block b (Array.getElem?_eq_some_iff.1 hX).1]; exact hX
  exact ⟨fun _ _ => rfl, ⟨fun k o hk => by
    obtain ⟨B, q, X, h1, h2, h3⟩ := hr.obj k o hk
    exact ⟨B, q, X, h1, hob B X h2, h3⟩, hr.inj⟩, hb.size, fun b hb' _ => hb.block b hb', fun k o B q hk hB => .inr ⟨k, o, q, hk, hB⟩, hb.os, hb.tape, hb.output⟩

/-- The keys, or the values, of a map without entries, gathered. -/
def seqNone (g : FuncId) : Prim := fun args => match args with
  | [.slice none 0 0 false, .func (.func g') [] [.ptr (some (c, 0))]] =>
    if g' = g then do
      match ← look c with
      | .cells [.map m] _ none => do
        match ← entriesA (.map m) with
        | [] => pure (.slice none 0 0 false)
        | _ => M.fail
      | _ => M.fail
    else M.fail
  | _ => M.fail

omit [Env] in
theorem seqNone_local (g : FuncId) (args : List AVal) : Local (seqNone g args) := by
  unfold seqNone
  split
  · refine local_ite (local_bind (local_look _) fun o => ?_) local_fail
    split
    · refine local_bind (local_entries _) fun es => ?_
      split
      · exact local_pure _
      · exact local_fail
    · exact local_fail
  · exact local_fail

/-- What is asked of the library's function. -/
def GathersNone (P : Program) (f g : FuncId) : Prop :=
  ∀ (w : World) (B : Nat), B < w.heap.size → (w.cell? ⟨B, 0, none⟩ = some (.map none) ∨ ∃ b clk, w.cell? ⟨B, 0, none⟩ = some (.map (some b)) ∧ w.heap[b]? = some (.map #[] clk)) →
    Calls P f #[.slice none 0 0, .func (.func g) #[] #[.pointer (some ⟨B, 0, none⟩)]] w fun e w' => e = .returned (.slice none 0 0) ∧ Below w.heap.size w w'

def Callable (P : Program) (f : FuncId) : Prop := ∃ fn, P.funcs[f]? = some fn ∧ (fn.name == "runtime.NumGoroutine") = false ∧ fn.body.isNone = false

theorem seqNone_ok {P : Program} {f g : FuncId} (hf : Callable P f) (hc : GathersNone P f g) : CallOk P f (seqNone g) := by
  intro args v h h' ρ w Args he hr hfree ha
  unfold seqNone at he
  split at he
  case h_2 => exact (fail_some he).elim
  rename_i g' c
  by_cases hg : g' = g
  case neg => rw [if_neg hg] at he; exact (fail_some he).elim
  subst hg
  rw [if_pos rfl] at he
  obtain ⟨o, h1, hl, he⟩ := bind_some he
  obtain ⟨l1, l2, l3⟩ := look_some hl
  split at he
  case h_2 => exact (fail_some he).elim
  rename_i m e
  obtain ⟨es, h2, he2, he⟩ := bind_some he
  split at he
  case h_2 => exact (fail_some he).elim
  obtain ⟨rfl, rfl⟩ := pure_some he
  obtain ⟨B, q, X, b1, b2, L1, L2, b3, rfl, b4⟩ := hr.obj _ _ l1
  simp only [Fits] at b4
  subst b4
  obtain ⟨W, Ws, c1, c2, rfl⟩ := b3.of_cons
  rw [VRels.nil_iff] at c2
  subst c2
  have hr1 : HRel ρ h1.get w := by rw [l3]; exact hr
  obtain ⟨n1, n2, n3⟩ := entries_rel he2 hr1 c1
  have hcell : w.cell? ⟨B, 0, none⟩ = some W := by simp [World.cell?, b2]
  have hB : B < w.heap.size := (Array.getElem?_eq_some_iff.1 b2).1
  simp only [VRels, VRel] at ha
  obtain ⟨_, _, ⟨_, rfl⟩, ⟨_, _, ⟨Fs, Cs, rfl, ⟨_, _, ⟨B', q', r1, rfl⟩, rfl, rfl⟩, rfl⟩, rfl, rfl⟩, rfl⟩ := ha
  rw [b1] at r1; cases r1
  refine ⟨by omega, hf, (hc w B hB ?_).mono fun e w' ⟨e1, hb⟩ => ⟨.slice none 0 0, ρ, e1, ?_, by simp [VRel]⟩⟩
  · rcases n3 with ⟨_, rfl⟩ | ⟨B2, q2, Es, clk, rfl, k1, k2, _⟩
    · exact .inl hcell
    · simp only [ERels] at k2
      subst k2
      exact .inr ⟨B2, clk, hcell, k1⟩
  · have : h2.next = h.next := by omega
    rw [this, n2, l3]
    exact goes_below hr hb

end Go.Hv
