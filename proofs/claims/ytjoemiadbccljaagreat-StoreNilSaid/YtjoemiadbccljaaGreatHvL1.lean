/- A table of functions as a tree; a call without arguments, once run, as a primitive; a whole law out of one run. -/
import Derived.Test.YtjoemiadbccljaaGreatHvZ0
import Derived.Below
namespace Go.Hv
open Go Go.RowKit

/-- The functions, as a tree by the digits of their numbers. -/
inductive BT where
  | leaf
  | node (v : Option IFunc) (l r : BT)

def BT.get : BT → Nat → Option IFunc
  | .leaf, _ => none
  | .node v l r, k => if k = 0 then v else if k % 2 = 1 then l.get (k / 2) else r.get (k / 2 - 1)

/-- What is told of each function of the tree. -/
def CodeAt (P : Program) (i : Nat) : Option IFunc → Prop
  | none => True
  | some c => ∃ fn, P.funcs[i]? = some fn ∧ cfunc P fn = some c

def BT.Ok (P : Program) : BT → (Nat → Nat) → Prop
  | .leaf, _ => True
  | .node v l r, i => CodeAt P (i 0) v ∧ l.Ok P (fun j => i (2 * j + 1)) ∧ r.Ok P (fun j => i (2 * j + 2))

theorem BT.Ok.get {P : Program} : ∀ {t : BT} {i : Nat → Nat}, t.Ok P i → ∀ {k c}, t.get k = some c → CodeAt P (i k) (some c)
  | .leaf, _, _, _, _, h => by simp [BT.get] at h
  | .node v l r, i, ht, k, c, h => by
    obtain ⟨h0, h1, h2⟩ := ht
    rw [BT.get] at h
    by_cases hk : k = 0
    · subst hk
      simp only [if_true] at h
      subst h
      exact h0
    · simp only [hk, if_false] at h
      by_cases ho : k % 2 = 1
      · simp only [ho, if_true] at h
        have := h1.get h
        have e : 2 * (k / 2) + 1 = k := by omega
        simpa only [e] using this
      · simp only [ho, if_false] at h
        have := h2.get h
        have e : 2 * (k / 2 - 1) + 2 = k := by omega
        simpa only [e] using this

abbrev Prim := List AVal → M AVal

def primOf : List (Nat × Prim) → Nat → Option Prim
  | [], _ => none
  | (i, m) :: r, f => if i = f then some m else primOf r f

theorem primOf_mem : ∀ {ps : List (Nat × Prim)} {f : Nat} {m : Prim}, primOf ps f = some m → (f, m) ∈ ps
  | [], _, _, h => by simp [primOf] at h
  | (i, m) :: r, f, m', h => by
    rw [primOf] at h
    by_cases hi : i = f
    · simp only [hi, if_true, Option.some.injEq] at h
      subst h; subst hi
      exact List.mem_cons_self ..
    · simp only [hi, if_false] at h
      exact List.mem_cons_of_mem _ (primOf_mem h)

/-- The table: primitives ahead of the tree. -/
def tabOf (t : BT) (ps : List (Nat × Prim)) : Tab := fun f =>
  match primOf ps f with
  | some m => some (.prim m)
  | none => (t.get f).map .code

variable [Env]

def PrimOk (P : Program) : List (Nat × Prim) → Prop
  | [] => True
  | (f, m) :: r => (CallOk P f m ∧ ∀ args, Local (m args)) ∧ PrimOk P r

theorem PrimOk.mem {P : Program} : ∀ {ps : List (Nat × Prim)}, PrimOk P ps → ∀ {f m}, (f, m) ∈ ps → CallOk P f m ∧ ∀ args, Local (m args)
  | [], _, _, _, h => by simp at h
  | (i, m0) :: r, ⟨h1, h2⟩, f, m, h => by
    rcases List.mem_cons.1 h with e | h
    · cases e; exact h1
    · exact PrimOk.mem h2 h

theorem tabOk_of {P : Program} {t : BT} {ps : List (Nat × Prim)} (ht : t.Ok P (fun j => j)) (hp : PrimOk P ps) : TabOk P (tabOf t ps) where
  code := by
    intro f c h
    unfold tabOf at h
    split at h
    · cases h
    · simp only [Option.map_eq_some_iff] at h
      obtain ⟨c', h1, h2⟩ := h
      cases h2
      exact ht.get h1
  prim := by
    intro f m h
    unfold tabOf at h
    split at h
    · rename_i m' hm
      cases h
      exact (hp.mem (primOf_mem hm)).1
    · simp only [Option.map_eq_some_iff] at h
      obtain ⟨c', _, h2⟩ := h
      cases h2
  loc := by
    intro f m h
    unfold tabOf at h
    split at h
    · rename_i m' hm
      cases h
      exact (hp.mem (primOf_mem hm)).2
    · simp only [Option.map_eq_some_iff] at h
      obtain ⟨c', _, h2⟩ := h
      cases h2

/-- The heap with nothing in it. -/
def h0 : Heap := ⟨0, 0, 0, .nil⟩

def okRun (r : Option (AVal × Heap)) : Bool :=
  match r with
  | some (.bool true, _) => true
  | _ => false

omit [Env] in
theorem okRun_iff {r : Option (AVal × Heap)} (h : okRun r = true) : ∃ h', r = some (.bool true, h') := by
  unfold okRun at h
  split at h
  · exact ⟨_, rfl⟩
  · cases h

def rho0 : Ren := fun _ => none

omit [Env] in
theorem h0_get (k : Nat) : h0.get k = none := rfl

theorem hrel0 (w : World) : HRel rho0 h0.get w := ⟨fun k o h => (by rw [h0_get] at h; cases h), fun k l o o' B q q' h => (by rw [h0_get] at h; cases h)⟩

/-- A call that returns true and turns nothing that is there. -/
def primTrue : Prim := fun args => match args with
  | [] => pure (.bool true)
  | _ => M.fail

/-- What a run from the empty heap says of the call. -/
theorem run_true {P : Program} {f : FuncId} {m : Prim} (hm : CallOk P f m) {args : List AVal} {Args : List Value} (ha : VRels rho0 args Args) (hr : okRun (m args h0) = true) (w : World) :
    (∃ fn, P.funcs[f]? = some fn ∧ (fn.name == "runtime.NumGoroutine") = false ∧ fn.body.isNone = false) ∧
    Calls P f Args.toArray w fun e w' => e = .returned (.bool true) ∧ Below w.heap.size w w' := by
  obtain ⟨h', he⟩ := okRun_iff hr
  obtain ⟨_, h2, h3⟩ := hm args (.bool true) h0 h' rho0 w Args he (hrel0 w) (fun _ _ _ => rfl) ha
  refine ⟨h2, h3.mono fun e w' ⟨V, ρ', e1, hg, hv⟩ => ?_⟩
  simp only [VRel] at hv
  subst hv
  exact ⟨e1, hg.os, hg.tape, hg.output, hg.size, fun k hk => hg.keep k hk fun k' o q h => (by rw [h0_get] at h; cases h)⟩

theorem prim_of_run {P : Program} {f : FuncId} {m : Prim} (hm : CallOk P f m) (hr : okRun (m [] h0) = true) : CallOk P f primTrue := by
  intro args v h h' ρ w Args he hrel hfree ha
  unfold primTrue at he
  split at he
  · simp only [Pure.pure, M.pure, Option.some.injEq, Prod.mk.injEq] at he
    obtain ⟨rfl, rfl⟩ := he
    rw [VRels.nil_iff] at ha
    subst ha
    obtain ⟨h2, h3⟩ := run_true hm VRels.nil hr w
    refine ⟨Nat.le_refl _, h2, h3.mono fun e w' ⟨e1, hb⟩ => ⟨.bool true, ρ, e1, ?_, by simp only [VRel]⟩⟩
    have hob : ∀ b X, w.heap[b]? = some X → w'.heap[b]? = some X := fun b X hX => by
      rw [hb.block b (Array.getElem?_eq_some_iff.1 hX).1]; exact hX
    exact ⟨fun _ _ => rfl, ⟨fun k o hk => by
      obtain ⟨B, q, X, h1, h2, h3⟩ := hrel.obj k o hk
      exact ⟨B, q, X, h1, hob B X h2, h3⟩, hrel.inj⟩, hb.size, fun b hb' _ => hb.block b hb', fun k o B q hk hB => .inr ⟨k, o, q, hk, hB⟩, hb.os, hb.tape, hb.output⟩
  · simp [M.fail] at he

omit [Env] in
theorem primTrue_local (args : List AVal) : Local (primTrue args) := by
  unfold primTrue
  split
  · exact local_pure _
  · exact local_fail

end Go.Hv
