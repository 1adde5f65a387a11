/- Primitives of a strings.Builder: its check, its text. -/
import Derived.Test.YtjoemiadbccljaaGreatHvP1
namespace Go.Hv
open Go Go.RowKit

/-- (*strings.Builder).copyCheck; T: the Builder's type. -/
def ccPrim (T : TypeId) : Prim := fun args => match args with
  | [.ptr (some (k, 0))] => do
    match ← look k with
    | .cells [p, _] e none =>
      if e = T then
        match p with
        | .ptr none => do storeA 1 (.ptr (some (k, 0))) [.ptr (some (k, 0))]; pure (.tuple [])
        | .ptr (some (k', 0)) => if k' = k then pure (.tuple []) else M.fail
        | _ => M.fail
      else M.fail
    | _ => M.fail
  | _ => M.fail

/-- The bytes of cells. -/
def bytesX : List AVal → Option (List UInt8)
  | [] => some []
  | .int .u8 n :: r => if 0 ≤ n ∧ n < 256 then (bytesX r).map (UInt8.ofNat n.toNat :: ·) else none
  | _ => none

/-- (*strings.Builder).String, of one that holds something; T, U: the Builder's type, a byte's. Its row is used up. -/
def strPrim (T U : TypeId) : Prim := fun args => match args with
  | [.ptr (some (k, 0))] => do
    match ← look k with
    | .cells [_, .slice (some (g, 0)) n 0 true] e none =>
      if e = T ∧ g ≠ k then
        match ← look g with
        | .cells cs e2 (some 1) =>
          if e2 = U ∧ n ≤ cs.length ∧ 0 < n ∧ n ≤ 1000000 then do
            match bytesX (sub cs 0 n) with
            | some l => do kill g; pure (.str l)
            | none => M.fail
          else M.fail
        | _ => M.fail
      else M.fail
    | _ => M.fail
  | _ => M.fail

theorem ccPrim_local (T : TypeId) (args : List AVal) : Local (ccPrim T args) := by
  unfold ccPrim
  split
  · refine local_bind (local_look _) fun o => ?_
    split
    · refine local_ite ?_ local_fail
      split
      · exact local_bind (local_store _ _ _) fun _ => local_pure _
      · exact local_ite (local_pure _) local_fail
      · exact local_fail
    · exact local_fail
  · exact local_fail

theorem strPrim_local (T U : TypeId) (args : List AVal) : Local (strPrim T U args) := by
  unfold strPrim
  split
  · refine local_bind (local_look _) fun o => ?_
    split
    · refine local_ite ?_ local_fail
      refine local_bind (local_look _) fun o => ?_
      split
      · refine local_ite ?_ local_fail
        split
        · exact local_bind (local_kill _) fun _ => local_pure _
        · exact local_fail
      · exact local_fail
    · exact local_fail
  · exact local_fail

variable [Env]

/-- What is asked of the library's check. -/
structure Checks (P : Program) (f : FuncId) (T : TypeId) : Prop where
  used : ∀ (b : Nat) (w : World), w.cell? ⟨b, 0, none⟩ = some (.pointer (some ⟨b, 0, none⟩)) →
    Calls P f #[.pointer (some ⟨b, 0, none⟩)] w fun e w' => e = .returned (.tuple #[]) ∧ w' = w
  first : ∀ (b : Nat) (w : World), w.cell? ⟨b, 0, none⟩ = some (.pointer none) → w.shape? b = some (T, 2) → w.frozen? ⟨b, 0, none⟩ = false →
    Calls P f #[.pointer (some ⟨b, 0, none⟩)] w fun e w' => e = .returned (.tuple #[]) ∧ w' = w.setCell ⟨b, 0, none⟩ (.pointer (some ⟨b, 0, none⟩))

theorem ccPrim_ok {P : Program} {f : FuncId} {T : TypeId} (hf : Callable P f) (hc : Checks P f T) : CallOk P f (ccPrim T) := by
  intro args v h h' ρ w Args he hr hfree ha
  unfold ccPrim at he
  split at he
  case h_2 => exact (fail_some he).elim
  rename_i k
  obtain ⟨o, h1, hl, he2⟩ := bind_some he
  clear he
  obtain ⟨l1, l2, l3⟩ := look_some hl
  split at he2
  case h_2 => exact (fail_some he2).elim
  rename_i p c e
  by_cases hT : e = T
  case neg => rw [if_neg hT] at he2; exact (fail_some he2).elim
  rw [if_pos hT] at he2
  subst hT
  obtain ⟨B, q, X, b1, b2, L1, L2, b3, rfl, b4⟩ := hr.obj _ _ l1
  simp only [Fits] at b4
  subst b4
  obtain ⟨V0, Ws, c1, c2, rfl⟩ := b3.of_cons
  obtain ⟨V1, Ws', c3, c4, rfl⟩ := c2.of_cons
  rw [VRels.nil_iff] at c4
  subst c4
  simp only [VRels, VRel] at ha
  obtain ⟨_, _, ⟨B', q', r1, rfl⟩, rfl, rfl⟩ := ha
  rw [b1] at r1; cases r1
  have hcell : w.cell? ⟨B, 0, none⟩ = some V0 := by simp [World.cell?, b2]
  have hr1 : HRel ρ h1.get w := by rw [l3]; exact hr
  have hN : ∀ ρ : Ren, VRel ρ (.tuple []) (.tuple #[]) := fun ρ => by simp only [VRel, VRels]; exact ⟨[], rfl, rfl⟩
  split at he2
  · obtain ⟨u, h2, hs, he3⟩ := bind_some he2
    obtain ⟨rfl, rfl⟩ := pure_some he3
    simp only [VRel] at c1
    subst c1
    have hp : VRel ρ (.ptr (some (k, 0))) (.pointer (some ⟨B, 0, none⟩)) := by simp only [VRel]; exact ⟨B, q, b1, rfl⟩
    obtain ⟨n1, b, U, e1, e2, e3, e4⟩ := storeA_cell hs hr1 hp hp
    cases e1
    refine ⟨by omega, hf, (hc.first B w hcell (by simp [World.shape?, b2]) e3).mono fun e w' ⟨x1, x2⟩ => ⟨.tuple #[], ρ, x1, ?_, hN ρ⟩⟩
    subst x2
    have e5 := e4 h.next
    rw [l3] at e5
    have : h2.next = h.next := by omega
    rw [this]
    exact e5
  · rename_i k'
    by_cases hk : k' = k
    case neg => rw [if_neg hk] at he2; exact (fail_some he2).elim
    rw [if_pos hk] at he2
    subst hk
    obtain ⟨rfl, rfl⟩ := pure_some he2
    simp only [VRel] at c1
    obtain ⟨B', q', r1, rfl⟩ := c1
    rw [b1] at r1; cases r1
    refine ⟨by omega, hf, (hc.used B w hcell).mono fun e w' ⟨x1, x2⟩ => ⟨.tuple #[], ρ, x1, ?_, hN ρ⟩⟩
    subst x2
    rw [l2, l3]
    exact Goes.refl hr
  · exact (fail_some he2).elim

/-- A block that is known no more may turn. -/
theorem goes_lost {n : Nat} {ρ : Ren} {g : Nat → Option AObj} {w w' : World} (hr : HRel ρ g w) {k : Nat} {o : AObj} {B q : Nat} (hk : g k = some o) (hB : ρ k = some (B, q))
    (hs : w'.heap.size = w.heap.size) (hb : ∀ j, j ≠ B → w'.heap[j]? = w.heap[j]?) (h1 : w'.os = w.os) (h2 : w'.tape = w.tape) (h3 : w'.output = w.output) : Goes n n ρ g w ρ (upd g k none) w' := by
  have hg : ∀ i p, upd g k none i = some p → i ≠ k ∧ g i = some p := by
    intro i p hi
    by_cases e : i = k
    · subst e; rw [upd_same] at hi; cases hi
    · rw [upd_other _ _ e] at hi; exact ⟨e, hi⟩
  refine ⟨fun _ _ => rfl, ⟨fun i p hi => ?_, fun i j p p' B' q1 q2 hi hj e1 e2 => hr.inj i j p p' B' q1 q2 (hg i p hi).2 (hg j p' hj).2 e1 e2⟩, by omega, fun b hb' hno => hb b fun e => hno k o q hk (by rw [hB, e]), fun i p B' q' hi hB' => .inr ⟨i, p, q', (hg i p hi).2, hB'⟩, h1, h2, h3⟩
  obtain ⟨hne, hi'⟩ := hg i p hi
  obtain ⟨B1, q1, X, e1, e2, e3⟩ := hr.obj i p hi'
  refine ⟨B1, q1, X, e1, ?_, e3⟩
  rw [hb B1 fun e => hne (hr.inj i k p o B q1 q hi' hk (by rw [e1, e]) hB)]
  exact e2

/-- What is asked of the library's String. -/
def Texts (P : Program) (f : FuncId) (T U : TypeId) : Prop :=
  ∀ (w : World) (b g n cap : Nat) (p : Value) (cur : Array Value) (l : List UInt8), w.heap[b]? = some (.cells #[p, .slice (some ⟨g, 0, none⟩) n cap] T (0, 0)) → w.heap[g]? = some (.cells cur U (0, 0)) →
    n ≤ cap → cur.size = cap → (∀ (j : Nat) (x : UInt8), l[j]? = some x → cur[j]? = some (.int .u8 x.toNat)) → l.length = n → 0 < n → n ≤ 1000000 →
    Calls P f #[.pointer (some ⟨b, 0, none⟩)] w fun e w' => e = .returned (.string ⟨l.toArray⟩) ∧ w'.heap.size = w.heap.size ∧ (∀ j, j ≠ g → w'.heap[j]? = w.heap[j]?) ∧ w'.os = w.os ∧ w'.tape = w.tape ∧ w'.output = w.output

theorem bytesX_get {ρ : Ren} : ∀ {vs : List AVal} {Vs : List Value} {l : List UInt8}, VRels ρ vs Vs → bytesX vs = some l → l.length = vs.length ∧ ∀ (j : Nat) (x : UInt8), l[j]? = some x → Vs[j]? = some (.int .u8 x.toNat)
  | [], _, l, _, h => by simp [bytesX] at h; subst h; exact ⟨rfl, by simp⟩
  | v :: vs, _, l, h, k => by
    obtain ⟨W, Ws, h1, h2, rfl⟩ := h.of_cons
    unfold bytesX at k
    split at k
    · rename_i e; cases e
    · rename_i n r e
      cases e
      by_cases hn : 0 ≤ n ∧ n < 256
      case neg => rw [if_neg hn] at k; cases k
      rw [if_pos hn] at k
      simp only [Option.map_eq_some_iff] at k
      obtain ⟨l', k1, rfl⟩ := k
      obtain ⟨s1, s2⟩ := bytesX_get h2 k1
      simp only [VRel] at h1
      subst h1
      refine ⟨by simp [s1], fun j x hx => ?_⟩
      cases j with
      | zero =>
        simp at hx; subst hx
        have : (UInt8.ofNat n.toNat).toNat = n.toNat := by rw [UInt8.toNat_ofNat']; omega
        simp only [List.getElem?_cons_zero, this]
        congr 2
        omega
      | succ j => simpa using s2 j x (by simpa using hx)
    · cases k

theorem strPrim_ok {P : Program} {f : FuncId} {T U : TypeId} (hf : Callable P f) (hc : Texts P f T U) : CallOk P f (strPrim T U) := by
  intro args v h h' ρ w Args he hr hfree ha
  unfold strPrim at he
  split at he
  case h_2 => exact (fail_some he).elim
  rename_i k
  obtain ⟨o, h1, hl, he2⟩ := bind_some he
  clear he
  obtain ⟨l1, l2, l3⟩ := look_some hl
  split at he2
  case h_2 => exact (fail_some he2).elim
  rename_i c g n e
  by_cases hT : e = T ∧ g ≠ k
  case neg => rw [if_neg hT] at he2; exact (fail_some he2).elim
  rw [if_pos hT] at he2
  obtain ⟨rfl, hgk⟩ := hT
  obtain ⟨o2, h2, hl2, he3⟩ := bind_some he2
  clear he2
  obtain ⟨m1, m2, m3⟩ := look_some hl2
  rw [l3] at m1
  split at he3
  case h_2 => exact (fail_some he3).elim
  rename_i cs e2
  by_cases hU : e2 = U ∧ n ≤ cs.length ∧ 0 < n ∧ n ≤ 1000000
  case neg => rw [if_neg hU] at he3; exact (fail_some he3).elim
  rw [if_pos hU] at he3
  obtain ⟨rfl, hn1, hn2, hn3⟩ := hU
  cases hby : bytesX (sub cs 0 n) with
  | none => rw [hby] at he3; exact (fail_some he3).elim
  | some l =>
    rw [hby] at he3
    obtain ⟨u, h3, hkl, he4⟩ := bind_some he3
    obtain ⟨rfl, rfl⟩ := pure_some he4
    obtain ⟨k1, k2⟩ := kill_some hkl
    obtain ⟨B, q, X, b1, b2, L1, L2, b3, rfl, b4⟩ := hr.obj _ _ l1
    simp only [Fits] at b4
    subst b4
    obtain ⟨V0, Ws, c1, c2, rfl⟩ := b3.of_cons
    obtain ⟨V1, Ws', c3, c4, rfl⟩ := c2.of_cons
    rw [VRels.nil_iff] at c4
    subst c4
    simp only [VRel] at c3
    obtain ⟨G, q2, g1, g2, rfl⟩ := c3
    obtain ⟨G', q3, X, d1, d2, M1, M2, d3, rfl, d4⟩ := hr.obj _ _ m1
    rw [g1] at d1; cases d1
    simp only [Fits] at d4
    simp only [VRels, VRel] at ha
    obtain ⟨_, _, ⟨B', q', r1, rfl⟩, rfl, rfl⟩ := ha
    rw [b1] at r1; cases r1
    have hsub := d3.sub 0 n
    obtain ⟨y1, y2⟩ := bytesX_get hsub hby
    have hln : l.length = n := by rw [y1]; simp [sub]; omega
    refine ⟨by omega, hf, (hc w B G n (q2 - 0) V0 (M1 ++ M2).toArray l b2 d2 (by omega) (by simp; omega) (fun j x hx => ?_) hln hn2 hn3).mono fun e w' ⟨x1, x2, x3, x4, x5, x6⟩ => ⟨.string ⟨l.toArray⟩, ρ, x1, ?_, by simp only [VRel]⟩⟩
    · have hy := y2 j x hx
      have hj : j < n := by rw [← hln]; exact (List.getElem?_eq_some_iff.1 hx).1
      simp only [List.drop_zero, List.getElem?_take, hj, if_true] at hy
      simp only [List.getElem?_toArray]
      rw [List.getElem?_append_left (List.getElem?_eq_some_iff.1 hy).1]
      exact hy
    · have : h3.next = h.next := by omega
      rw [this, k2, m3, l3]
      exact goes_lost hr m1 g1 x2 x3 x4 x5 x6

end Go.Hv
