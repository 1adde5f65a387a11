/- A region whose operations may come in several orders: what each does hangs on what must come ahead of it alone. -/
import Derived.Test.YtjoemiadbccljaaGreatHvU
namespace Go.Hv
open Go
variable [Env]

/-! An instruction looks at the slots that it names alone. -/

/-- Two frames that agree on slots. -/
def AgreeOn (l : List Nat) (ts ts' : List AVal) : Prop := ∀ t ∈ l, ts.getD t aundef = ts'.getD t aundef

omit [Env] in
theorem AgreeOn.left {l l' : List Nat} {ts ts' : List AVal} (h : AgreeOn (l ++ l') ts ts') : AgreeOn l ts ts' := fun t ht => h t (by simp [ht])
omit [Env] in
theorem AgreeOn.right {l l' : List Nat} {ts ts' : List AVal} (h : AgreeOn (l ++ l') ts ts') : AgreeOn l' ts ts' := fun t ht => h t (by simp [ht])

omit [Env] in
theorem opd_congr {ts ts' : List AVal} {x : Opd} (h : AgreeOn x.slots ts ts') : x.ev ts = x.ev ts' := by
  cases x with
  | t n => exact h n (by simp [Opd.slots])
  | c v => rfl

omit [Env] in
theorem opds_congr {ts ts' : List AVal} : ∀ {xs : List Opd}, AgreeOn (slotsL xs) ts ts' → xs.map (Opd.ev ts) = xs.map (Opd.ev ts')
  | [], _ => rfl
  | x :: xs, h => by
    have h1 : AgreeOn (x.slots ++ slotsL xs) ts ts' := by simpa [slotsL] using h
    rw [List.map_cons, List.map_cons, opd_congr h1.left, opds_congr h1.right]

omit [Env] in
theorem bound_congr {ts ts' : List AVal} {d : Nat} {x : Option Opd} (h : AgreeOn (slotsO x) ts ts') : boundA ts d x = boundA ts' d x := by
  cases x with
  | none => rfl
  | some x => simp only [boundA]; rw [opd_congr (h : AgreeOn x.slots ts ts')]

omit [Env] in
theorem fillA_congr {ts ts' : List AVal} : ∀ {ps : List (Nat × Nat × Opd)} {cs : List AVal}, AgreeOn (ps.flatMap fun p => p.2.2.slots) ts ts' → fillA ts ps cs = fillA ts' ps cs
  | [], _, _ => rfl
  | (o, n, x) :: ps, cs, h => by
    have h1 : AgreeOn (x.slots ++ ps.flatMap fun p => p.2.2.slots) ts ts' := by simpa using h
    simp only [fillA]
    rw [opd_congr h1.left]
    split
    · exact fillA_congr h1.right
    · rfl

omit [Env] in
theorem fillS_congr {ts ts' : List AVal} {sz : Nat} : ∀ {ps : List (Nat × Opd)} {cs : List AVal}, AgreeOn (ps.flatMap fun p => p.2.slots) ts ts' → fillS ts sz ps cs = fillS ts' sz ps cs
  | [], _, _ => rfl
  | (o, x) :: ps, cs, h => by
    have h1 : AgreeOn (x.slots ++ ps.flatMap fun p => p.2.slots) ts ts' := by simpa using h
    simp only [fillS]
    rw [opd_congr h1.left]
    split
    · exact fillS_congr h1.right
    · rfl

set_option maxHeartbeats 1000000 in
theorem op_congr {call : Caller} {ts ts' : List AVal} {i : IOp} (h : AgreeOn i.slots ts ts') : i.ev call ts = i.ev call ts' := by
  cases i <;> simp only [IOp.slots] at h <;> simp only [IOp.ev]
  case pick => rw [opd_congr h.left.left, opd_congr h.left.right, opd_congr h.right]
  case build => rw [fillA_congr h]
  case bslice => rw [fillS_congr h]
  case mkFunc => rw [opds_congr h.left, opds_congr h.right]
  case sliceS x lo hi =>
    have e1 : ∀ d, boundA ts d lo = boundA ts' d lo := fun d => bound_congr h.left.right
    have e2 : ∀ d, boundA ts d hi = boundA ts' d hi := fun d => bound_congr h.right
    simp only [sliceSA, e1, e2]
    rw [opd_congr h.left.left]
  case sliceL sz x lo hi mx =>
    have e1 : ∀ d, boundA ts d lo = boundA ts' d lo := fun d => bound_congr h.left.left.right
    have e2 : ∀ d, boundA ts d hi = boundA ts' d hi := fun d => bound_congr h.left.right
    have e3 : ∀ d, boundA ts d mx = boundA ts' d mx := fun d => bound_congr h.right
    simp only [sliceLA, e1, e2, e3]
    rw [opd_congr h.left.left.left]
  case sliceA n sz x lo hi mx =>
    have e1 : ∀ d, boundA ts d lo = boundA ts' d lo := fun d => bound_congr h.left.left.right
    have e2 : ∀ d, boundA ts d hi = boundA ts' d hi := fun d => bound_congr h.left.right
    have e3 : ∀ d, boundA ts d mx = boundA ts' d mx := fun d => bound_congr h.right
    simp only [sliceAA, e1, e2, e3]
    rw [opd_congr h.left.left.left]
  case mapup => rw [opd_congr h.left.left, opd_congr h.left.right, opd_congr h.right]
  case acas => rw [opd_congr h.left.left, opd_congr h.left.right, opd_congr h.right]
  case call => rw [opds_congr h]
  case callV => rw [opd_congr h.left, opds_congr h.right]
  case max => rw [opds_congr h]
  case min => rw [opds_congr h]
  all_goals first
    | rw [opd_congr h]
    | rw [opd_congr h.left, opd_congr h.right]

/-- What one operation gives: the value for its slot. -/
def IOper.val (call : Caller) (o : IOper) (ts : List AVal) : M AVal := if wantedA o.guard ts then o.op.ev call ts else pure aundef

theorem step_val (call : Caller) (o : IOper) (ts : List AVal) : o.step call ts = (o.val call ts >>= fun v => pure (putA ts o.dst v)) := by
  unfold IOper.step IOper.val
  split <;> rfl

theorem val_congr {call : Caller} {ts ts' : List AVal} {o : IOper} (h : AgreeOn o.slots ts ts') : o.val call ts = o.val call ts' := by
  unfold IOper.val
  have h1 : wantedA o.guard ts = wantedA o.guard ts' := by
    unfold wantedA
    cases hg : o.guard with
    | none => rfl
    | some p =>
      obtain ⟨t, want⟩ := p
      have : AgreeOn [t] ts ts' := by
        have := h
        simp only [IOper.slots, hg] at this
        exact this.right
      simp only
      rw [this t (by simp)]
  rw [h1, op_congr (AgreeOn.left (by simpa only [IOper.slots] using h))]

theorem local_val {call : Caller} (hc : LocalCaller call) (o : IOper) (ts : List AVal) : Local (o.val call ts) := by
  unfold IOper.val
  exact local_ite (local_op hc ts _) (local_pure _)

/-! The run in the order of the text, written down. -/

/-- Of each operation: the heap and the slots ahead of it, what it looked at, what it wrote, its value. -/
structure Book (call : Caller) (l : List IOper) (n : Nat) (T : Nat → Heap) (tq : Nat → List AVal) (R W : Nat → Nat) (v : Nat → AVal) : Prop where
  put : ∀ i, i < n → ∀ o, l[i]? = some o → tq (i + 1) = putA (tq i) o.dst (v i)
  loc : ∀ i, i < n → ∀ o, l[i]? = some o → ∀ H : Heap, H.next = (T i).next → (∀ k, (R i).testBit k = true → H.get k = (T i).get k) →
    ∃ H', o.val call (tq i) H = some (v i, H') ∧ H'.next = (T (i + 1)).next ∧ (∀ k, (W i).testBit k = true → H'.get k = (T (i + 1)).get k) ∧ (∀ k, (W i).testBit k = false → H'.get k = H.get k)
  same : ∀ i, i < n → ∀ k, (W i).testBit k = false → (T (i + 1)).get k = (T i).get k
  next : ∀ i, i < n → (T i).next ≤ (T (i + 1)).next
  new : ∀ i, i < n → ∀ k, (T i).next ≤ k → k < (T (i + 1)).next → (W i).testBit k = true
  bnd : ∀ i, i < n → ∀ k, (W i).testBit k = true → k < 2 ^ depth

omit [Env] in
theorem clash_mem {before : List Nat} {rd wr : Nat} : ∀ {seen : List (Nat × Nat × Nat)}, clash before rd wr seen = false → ∀ p ∈ seen, p.1 ∉ before → wr &&& (p.2.1 ||| p.2.2) = 0 ∧ p.2.2 &&& rd = 0
  | [], _, p, hp, _ => by cases hp
  | (i, rd', wr') :: rest, h, p, hp, hb => by
    simp only [clash, Bool.or_eq_false_iff] at h
    rcases List.mem_cons.1 hp with rfl | hp
    · have h1 := h.1
      simp only [Bool.and_eq_false_iff, Bool.not_eq_false', List.contains_eq_mem, decide_eq_true_eq, Bool.and_eq_true, beq_iff_eq] at h1
      rcases h1 with h1 | h1
      · exact absurd h1 hb
      · exact h1
    · exact clash_mem h.2 p hp hb

/-- The run of such a region gives the book, and no two that may come in either order hinder each other. -/
theorem drawA_book {call : Caller} (hloc : LocalCaller call) : ∀ (l : List IOper) (bs : List (List Nat)) (i0 : Nat) (seen : List (Nat × Nat × Nat)) (ts ts' : List AVal) (h h' : Heap),
    l.length = bs.length → drawA call (l.zip bs) i0 seen ts h = some (ts', h') →
    ∃ (T : Nat → Heap) (tq : Nat → List AVal) (R W : Nat → Nat) (v : Nat → AVal), Book call l l.length T tq R W v ∧ (T 0).next = h.next ∧ (T 0).get = h.get ∧ tq 0 = ts ∧ (T l.length).next = h'.next ∧ (T l.length).get = h'.get ∧ tq l.length = ts' ∧
      (∀ i, i < l.length → ∀ p ∈ seen, p.1 ∉ bs.getD i [] → (W i) &&& (p.2.1 ||| p.2.2) = 0 ∧ p.2.2 &&& (R i) = 0) ∧
      (∀ i j, j < i → i < l.length → (i0 + j) ∉ bs.getD i [] → (W i) &&& (R j ||| W j) = 0 ∧ (W j) &&& (R i) = 0)
  | [], bs, i0, seen, ts, ts', h, h', hl, he => by
    simp only [List.zip_nil_left, drawA] at he
    obtain ⟨rfl, rfl⟩ := pure_some he
    refine ⟨fun _ => h, fun _ => ts, fun _ => 0, fun _ => 0, fun _ => aundef, ⟨?_, ?_, ?_, ?_, ?_, ?_⟩, rfl, rfl, rfl, rfl, rfl, rfl, ?_, ?_⟩ <;> intro i <;> simp
  | o :: l, bs, i0, seen, ts, ts', h, h', hl, he => by
    cases bs with
    | nil => simp at hl
    | cons b bs =>
      simp only [List.zip_cons_cons, drawA] at he
      obtain ⟨p, h1, he1, he2⟩ := bind_some he
      clear he
      obtain ⟨ts1, rd, wr⟩ := p
      simp only at he2
      by_cases hcl : clash b rd wr seen = true
      · rw [if_pos hcl] at he2; exact (fail_some he2).elim
      rw [if_neg hcl] at he2
      have hcl' : clash b rd wr seen = false := by simpa using hcl
      -- the first operation
      simp only [apart] at he1
      cases hst : o.step call ts { h with rd := 0, wr := 0 } with
      | none => rw [hst] at he1; cases he1
      | some q =>
        obtain ⟨ts1', hh⟩ := q
        rw [hst] at he1
        simp only [Option.some.injEq, Prod.mk.injEq] at he1
        obtain ⟨⟨rfl, rfl, rfl⟩, rfl⟩ := he1
        rw [step_val] at hst
        obtain ⟨v0, hh', hv0, hp⟩ := bind_some hst
        obtain ⟨hts, rfl⟩ := pure_some hp
        obtain ⟨n0, R0, W0, l0⟩ := local_val hloc o ts _ v0 hh' hv0
        obtain ⟨s1, s2, s3⟩ := l0.self hv0
        simp only [Nat.zero_or] at s1 s2
        obtain ⟨T, tq, R, W, v, bk, b1, b2, b3, b4, b5, b6, b7, b8⟩ := drawA_book hloc l bs (i0 + 1) ((i0, hh'.rd, hh'.wr) :: seen) _ ts' _ h' (by simpa using hl) he2
        refine ⟨fun i => match i with | 0 => h | i + 1 => T i, fun i => match i with | 0 => ts | i + 1 => tq i, fun i => match i with | 0 => R0 | i + 1 => R i, fun i => match i with | 0 => W0 | i + 1 => W i,
          fun i => match i with | 0 => v0 | i + 1 => v i, ⟨?_, ?_, ?_, ?_, ?_, ?_⟩, rfl, rfl, rfl, b4, b5, b6, ?_, ?_⟩
        · intro i hi x hx
          cases i with
          | zero => simp at hx; subst hx; simp only; rw [b3, ← hts]
          | succ i => exact bk.put i (by simpa using hi) x (by simpa using hx)
        · intro i hi x hx H hn hg
          cases i with
          | zero =>
            simp at hx; subst hx
            obtain ⟨H', a1, a2, _, _, a5, a6⟩ := l0.run H hn hg
            refine ⟨H', a1, a2.trans b1.symm, ?_, a6⟩
            intro k hk
            rw [a5 k hk]
            simp only [b2]
            rfl
          | succ i => exact bk.loc i (by simpa using hi) x (by simpa using hx) H hn hg
        · intro i hi k hk
          cases i with
          | zero => simp only [b2]; exact s3 k hk
          | succ i => exact bk.same i (by simpa using hi) k hk
        · intro i hi
          cases i with
          | zero => simp only [b1]; exact n0
          | succ i => exact bk.next i (by simpa using hi)
        · intro i hi k h2 h3
          cases i with
          | zero => simp only [b1] at h3; exact l0.new k h2 h3
          | succ i => exact bk.new i (by simpa using hi) k h2 h3
        · intro i hi k hk
          cases i with
          | zero => exact l0.bnd k hk
          | succ i => exact bk.bnd i (by simpa using hi) k hk
        · intro i hi p hp hb
          cases i with
          | zero =>
            have := clash_mem hcl' p hp (by simpa using hb)
            rw [s1, s2] at this
            exact this
          | succ i =>
            refine b7 i (by simpa using hi) p (by simp [hp]) (by simpa using hb)
        · intro i j hji hi hb
          cases i with
          | zero => omega
          | succ i =>
            cases j with
            | zero =>
              have := b7 i (by simpa using hi) (i0, hh'.rd, hh'.wr) (by simp) (by simpa using hb)
              rw [s1, s2] at this
              exact this
            | succ j =>
              refine b8 i j (by omega) (by simpa using hi) ?_
              have e : i0 + (j + 1) = i0 + 1 + j := by omega
              rw [e] at hb
              simpa using hb

end Go.Hv
