/- Such a region in any order that its bounds allow. -/
import Derived.Test.YtjoemiadbccljaaGreatHvW
namespace Go.Hv
open Go

/-- The blocks behind the operations of a set, the first m ones. -/
def gS (T : Nat → Heap) (W : Nat → Nat) (S : Nat → Bool) : Nat → Nat → Option AObj
  | 0 => (T 0).get
  | m + 1 => fun k => if S m && (W m).testBit k then (T (m + 1)).get k else gS T W S m k

/-- The slots behind the operations of a set, the first m ones. -/
def sS (l : List IOper) (tq : Nat → List AVal) (v : Nat → AVal) (S : Nat → Bool) : Nat → List AVal
  | 0 => tq 0
  | m + 1 => if S m then putA (sS l tq v S m) ((l[m]?).bind (·.dst)) (v m) else sS l tq v S m

theorem and_bit {a b k : Nat} (h : a &&& b = 0) (ha : a.testBit k = true) : b.testBit k = false := by
  have := congrArg (Nat.testBit · k) h
  simp only [Nat.testBit_and, Nat.zero_testBit, ha, Bool.true_and] at this
  exact this

theorem putA_length (ts : List AVal) (d : Option Nat) (v : AVal) : (putA ts d v).length = ts.length := by cases d <;> simp [putA]

theorem putA_getD (ts : List AVal) (d : Option Nat) (v : AVal) (t : Nat) : (putA ts d v).getD t aundef = if d = some t ∧ t < ts.length then v else ts.getD t aundef := by
  cases d with
  | none => simp [putA]
  | some d =>
    simp only [putA, List.getD]
    by_cases e : d = t
    · subst e
      by_cases hl : d < ts.length
      · simp [hl]
      · simp [hl]
    · simp [e]

theorem putA_comm {ts : List AVal} {d d' : Option Nat} {v v' : AVal} (h : ∀ t, d = some t → d' ≠ some t) : putA (putA ts d v) d' v' = putA (putA ts d' v') d v := by
  cases d with
  | none => rfl
  | some d =>
    cases d' with
    | none => rfl
    | some d' =>
      simp only [putA]
      exact List.set_comm _ _ (fun e => h d rfl (by rw [e]))

variable [Env]

section
variable {call : Caller} {l : List IOper} {bs : List (List Nat)} {T : Nat → Heap} {tq : Nat → List AVal} {R W : Nat → Nat} {v : Nat → AVal} {S : Nat → Bool}

/-- What must come ahead of a member is a member. -/
def Down (l : List IOper) (bs : List (List Nat)) (S : Nat → Bool) : Prop := ∀ i, i < l.length → S i = true → ∀ k ∈ bs.getD i [], S k = true

/-- No two that may come in either order hinder each other. -/
structure Free2 (l : List IOper) (bs : List (List Nat)) (R W : Nat → Nat) : Prop where
  mem : ∀ i j, j < i → i < l.length → j ∉ bs.getD i [] → (W i) &&& (R j ||| W j) = 0 ∧ (W j) &&& (R i) = 0
  slot : ∀ i j, j < i → i < l.length → j ∉ bs.getD i [] → ∀ x y, l[j]? = some x → l[i]? = some y → slotsApart x y = true

omit [Env] in
theorem slots_fst {x y : IOper} (h : slotsApart x y = true) {d : Nat} (hd : x.dst = some d) : d ∉ y.slots ∧ y.dst ≠ some d := by
  simp only [slotsApart, hd, Bool.and_eq_true] at h
  have h1 := h.1
  simp at h1
  exact h1

omit [Env] in
theorem slots_snd {x y : IOper} (h : slotsApart x y = true) {d : Nat} (hd : y.dst = some d) : d ∉ x.slots := by
  simp only [slotsApart, hd, Bool.and_eq_true] at h
  have h2 := h.2
  simpa using h2

variable (bk : Book call l l.length T tq R W v) (fr : Free2 l bs R W)
include bk fr

theorem g_below {i : Nat} (hi : i < l.length) (ha : ∀ k ∈ bs.getD i [], S k = true) {k : Nat} (hk : (R i).testBit k = true) : ∀ m, m ≤ i → gS T W S m k = (T m).get k
  | 0, _ => rfl
  | m + 1, hm => by
    simp only [gS]
    by_cases hw : (W m).testBit k = true
    · have hS : S m = true := by
        apply ha
        by_cases hb : m ∈ bs.getD i []
        · exact hb
        · have := and_bit (fr.mem i m (by omega) hi hb).2 hw
          rw [hk] at this; cases this
      simp [hS, hw]
    · have hw' : (W m).testBit k = false := by simpa using hw
      simp only [hw', Bool.and_false, Bool.false_eq_true, if_false]
      rw [g_below hi ha hk m (by omega), bk.same m (by omega) k hw']

omit [Env] bk in
theorem g_above {i : Nat} (hi : i < l.length) (hn : S i = false) (hd : Down l bs S) {k : Nat} (hk : (R i ||| W i).testBit k = true) : ∀ m, i ≤ m → m ≤ l.length → gS T W S m k = gS T W S i k
  | 0, h1, _ => by have : i = 0 := by omega
                   subst this; rfl
  | m + 1, h1, h2 => by
    by_cases e : i = m + 1
    · rw [e]
    · simp only [gS]
      have ih := g_above hi hn hd hk m (by omega) (by omega)
      by_cases hm : S m = true ∧ (W m).testBit k = true
      · exfalso
        by_cases him : i = m
        · subst him; rw [hn] at hm; cases hm.1
        · by_cases hb : i ∈ bs.getD m []
          · have := hd m (by omega) hm.1 i hb
            rw [hn] at this; cases this
          · have := and_bit (fr.mem m i (by omega) (by omega) hb).1 hm.2
            rw [hk] at this; cases this
      · have : (S m && (W m).testBit k) = false := by
          rw [Bool.and_eq_false_iff]
          by_cases h : S m = true
          · right; simpa using fun hh => hm ⟨h, hh⟩
          · left; simpa using h
        simp [this, ih]

theorem g_at {i : Nat} (hi : i < l.length) (hn : S i = false) (ha : ∀ k ∈ bs.getD i [], S k = true) (hd : Down l bs S) {k : Nat} (hk : (R i).testBit k = true) : gS T W S l.length k = (T i).get k := by
  rw [g_above fr hi hn hd (by simp [hk]) l.length (by omega) (Nat.le_refl _), g_below bk fr hi ha hk i (Nat.le_refl _)]

omit [Env] bk in
theorem g_next {i : Nat} (hi : i < l.length) (hn : S i = false) (hd : Down l bs S) (k : Nat) : ∀ m, m ≤ l.length →
    gS T W (fun j => S j || j == i) m k = if i < m ∧ (W i).testBit k = true then (T (i + 1)).get k else gS T W S m k
  | 0, _ => by simp [gS]
  | m + 1, h2 => by
    have ih := g_next hi hn hd k m (by omega)
    simp only [gS]
    by_cases hmi : m = i
    · subst hmi
      simp only [Nat.lt_irrefl, false_and, if_false] at ih
      by_cases hw : (W m).testBit k = true
      · simp [hw]
      · have hw' : (W m).testBit k = false := by simpa using hw
        simp [hw', ih]
    · have e : (m == i) = false := by simpa using hmi
      simp only [e, Bool.or_false]
      by_cases hm : S m = true ∧ (W m).testBit k = true
      · have hcond : (S m && (W m).testBit k) = true := by simp [hm.1, hm.2]
        rw [if_pos hcond, if_pos hcond]
        by_cases hc : i < m + 1 ∧ (W i).testBit k = true
        · exfalso
          by_cases hb : i ∈ bs.getD m []
          · have := hd m (by omega) hm.1 i hb
            rw [hn] at this; cases this
          · have := and_bit (fr.mem m i (by omega) (by omega) hb).1 hm.2
            simp [hc.2] at this
        · rw [if_neg hc]
      · have hcond : (S m && (W m).testBit k) = false := by
          rw [Bool.and_eq_false_iff]
          by_cases h : S m = true
          · right; simpa using fun hh => hm ⟨h, hh⟩
          · left; simpa using h
        simp only [hcond, Bool.false_eq_true, if_false]
        rw [ih]
        by_cases hlt : i < m
        · simp [hlt, show i < m + 1 from by omega]
        · simp [hlt, show ¬ i < m + 1 from by omega]

omit fr in
theorem g_all (hS : ∀ j, j < l.length → S j = true) (k : Nat) : ∀ m, m ≤ l.length → gS T W S m k = (T m).get k
  | 0, _ => rfl
  | m + 1, h => by
    simp only [gS, hS m (by omega), Bool.true_and]
    by_cases hw : (W m).testBit k = true
    · simp [hw]
    · have hw' : (W m).testBit k = false := by simpa using hw
      simp only [hw', Bool.false_eq_true, if_false]
      rw [g_all hS k m (by omega), bk.same m (by omega) k hw']

omit fr in
theorem tq_length : ∀ m, m ≤ l.length → (tq m).length = (tq 0).length
  | 0, _ => rfl
  | m + 1, h => by
    have hm : m < l.length := by omega
    rw [bk.put m hm l[m] (by simp [hm]), putA_length, tq_length m (by omega)]

omit [Env] bk fr in
theorem sS_length : ∀ m, (sS l tq v S m).length = (tq 0).length
  | 0 => rfl
  | m + 1 => by
    simp only [sS]
    split
    · rw [putA_length, sS_length m]
    · exact sS_length m

theorem s_below {i : Nat} (hi : i < l.length) {y : IOper} (hy : l[i]? = some y) (ha : ∀ k ∈ bs.getD i [], S k = true) {t : Nat} (ht : t ∈ y.slots) : ∀ m, m ≤ i → (sS l tq v S m).getD t aundef = (tq m).getD t aundef
  | 0, _ => rfl
  | m + 1, hm => by
    have ih := s_below hi hy ha ht m (by omega)
    have hml : m < l.length := by omega
    have hx : l[m]? = some l[m] := by simp [hml]
    rw [bk.put m hml l[m] hx]
    simp only [sS, hx, Option.bind_some]
    by_cases hd : l[m].dst = some t
    · have hS : S m = true := by
        apply ha
        by_cases hb : m ∈ bs.getD i []
        · exact hb
        · exact absurd ht (slots_fst (fr.slot i m (by omega) hi hb _ _ hx hy) hd).1
      simp only [hS, if_true]
      rw [putA_getD, putA_getD, sS_length, tq_length bk m (by omega), ih]
    · have e1 : (putA (tq m) l[m].dst (v m)).getD t aundef = (tq m).getD t aundef := by rw [putA_getD, if_neg (fun h => hd h.1)]
      rw [e1]
      by_cases hS : S m = true
      · simp only [hS, if_true]
        rw [putA_getD, if_neg (fun h => hd h.1)]; exact ih
      · have : S m = false := by simpa using hS
        simp only [this, Bool.false_eq_true, if_false]
        exact ih

omit [Env] bk in
theorem s_above {i : Nat} (hi : i < l.length) {y : IOper} (hy : l[i]? = some y) (hn : S i = false) (hd : Down l bs S) {t : Nat} (ht : t ∈ y.slots) : ∀ m, i ≤ m → m ≤ l.length → (sS l tq v S m).getD t aundef = (sS l tq v S i).getD t aundef
  | 0, h1, _ => by have : i = 0 := by omega
                   subst this; rfl
  | m + 1, h1, h2 => by
    by_cases e : i = m + 1
    · rw [e]
    · have ih := s_above hi hy hn hd ht m (by omega) (by omega)
      have hml : m < l.length := by omega
      have hx : l[m]? = some l[m] := by simp [hml]
      simp only [sS, hx, Option.bind_some]
      by_cases hS : S m = true
      · simp only [hS, if_true]
        rw [putA_getD, if_neg, ih]
        rintro ⟨hdst, _⟩
        by_cases him : i = m
        · subst him; rw [hn] at hS; cases hS
        · by_cases hb : i ∈ bs.getD m []
          · have := hd m (by omega) hS i hb
            rw [hn] at this; cases this
          · exact (slots_snd (fr.slot m i (by omega) (by omega) hb _ _ hy hx) hdst) ht
      · have : S m = false := by simpa using hS
        simp only [this, Bool.false_eq_true, if_false]
        exact ih

theorem s_at {i : Nat} (hi : i < l.length) {y : IOper} (hy : l[i]? = some y) (hn : S i = false) (ha : ∀ k ∈ bs.getD i [], S k = true) (hd : Down l bs S) : AgreeOn y.slots (sS l tq v S l.length) (tq i) := by
  intro t ht
  rw [s_above fr hi hy hn hd ht l.length (by omega) (Nat.le_refl _), s_below bk fr hi hy ha ht i (Nat.le_refl _)]

omit [Env] bk in
theorem s_next {i : Nat} (hi : i < l.length) {y : IOper} (hy : l[i]? = some y) (hn : S i = false) (hd : Down l bs S) : ∀ m, m ≤ l.length →
    sS l tq v (fun j => S j || j == i) m = if i < m then putA (sS l tq v S m) y.dst (v i) else sS l tq v S m
  | 0, _ => by simp [sS]
  | m + 1, h2 => by
    have ih := s_next hi hy hn hd m (by omega)
    have hml : m < l.length := by omega
    have hx : l[m]? = some l[m] := by simp [hml]
    simp only [sS]
    by_cases hmi : m = i
    · subst hmi
      simp only [Nat.lt_irrefl, if_false] at ih
      simp [hn, ih, hy]
    · have e : (m == i) = false := by simpa using hmi
      simp only [e, Bool.or_false]
      rw [ih]
      by_cases hlt : i < m
      · rw [if_pos hlt, if_pos (show i < m + 1 from by omega)]
        by_cases hS : S m = true
        · simp only [hS, if_true, hx, Option.bind_some]
          refine putA_comm fun t h1 => ?_
          have hb : i ∉ bs.getD m [] := fun hb => by
            have := hd m (by omega) hS i hb
            rw [hn] at this; cases this
          exact (slots_fst (fr.slot m i hlt (by omega) hb _ _ hy hx) h1).2
        · have : S m = false := by simpa using hS
          simp [this]
      · rw [if_neg hlt, if_neg (show ¬ i < m + 1 from by omega)]

omit fr in
theorem s_all (hS : ∀ j, j < l.length → S j = true) : ∀ m, m ≤ l.length → sS l tq v S m = tq m
  | 0, _ => rfl
  | m + 1, h => by
    have hml : m < l.length := by omega
    have hx : l[m]? = some l[m] := by simp [hml]
    simp only [sS, hS m hml, if_true, hx, Option.bind_some]
    rw [s_all hS m (by omega), bk.put m hml l[m] hx]

end

/-! A tree for the blocks of a set. -/

def overlay (u : Tree) : List Nat → Tree → Tree
  | [], t => t
  | k :: ks, t => overlay u ks (Tree.put (depth + 1) t k (u.get k))

omit [Env] in
theorem get_overlay (u : Tree) (j : Nat) : ∀ (ks : List Nat) (t : Tree), (∀ k ∈ ks, k < 2 ^ depth) → (overlay u ks t).get j = if j ∈ ks then u.get j else t.get j
  | [], t, _ => by simp [overlay]
  | k :: ks, t, h => by
    simp only [overlay]
    rw [get_overlay u j ks _ (fun k' hk' => h k' (by simp [hk'])), Tree.get_put _ _ _ _ _ (h k (by simp))]
    by_cases h1 : j ∈ ks
    · simp [h1]
    · by_cases h2 : j = k
      · subst h2; simp [h1]
      · simp [h1, h2]

omit [Env] in
theorem bit_lt {w k : Nat} (h : w.testBit k = true) : k < w := by
  have h1 := Nat.ge_two_pow_of_testBit h
  have h2 : k < 2 ^ k := Nat.lt_two_pow_self
  omega

theorem tree_of {call : Caller} {l : List IOper} {T : Nat → Heap} {tq : Nat → List AVal} {R W : Nat → Nat} {v : Nat → AVal} (bk : Book call l l.length T tq R W v) (S : Nat → Bool) : ∀ m, m ≤ l.length → ∃ t : Tree, ∀ k, t.get k = gS T W S m k
  | 0, _ => ⟨(T 0).tree, fun _ => rfl⟩
  | m + 1, h => by
    obtain ⟨t, ht⟩ := tree_of bk S m (by omega)
    cases hS : S m with
    | false => exact ⟨t, fun k => by simp [gS, hS, ht]⟩
    | true =>
      refine ⟨overlay (T (m + 1)).tree ((List.range (W m)).filter fun k => (W m).testBit k) t, fun k => ?_⟩
      rw [get_overlay _ _ _ _ (fun k hk => bk.bnd m (by omega) k (by simpa using (List.mem_filter.1 hk).2))]
      simp only [gS, hS, Bool.true_and, List.mem_filter, List.mem_range]
      by_cases hw : (W m).testBit k = true
      · simp only [hw, and_true, bit_lt hw, if_true]
        rfl
      · simp only [hw, and_false, if_false, Bool.false_eq_true]
        exact ht k

end Go.Hv
