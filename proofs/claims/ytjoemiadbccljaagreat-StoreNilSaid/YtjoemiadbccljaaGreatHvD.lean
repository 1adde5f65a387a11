/- How the abstract values and the abstract heap stand to the model's. -/
import Derived.Test.YtjoemiadbccljaaGreatHvB
import Derived.Laws.CopyRow
namespace Go.Hv
open Go
variable [Env]

/-- Which block of the world an abstract one is, and how many elements it bears (where that is open). -/
abbrev Ren := Nat → Option (Nat × Nat)

mutual
def VRel (ρ : Ren) : AVal → Value → Prop
  | .bool b, V => V = .bool b
  | .int k n, V => V = .int k n
  | .str l, V => V = .string ⟨l.toArray⟩
  | .ptr none, V => V = .pointer none
  | .ptr (some (k, o)), V => ∃ B q, ρ k = some (B, q) ∧ V = .pointer (some ⟨B, o, none⟩)
  | .slice none n c op, V => op = false ∧ V = .slice none n c
  | .slice (some (k, o)) n c false, V => ∃ B q, ρ k = some (B, q) ∧ V = .slice (some ⟨B, o, none⟩) n c
  | .slice (some (k, o)) n c true, V => ∃ B q, ρ k = some (B, q) ∧ n + c ≤ q ∧ V = .slice (some ⟨B, o, none⟩) n (q - c)
  | .eslice, V => ∃ a c, V = .slice (some a) 0 c
  | .map none, V => V = .map none
  | .map (some r), V => ∃ B q, ρ r = some (B, q) ∧ V = .map (some B)
  | .func fn fs cs, V => ∃ Fs Cs, VRels ρ fs Fs ∧ VRels ρ cs Cs ∧ V = .func fn Fs.toArray Cs.toArray
  | .nilFunc, V => V = .nilFunc
  | .iface t v, V => ∃ W, VRel ρ v W ∧ V = .iface t W
  | .nilIface, V => V = .nilIface
  | .agg cs, V => ∃ Cs, VRels ρ cs Cs ∧ V = .agg Cs.toArray
  | .tuple vs, V => ∃ Vs, VRels ρ vs Vs ∧ V = .tuple Vs.toArray
  | .tok n, V => V = Env.val n
def VRels (ρ : Ren) : List AVal → List Value → Prop
  | [], Vs => Vs = []
  | v :: vs, Vs => ∃ W Ws, VRel ρ v W ∧ VRels ρ vs Ws ∧ Vs = W :: Ws
end

def Ren.le (ρ ρ' : Ren) : Prop := ∀ k x, ρ k = some x → ρ' k = some x

mutual
theorem VRel.mono {ρ ρ' : Ren} (h : ρ.le ρ') : ∀ {v : AVal} {V : Value}, VRel ρ v V → VRel ρ' v V
  | .bool _, _, e => by simpa only [VRel] using e
  | .int _ _, _, e => by simpa only [VRel] using e
  | .str _, _, e => by simpa only [VRel] using e
  | .ptr none, _, e => by simpa only [VRel] using e
  | .ptr (some (_, _)), _, e => by
    simp only [VRel] at e ⊢
    obtain ⟨B, q, h1, h2⟩ := e
    exact ⟨B, q, h _ _ h1, h2⟩
  | .slice none _ _ _, _, e => by simpa only [VRel] using e
  | .slice (some (_, _)) _ _ false, _, e => by
    simp only [VRel] at e ⊢
    obtain ⟨B, q, h1, h2⟩ := e
    exact ⟨B, q, h _ _ h1, h2⟩
  | .slice (some (_, _)) _ _ true, _, e => by
    simp only [VRel] at e ⊢
    obtain ⟨B, q, h1, h2⟩ := e
    exact ⟨B, q, h _ _ h1, h2⟩
  | .eslice, _, e => by simpa only [VRel] using e
  | .map none, _, e => by simpa only [VRel] using e
  | .map (some _), _, e => by
    simp only [VRel] at e ⊢
    obtain ⟨B, q, h1, h2⟩ := e
    exact ⟨B, q, h _ _ h1, h2⟩
  | .func _ fs cs, _, e => by
    simp only [VRel] at e ⊢
    obtain ⟨F, C, h1, h2, h3⟩ := e
    exact ⟨F, C, VRels.mono h h1, VRels.mono h h2, h3⟩
  | .nilFunc, _, e => by simpa only [VRel] using e
  | .iface _ v, _, e => by
    simp only [VRel] at e ⊢
    obtain ⟨W, h1, h2⟩ := e
    exact ⟨W, VRel.mono h h1, h2⟩
  | .nilIface, _, e => by simpa only [VRel] using e
  | .agg cs, _, e => by
    simp only [VRel] at e ⊢
    obtain ⟨C, h1, h2⟩ := e
    exact ⟨C, VRels.mono h h1, h2⟩
  | .tuple vs, _, e => by
    simp only [VRel] at e ⊢
    obtain ⟨C, h1, h2⟩ := e
    exact ⟨C, VRels.mono h h1, h2⟩
  | .tok _, _, e => by simpa only [VRel] using e
theorem VRels.mono {ρ ρ' : Ren} (h : ρ.le ρ') : ∀ {vs : List AVal} {Vs : List Value}, VRels ρ vs Vs → VRels ρ' vs Vs
  | [], _, e => by simpa only [VRels] using e
  | v :: vs, _, e => by
    simp only [VRels] at e ⊢
    obtain ⟨W, Ws, h1, h2, h3⟩ := e
    exact ⟨W, Ws, VRel.mono h h1, VRels.mono h h2, h3⟩
end

theorem VRels.nil_iff {ρ : Ren} {Vs : List Value} : VRels ρ [] Vs ↔ Vs = [] := by simp only [VRels]
theorem VRels.nil {ρ : Ren} : VRels ρ [] [] := by simp only [VRels]
theorem VRels.cons {ρ : Ren} {v : AVal} {V : Value} {vs : List AVal} {Vs : List Value} (h : VRel ρ v V) (k : VRels ρ vs Vs) : VRels ρ (v :: vs) (V :: Vs) := by
  simp only [VRels]; exact ⟨V, Vs, h, k, rfl⟩
theorem VRels.of_cons {ρ : Ren} {v : AVal} {vs : List AVal} {Vs : List Value} (h : VRels ρ (v :: vs) Vs) : ∃ W Ws, VRel ρ v W ∧ VRels ρ vs Ws ∧ Vs = W :: Ws := by
  simpa only [VRels] using h

theorem VRels.length {ρ : Ren} : ∀ {vs : List AVal} {Vs : List Value}, VRels ρ vs Vs → Vs.length = vs.length
  | [], _, h => by rw [VRels.nil_iff] at h; simp [h]
  | _ :: _, _, h => by
    obtain ⟨W, Ws, _, h2, rfl⟩ := h.of_cons
    simp [h2.length]

theorem VRels.get {ρ : Ren} : ∀ {vs : List AVal} {Vs : List Value} {i : Nat} {v : AVal}, VRels ρ vs Vs → vs[i]? = some v → ∃ V, Vs[i]? = some V ∧ VRel ρ v V
  | [], _, _, _, _, h => by simp at h
  | _ :: _, _, 0, _, h, k => by
    obtain ⟨W, Ws, h1, _, rfl⟩ := h.of_cons
    simp at k; subst k
    exact ⟨W, by simp, h1⟩
  | _ :: _, _, i + 1, _, h, k => by
    obtain ⟨W, Ws, _, h2, rfl⟩ := h.of_cons
    simp at k
    obtain ⟨V, h3, h4⟩ := h2.get k
    exact ⟨V, by simpa using h3, h4⟩

theorem VRels.append {ρ : Ren} : ∀ {vs us : List AVal} {Vs Us : List Value}, VRels ρ vs Vs → VRels ρ us Us → VRels ρ (vs ++ us) (Vs ++ Us)
  | [], _, _, _, h, k => by rw [VRels.nil_iff] at h; simpa [h] using k
  | _ :: _, _, _, _, h, k => by
    obtain ⟨W, Ws, h1, h2, rfl⟩ := h.of_cons
    exact VRels.cons h1 (h2.append k)

theorem VRels.take {ρ : Ren} : ∀ {vs : List AVal} {Vs : List Value} (n : Nat), VRels ρ vs Vs → VRels ρ (vs.take n) (Vs.take n)
  | [], _, n, h => by rw [VRels.nil_iff] at h; simp [h, VRels.nil]
  | _ :: _, _, 0, h => by simp [VRels.nil]
  | _ :: _, _, n + 1, h => by
    obtain ⟨W, Ws, h1, h2, rfl⟩ := h.of_cons
    exact VRels.cons h1 (h2.take n)

theorem VRels.drop {ρ : Ren} : ∀ {vs : List AVal} {Vs : List Value} (n : Nat), VRels ρ vs Vs → VRels ρ (vs.drop n) (Vs.drop n)
  | [], _, n, h => by rw [VRels.nil_iff] at h; simp [h, VRels.nil]
  | _ :: _, _, 0, h => by simpa using h
  | _ :: _, _, n + 1, h => by
    obtain ⟨W, Ws, h1, h2, rfl⟩ := h.of_cons
    exact h2.drop n

theorem VRels.set {ρ : Ren} : ∀ {vs : List AVal} {Vs : List Value} (i : Nat) {v : AVal} {V : Value}, VRels ρ vs Vs → VRel ρ v V → VRels ρ (vs.set i v) (Vs.set i V)
  | [], _, _, _, _, h, _ => by rw [VRels.nil_iff] at h; simp [h, VRels.nil]
  | _ :: _, _, 0, _, _, h, k => by
    obtain ⟨W, Ws, _, h2, rfl⟩ := h.of_cons
    exact VRels.cons k h2
  | _ :: _, _, i + 1, _, _, h, k => by
    obtain ⟨W, Ws, h1, h2, rfl⟩ := h.of_cons
    exact VRels.cons h1 (h2.set i k)

theorem VRels.replicate {ρ : Ren} {v : AVal} {V : Value} (h : VRel ρ v V) : ∀ n, VRels ρ (List.replicate n v) (List.replicate n V)
  | 0 => VRels.nil
  | n + 1 => VRels.cons h (VRels.replicate h n)

theorem VRels.one {ρ : Ren} {v : AVal} {V : Value} (h : VRel ρ v V) : VRels ρ [v] [V] := VRels.cons h VRels.nil

theorem VRel.undef {ρ : Ren} : VRel ρ aundef undef := by
  simp only [aundef, VRel, VRels]; exact ⟨[], rfl, rfl⟩

theorem VRels.getD {ρ : Ren} {vs : List AVal} {Vs : List Value} (h : VRels ρ vs Vs) (i : Nat) : VRel ρ (vs.getD i aundef) (Vs.getD i undef) := by
  cases hi : vs[i]? with
  | some v =>
    obtain ⟨V, h1, h2⟩ := h.get hi
    simpa [List.getD, hi, h1] using h2
  | none =>
    have h1 : Vs[i]? = none := by
      rw [List.getElem?_eq_none_iff] at hi ⊢
      rw [h.length]; exact hi
    simp only [List.getD, hi, h1, Option.getD_none]
    exact VRel.undef

def asort : AVal → Nat
  | .agg _ => 1
  | .tuple _ => 2
  | .bool _ => 3
  | _ => 0

theorem VRel.sort {ρ : Ren} {v : AVal} {V : Value} (h : VRel ρ v V) : sortOf V = asort v := by
  cases v with
  | bool => simp only [VRel] at h; subst h; rfl
  | int => simp only [VRel] at h; subst h; rfl
  | str => simp only [VRel] at h; subst h; rfl
  | ptr a =>
    rcases a with _ | ⟨k, o⟩ <;> simp only [VRel] at h
    · subst h; rfl
    · obtain ⟨_, _, _, rfl⟩ := h; rfl
  | slice a n c op =>
    rcases a with _ | ⟨k, o⟩
    · simp only [VRel] at h; obtain ⟨_, rfl⟩ := h; rfl
    · cases op <;> simp only [VRel] at h
      · obtain ⟨_, _, _, rfl⟩ := h; rfl
      · obtain ⟨_, _, _, _, rfl⟩ := h; rfl
  | eslice => simp only [VRel] at h; obtain ⟨_, _, rfl⟩ := h; rfl
  | map r =>
    rcases r with _ | r <;> simp only [VRel] at h
    · subst h; rfl
    · obtain ⟨_, _, _, rfl⟩ := h; rfl
  | func => simp only [VRel] at h; obtain ⟨_, _, _, _, rfl⟩ := h; rfl
  | nilFunc => simp only [VRel] at h; subst h; rfl
  | iface => simp only [VRel] at h; obtain ⟨_, _, rfl⟩ := h; rfl
  | nilIface => simp only [VRel] at h; subst h; rfl
  | agg => simp only [VRel] at h; obtain ⟨_, _, rfl⟩ := h; rfl
  | tuple => simp only [VRel] at h; obtain ⟨_, _, rfl⟩ := h; rfl
  | tok n => simp only [VRel] at h; subst h; exact Env.sort n

/-- A value's cells. -/
theorem VRel.cells {ρ : Ren} {v : AVal} {V : Value} (h : VRel ρ v V) : VRels ρ v.cells V.cells.toList := by
  by_cases hv : asort v = 1
  · cases v <;> simp [asort] at hv
    simp only [VRel] at h
    obtain ⟨Cs, h1, rfl⟩ := h
    simpa [AVal.cells, Value.cells] using h1
  · have e1 : v.cells = [v] := by cases v <;> first | rfl | simp [asort] at hv
    have e2 : V.cells = #[V] := by
      rw [← h.sort] at hv
      cases V <;> first | rfl | simp [sortOf] at hv
    rw [e1, e2]
    exact VRels.one h

theorem VRel.oneCell {ρ : Ren} {v : AVal} {V : Value} (h : VRel ρ v V) (hv : v.oneCell = true) : V.oneCell' = true := by
  have h0 : asort v = 0 ∨ asort v = 3 := by cases v <;> first | exact .inl rfl | exact .inr rfl | simp [AVal.oneCell] at hv
  rw [← h.sort] at h0
  cases V <;> first | rfl | simp [sortOf] at h0

theorem VRels.oneCell {ρ : Ren} : ∀ {vs : List AVal} {Vs : List Value}, VRels ρ vs Vs → vs.all AVal.oneCell = true → ∀ V ∈ Vs, V.oneCell' = true
  | [], _, h, _ => by rw [VRels.nil_iff] at h; simp [h]
  | _ :: _, _, h, k => by
    obtain ⟨W, Ws, h1, h2, rfl⟩ := h.of_cons
    simp only [List.all_cons, Bool.and_eq_true] at k
    intro V hV
    rcases List.mem_cons.1 hV with rfl | hV
    · exact h1.oneCell k.1
    · exact h2.oneCell k.2 V hV

theorem VRels.splice {ρ : Ren} {cs vs : List AVal} {Cs Vs : List Value} (off : Nat) (h : VRels ρ cs Cs) (k : VRels ρ vs Vs) :
    VRels ρ (splice cs off vs) (Cs.take off ++ Vs ++ Cs.drop (off + Vs.length)) := by
  rw [Hv.splice, k.length]
  exact ((h.take off).append k).append (h.drop _)

theorem VRels.sub {ρ : Ren} {cs : List AVal} {Cs : List Value} (off n : Nat) (h : VRels ρ cs Cs) : VRels ρ (sub cs off n) ((Cs.drop off).take n) := by
  rw [Hv.sub]; exact (h.drop off).take n

/-! The world's blocks. -/

def putBlock (w : World) (r : Nat) (o : Obj) : World := { w with heap := w.heap.setIfInBounds r o }

omit [Env] in
theorem setRow_eq (w : World) (g : Nat) (cur : Array Value) (t : TypeId) (new : Array Value) (h : w.heap[g]? = some (.cells cur t (0, 0))) :
    w.setRow g new = putBlock w g (.cells new t (0, 0)) := by
  have hlt : g < w.heap.size := (Array.getElem?_eq_some_iff.1 h).1
  have hv : w.heap[g] = .cells cur t (0, 0) := (Array.getElem?_eq_some_iff.1 h).2
  unfold World.setRow putBlock
  congr 1
  apply Array.ext_getElem?
  intro i
  rw [Array.getElem?_modify, Array.getElem?_setIfInBounds]
  by_cases hi : g = i
  · subst hi; simp [hlt, hv]
  · simp [hi]

/-- A list of entries, and the model's. -/
def ERels (ρ : Ren) : List (AVal × AVal) → List MapEntry → Prop
  | [], Es => Es = []
  | (k, v) :: es, Es => ∃ E Rs, VRel ρ k E.key ∧ VRel ρ v E.val ∧ ERels ρ es Rs ∧ Es = E :: Rs

/-- How long a row is: as told, or as many elements as its block bears. -/
def Fits (q : Nat) (L1 L2 : List Value) : Option Nat → Prop
  | none => L2 = []
  | some n => L1.length + L2.length = q * n

/-- A block stands for one of the world. -/
def ORel (ρ : Ren) (q : Nat) : AObj → Obj → Prop
  | .cells c e op, X => ∃ L1 L2, VRels ρ c L1 ∧ X = .cells (L1 ++ L2).toArray e (0, 0) ∧ Fits q L1 L2 op
  | .map es bs clk, X => ∃ Es, ERels ρ es Es ∧ Es.map (·.born) = bs ∧ (Es.map (·.born)).Nodup ∧ (∀ E ∈ Es, E.born < clk) ∧ X = .map Es.toArray clk
  | .iter none since seen last, X => X = .mapIter none since seen.toArray last
  | .iter (some r) since seen last, X => ∃ B q, ρ r = some (B, q) ∧ X = .mapIter (some B) since seen.toArray last

structure HRel (ρ : Ren) (g : Nat → Option AObj) (w : World) : Prop where
  obj : ∀ k o, g k = some o → ∃ B q X, ρ k = some (B, q) ∧ w.heap[B]? = some X ∧ ORel ρ q o X
  inj : ∀ k l o o' B q q', g k = some o → g l = some o' → ρ k = some (B, q) → ρ l = some (B, q') → k = l

/-- From one state to the next: the blocks numbered n to n' are new. -/
structure Goes (n n' : Nat) (ρ : Ren) (g : Nat → Option AObj) (w : World) (ρ' : Ren) (g' : Nat → Option AObj) (w' : World) : Prop where
  ext : ∀ k, ¬ (n ≤ k ∧ k < n') → ρ' k = ρ k
  rel : HRel ρ' g' w'
  size : w.heap.size ≤ w'.heap.size
  keep : ∀ b, b < w.heap.size → (∀ k o q, g k = some o → ρ k ≠ some (b, q)) → w'.heap[b]? = w.heap[b]?
  fresh : ∀ k o B q, g' k = some o → ρ' k = some (B, q) → w.heap.size ≤ B ∨ ∃ l o' q', g l = some o' ∧ ρ l = some (B, q')
  os : w'.os = w.os
  tape : w'.tape = w.tape
  output : w'.output = w.output

/-- No block of those numbers is named yet. -/
def Free (ρ : Ren) (n n' : Nat) : Prop := ∀ k, n ≤ k → k < n' → ρ k = none

theorem Goes.le {n n' : Nat} {ρ ρ' : Ren} {g g' : Nat → Option AObj} {w w' : World} (h : Goes n n' ρ g w ρ' g' w') (hf : Free ρ n n') : ρ.le ρ' := by
  intro k x hk
  by_cases hr : n ≤ k ∧ k < n'
  · rw [hf k hr.1 hr.2] at hk; cases hk
  · rw [h.ext k hr]; exact hk

theorem Goes.refl {n : Nat} {ρ : Ren} {g : Nat → Option AObj} {w : World} (h : HRel ρ g w) : Goes n n ρ g w ρ g w :=
  ⟨fun _ _ => rfl, h, Nat.le_refl _, fun _ _ _ => rfl, fun k o _ q hk hr => Or.inr ⟨k, o, q, hk, hr⟩, rfl, rfl, rfl⟩

theorem Goes.trans {n m n' : Nat} {ρ ρ1 ρ' : Ren} {g g1 g' : Nat → Option AObj} {w w1 w' : World} (hn : n ≤ m) (hm : m ≤ n')
    (h : Goes n m ρ g w ρ1 g1 w1) (k : Goes m n' ρ1 g1 w1 ρ' g' w') : Goes n n' ρ g w ρ' g' w' where
  ext := fun i hi => by rw [k.ext i (by omega), h.ext i (by omega)]
  rel := k.rel
  size := Nat.le_trans h.size k.size
  keep := fun b hb hno => by
    rw [k.keep b (Nat.lt_of_lt_of_le hb h.size) (fun i o q hi hr => ?_), h.keep b hb hno]
    rcases h.fresh i o b q hi hr with h1 | ⟨l, o', q', h1, h2⟩
    · omega
    · exact hno l o' q' h1 h2
  fresh := fun i o B q hi hr => by
    rcases k.fresh i o B q hi hr with h1 | ⟨l, o', q', h1, h2⟩
    · exact Or.inl (Nat.le_trans h.size h1)
    · exact h.fresh l o' B q' h1 h2
  os := k.os.trans h.os
  tape := k.tape.trans h.tape
  output := k.output.trans h.output

/-! The steps. -/

def upd (g : Nat → Option AObj) (k : Nat) (o : Option AObj) : Nat → Option AObj := fun j => if j = k then o else g j
def Ren.set (ρ : Ren) (k : Nat) (x : Nat × Nat) : Ren := fun j => if j = k then some x else ρ j

omit [Env] in
theorem upd_same (g : Nat → Option AObj) (k : Nat) (o : Option AObj) : upd g k o k = o := by simp [upd]
omit [Env] in
theorem upd_other (g : Nat → Option AObj) {k j : Nat} (o : Option AObj) (h : j ≠ k) : upd g k o j = g j := by simp [upd, h]

omit [Env] in
theorem Ren.set_le {ρ : Ren} {k : Nat} (x : Nat × Nat) (h : ρ k = none) : ρ.le (ρ.set k x) := by
  intro j y hj
  by_cases e : j = k
  · subst e; rw [h] at hj; cases hj
  · simp [Ren.set, e, hj]

theorem ERels.mono {ρ ρ' : Ren} (h : ρ.le ρ') : ∀ {es : List (AVal × AVal)} {Es : List MapEntry}, ERels ρ es Es → ERels ρ' es Es
  | [], _, e => e
  | (_, _) :: _, _, ⟨E, Rs, h1, h2, h3, h4⟩ => ⟨E, Rs, h1.mono h, h2.mono h, ERels.mono h h3, h4⟩

theorem ORel.mono {ρ ρ' : Ren} (h : ρ.le ρ') {q : Nat} {o : AObj} {X : Obj} (k : ORel ρ q o X) : ORel ρ' q o X := by
  cases o with
  | cells c e op => obtain ⟨L1, L2, h1, h2, h3⟩ := k; exact ⟨L1, L2, h1.mono h, h2, h3⟩
  | map es bs clk => obtain ⟨Es, h1, h2, h3, h4⟩ := k; exact ⟨Es, h1.mono h, h2, h3, h4⟩
  | iter m since seen last =>
    cases m with
    | none => exact k
    | some r => obtain ⟨B, q', h1, h2⟩ := k; exact ⟨B, q', h _ _ h1, h2⟩

omit [Env] in
theorem putBlock_same {w : World} {r : Nat} {o : Obj} (h : r < w.heap.size) : (putBlock w r o).heap[r]? = some o := by simp [putBlock, h]
omit [Env] in
theorem putBlock_other {w : World} {r k : Nat} {o : Obj} (h : k ≠ r) : (putBlock w r o).heap[k]? = w.heap[k]? := by
  simp [putBlock, Array.getElem?_setIfInBounds_ne (Ne.symm h)]
omit [Env] in
theorem putBlock_size {w : World} {r : Nat} {o : Obj} : (putBlock w r o).heap.size = w.heap.size := by simp [putBlock]

theorem HRel.lt {ρ : Ren} {g : Nat → Option AObj} {w : World} (h : HRel ρ g w) {k : Nat} {o : AObj} {B q : Nat} (hk : g k = some o) (hr : ρ k = some (B, q)) : B < w.heap.size := by
  obtain ⟨B', q', X, h1, h2, _⟩ := h.obj k o hk
  rw [hr] at h1; cases h1
  exact (Array.getElem?_eq_some_iff.1 h2).1

theorem goes_write {ρ : Ren} {g : Nat → Option AObj} {w : World} (h : HRel ρ g w) {k : Nat} {o o' : AObj} {B q : Nat} {X : Obj} (n : Nat)
    (hk : g k = some o) (hr : ρ k = some (B, q)) (hX : ORel ρ q o' X) : Goes n n ρ g w ρ (upd g k (some o')) (putBlock w B X) where
  ext := fun _ _ => rfl
  rel := by
    refine ⟨fun j p hj => ?_, fun j l p p' C x x' hj hl hrj hrl => ?_⟩
    · by_cases e : j = k
      · subst e
        rw [upd_same] at hj; cases hj
        exact ⟨B, q, X, hr, putBlock_same (h.lt hk hr), hX⟩
      · rw [upd_other _ _ e] at hj
        obtain ⟨B', q', X', h1, h2, h3⟩ := h.obj j p hj
        have hne : B' ≠ B := fun hb => e (h.inj j k p o B q' q hj hk (hb ▸ h1) hr)
        exact ⟨B', q', X', h1, by rw [putBlock_other hne]; exact h2, h3⟩
    · have hg : ∀ i p, upd g k (some o') i = some p → ∃ p, g i = some p := by
        intro i p hi
        by_cases e : i = k
        · subst e; exact ⟨o, hk⟩
        · rw [upd_other _ _ e] at hi; exact ⟨p, hi⟩
      obtain ⟨p1, h1⟩ := hg j p hj
      obtain ⟨p2, h2⟩ := hg l p' hl
      exact h.inj j l p1 p2 C x x' h1 h2 hrj hrl
  size := by rw [putBlock_size]; exact Nat.le_refl _
  keep := fun b _ hno => putBlock_other (fun e => hno k o q hk (e ▸ hr))
  fresh := fun j p C x hj hrj => Or.inr (by
    by_cases e : j = k
    · subst e; exact ⟨j, o, x, hk, hrj⟩
    · rw [upd_other _ _ e] at hj; exact ⟨j, p, x, hj, hrj⟩)
  os := rfl
  tape := rfl
  output := rfl

theorem goes_alloc {ρ : Ren} {g : Nat → Option AObj} {w : World} (h : HRel ρ g w) {n : Nat} {o : AObj} {X : Obj} (q : Nat)
    (hn : ρ n = none) (hX : ORel ρ q o X) : Goes n (n + 1) ρ g w (ρ.set n (w.heap.size, q)) (upd g n (some o)) (w.alloc X) where
  ext := fun k hk => by have : k ≠ n := by omega
                        simp [Ren.set, this]
  rel := by
    have hgn : g n = none := by
      cases hg : g n with
      | none => rfl
      | some p => obtain ⟨B, q, X, h1, _⟩ := h.obj n p hg; rw [hn] at h1; cases h1
    have hnew : (w.alloc X).heap[w.heap.size]? = some X := by show (w.heap.push X)[w.heap.size]? = _; simp
    have hold : ∀ b, b < w.heap.size → (w.alloc X).heap[b]? = w.heap[b]? := fun b hb => by
      show (w.heap.push X)[b]? = _; rw [Array.getElem?_push]
      rw [if_neg (by omega)]
    refine ⟨fun j p hj => ?_, fun j l p p' C x x' hj hl hrj hrl => ?_⟩
    · by_cases e : j = n
      · subst e
        rw [upd_same] at hj; cases hj
        exact ⟨w.heap.size, q, X, by simp [Ren.set], hnew, hX.mono (Ren.set_le _ hn)⟩
      · rw [upd_other _ _ e] at hj
        obtain ⟨B', q', X', h1, h2, h3⟩ := h.obj j p hj
        exact ⟨B', q', X', by simp [Ren.set, e, h1], by rw [hold _ (h.lt hj h1)]; exact h2, h3.mono (Ren.set_le _ hn)⟩
    · by_cases e : j = n
      · by_cases e' : l = n
        · rw [e, e']
        · exfalso
          subst e
          rw [upd_other _ _ e'] at hl
          simp [Ren.set] at hrj
          have h1 : ρ l = some (C, x') := by simpa [Ren.set, e'] using hrl
          have := h.lt hl h1
          omega
      · by_cases e' : l = n
        · exfalso
          subst e'
          rw [upd_other _ _ e] at hj
          simp [Ren.set] at hrl
          have h1 : ρ j = some (C, x) := by simpa [Ren.set, e] using hrj
          have := h.lt hj h1
          omega
        · rw [upd_other _ _ e] at hj
          rw [upd_other _ _ e'] at hl
          exact h.inj j l p p' C x x' hj hl (by simpa [Ren.set, e] using hrj) (by simpa [Ren.set, e'] using hrl)
  size := by simp
  keep := fun b hb _ => by
    show (w.heap.push X)[b]? = _; rw [Array.getElem?_push]
    rw [if_neg (by omega)]
  fresh := fun j p C x hj hrj => by
    by_cases e : j = n
    · subst e
      simp [Ren.set] at hrj
      left; omega
    · rw [upd_other _ _ e] at hj
      exact Or.inr ⟨j, p, x, hj, by simpa [Ren.set, e] using hrj⟩
  os := rfl
  tape := rfl
  output := rfl

theorem goes_kill {ρ : Ren} {g : Nat → Option AObj} {w : World} (h : HRel ρ g w) (n k : Nat) : Goes n n ρ g w ρ (upd g k none) w where
  ext := fun _ _ => rfl
  rel := by
    have hg : ∀ i p, upd g k none i = some p → g i = some p := by
      intro i p hi
      by_cases e : i = k
      · subst e; rw [upd_same] at hi; cases hi
      · rwa [upd_other _ _ e] at hi
    exact ⟨fun j p hj => h.obj j p (hg j p hj), fun j l p p' C x x' hj hl => h.inj j l p p' C x x' (hg _ _ hj) (hg _ _ hl)⟩
  size := Nat.le_refl _
  keep := fun _ _ _ => rfl
  fresh := fun j p C x hj hrj => Or.inr (by
    by_cases e : j = k
    · subst e; rw [upd_same] at hj; cases hj
    · rw [upd_other _ _ e] at hj; exact ⟨j, p, x, hj, hrj⟩)
  os := rfl
  tape := rfl
  output := rfl

/-- A block goes on under another number, written anew. -/
theorem goes_move {ρ : Ren} {g : Nat → Option AObj} {w : World} (h : HRel ρ g w) {n k : Nat} {o o' : AObj} {B q : Nat} {X : Obj}
    (hk : g k = some o) (hr : ρ k = some (B, q)) (hn : ρ n = none) (hX : ORel ρ q o' X) :
    Goes n (n + 1) ρ g w (ρ.set n (B, q)) (upd (upd g k none) n (some o')) (putBlock w B X) where
  ext := fun j hj => by have : j ≠ n := by omega
                        simp [Ren.set, this]
  rel := by
    have hkn : k ≠ n := fun e => by subst e; rw [hr] at hn; cases hn
    have hg : ∀ i p, i ≠ n → upd (upd g k none) n (some o') i = some p → g i = some p ∧ i ≠ k := by
      intro i p hi hp
      rw [upd_other _ _ hi] at hp
      by_cases e : i = k
      · subst e; rw [upd_same] at hp; cases hp
      · rw [upd_other _ _ e] at hp; exact ⟨hp, e⟩
    refine ⟨fun j p hj => ?_, fun j l p p' C x x' hj hl hrj hrl => ?_⟩
    · by_cases e : j = n
      · subst e
        rw [upd_same] at hj; cases hj
        exact ⟨B, q, X, by simp [Ren.set], putBlock_same (h.lt hk hr), hX.mono (Ren.set_le _ hn)⟩
      · obtain ⟨h1, h2⟩ := hg j p e hj
        obtain ⟨B', q', X', h3, h4, h5⟩ := h.obj j p h1
        have hne : B' ≠ B := fun hb => h2 (h.inj j k p o B q' q h1 hk (hb ▸ h3) hr)
        exact ⟨B', q', X', by simp [Ren.set, e, h3], by rw [putBlock_other hne]; exact h4, h5.mono (Ren.set_le _ hn)⟩
    · by_cases e : j = n
      · by_cases e' : l = n
        · rw [e, e']
        · exfalso
          obtain ⟨h1, h2⟩ := hg l p' e' hl
          subst e
          simp [Ren.set] at hrj
          have h3 : ρ l = some (C, x') := by simpa [Ren.set, e'] using hrl
          exact h2 (h.inj l k p' o B x' q h1 hk (hrj.1 ▸ h3) hr)
      · by_cases e' : l = n
        · exfalso
          obtain ⟨h1, h2⟩ := hg j p e hj
          subst e'
          simp [Ren.set] at hrl
          have h3 : ρ j = some (C, x) := by simpa [Ren.set, e] using hrj
          exact h2 (h.inj j k p o B x q h1 hk (hrl.1 ▸ h3) hr)
        · exact h.inj j l p p' C x x' (hg _ _ e hj).1 (hg _ _ e' hl).1 (by simpa [Ren.set, e] using hrj) (by simpa [Ren.set, e'] using hrl)
  size := by rw [putBlock_size]; exact Nat.le_refl _
  keep := fun b _ hno => putBlock_other (fun e => hno k o q hk (e ▸ hr))
  fresh := fun j p C x hj hrj => Or.inr (by
    by_cases e : j = n
    · subst e
      simp [Ren.set] at hrj
      exact ⟨k, o, q, hk, by rw [hr, hrj.1]⟩
    · rw [upd_other _ _ e] at hj
      by_cases e' : j = k
      · subst e'; rw [upd_same] at hj; cases hj
      · rw [upd_other _ _ e'] at hj
        exact ⟨j, p, x, hj, by simpa [Ren.set, e] using hrj⟩)
  os := rfl
  tape := rfl
  output := rfl

theorem HRel.drew {ρ : Ren} {g : Nat → Option AObj} {w : World} (h : HRel ρ g w) : HRel ρ g w.drew := ⟨h.obj, h.inj⟩

theorem goes_drew {ρ : Ren} {g : Nat → Option AObj} {w : World} (h : HRel ρ g w) (n : Nat) : Goes n n ρ g w ρ g w.drew :=
  ⟨fun _ _ => rfl, h.drew, Nat.le_refl _, fun _ _ _ => rfl, fun k o _ q hk hr => Or.inr ⟨k, o, q, hk, hr⟩, rfl, rfl, rfl⟩

/-- The blocks told otherwise, alike. -/
theorem Goes.congr {n n' : Nat} {ρ ρ' : Ren} {g g' g1 : Nat → Option AObj} {w w' : World} (h : Goes n n' ρ g w ρ' g' w') (e : ∀ k, g1 k = g' k) : Goes n n' ρ g w ρ' g1 w' := by
  have : g1 = g' := funext e
  rw [this]; exact h

end Go.Hv
