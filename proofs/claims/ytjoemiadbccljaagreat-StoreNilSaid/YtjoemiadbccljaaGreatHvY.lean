/- Regions, code and calls: what the evaluator reckons, the model does. -/
import Derived.Test.YtjoemiadbccljaaGreatHvX
namespace Go.Hv
open Go
variable [Env]

section
variable {P : Program} {call : Caller}

theorem Goes.widen {n n' m m' : Nat} {ρ ρ' : Ren} {g g' : Nat → Option AObj} {w w' : World} (h : Goes m m' ρ g w ρ' g' w') (h1 : n ≤ m) (h2 : m' ≤ n') : Goes n n' ρ g w ρ' g' w' :=
  ⟨fun k hk => h.ext k (by omega), h.rel, h.size, h.keep, h.fresh, h.os, h.tape, h.output⟩

theorem Goes.then {n n' : Nat} {ρ ρ1 ρ' : Ren} {g g1 g' : Nat → Option AObj} {w w1 w' : World} (h : Goes n n' ρ g w ρ1 g1 w1) (k : Goes n n' ρ1 g1 w1 ρ' g' w') : Goes n n' ρ g w ρ' g' w' where
  ext := fun i hi => by rw [k.ext i hi, h.ext i hi]
  rel := k.rel
  size := Nat.le_trans h.size k.size
  keep := fun b hb hno => by
    rw [k.keep b (Nat.lt_of_lt_of_le hb h.size) (fun i o q hi hr => ?_), h.keep b hb hno]
    rcases h.fresh i o b q hi hr with h1 | ⟨l, o', q', h1, h2⟩
    · omega
    · exact hno l o' q' h1 h2
  fresh := fun i o B q hi hr => by
    rcases k.fresh i o B q hi hr with h1 | ⟨l, o', q', h1, h2⟩
    · exact Or.inl (Nat.le_trans h.size h1)
    · exact h.fresh l o' B q' h1 h2
  os := k.os.trans h.os
  tape := k.tape.trans h.tape
  output := k.output.trans h.output

omit [Env] in
theorem copers_at {ops : Array Oper} : ∀ {l : List Oper} {l' : List IOper}, copers P ops l = some l' → l'.length = l.length ∧ ∀ (i : Nat) (o : Oper), l[i]? = some o → ∃ oi, l'[i]? = some oi ∧ coper P ops o = some oi
  | [], l', h => by simp [copers] at h; subst h; simp
  | o :: l, l', h => by
    simp only [copers] at h
    split at h <;> simp at h
    rename_i oi r h1 h2
    subst h
    obtain ⟨e1, e2⟩ := copers_at h2
    refine ⟨by simp [e1], fun i x hx => ?_⟩
    cases i with
    | zero => simp at hx; subst hx; exact ⟨oi, by simp, h1⟩
    | succ i => simpa using e2 i x (by simpa using hx)

/-- The bounds, out of the check. -/
structure DrawFacts (ops : Array Oper) (l : List IOper) (bs : List (List Nat)) : Prop where
  edge : ∀ (j : Nat) (oj : Oper), ops[j]? = some oj → ∀ e ∈ oj.after.toList, Region.binds .any e = true → e.on < j ∧ e.on ∈ bs.getD j [] ∧ ∀ k ∈ bs.getD e.on [], k ∈ bs.getD j []
  via : ∀ (j : Nat) (oj : Oper), ops[j]? = some oj → ∀ k ∈ bs.getD j [], ∃ e ∈ oj.after.toList, Region.binds .any e = true ∧ (e.on = k ∨ k ∈ bs.getD e.on [])
  slot : ∀ i j, j < i → i < ops.size → j ∉ bs.getD i [] → ∀ x y, l[j]? = some x → l[i]? = some y → slotsApart x y = true

omit [Env] in
theorem drawOk_facts {ops : Array Oper} {l : List IOper} {bs : List (List Nat)} (h : drawOk ops l bs = true) : DrawFacts ops l bs := by
  unfold drawOk at h
  rw [List.all_eq_true] at h
  have hj : ∀ (j : Nat) (oj : Oper), ops[j]? = some oj → ∃ xj, l[j]? = some xj ∧
      ((oj.after.toList.all fun e => !Region.binds .any e || e.on < j && (bs.getD j []).contains e.on && (bs.getD e.on []).all fun k => (bs.getD j []).contains k) = true) ∧
      (((bs.getD j []).all fun k => oj.after.toList.any fun e => Region.binds .any e && (e.on == k || (bs.getD e.on []).contains k)) = true) ∧
      ((List.range j).all fun i => (bs.getD j []).contains i || (match l[i]? with | none => false | some xi => slotsApart xi xj)) = true := by
    intro j oj ho
    have hlt : j < ops.size := (Array.getElem?_eq_some_iff.1 ho).1
    have := h j (by simpa using hlt)
    rw [ho] at this
    cases hx : l[j]? with
    | none => rw [hx] at this; simp at this
    | some xj =>
      rw [hx] at this
      simp only [Bool.and_eq_true] at this
      exact ⟨xj, rfl, this.1.1, this.1.2, this.2⟩
  refine ⟨fun j oj ho e he hb => ?_, fun j oj ho k hk => ?_, fun i j hji hi hb x y hx hy => ?_⟩
  · obtain ⟨xj, _, h1, _, _⟩ := hj j oj ho
    have := List.all_eq_true.1 h1 e he
    simp only [hb, Bool.not_true, Bool.false_or, Bool.and_eq_true, decide_eq_true_eq, List.contains_eq_mem, List.all_eq_true] at this
    exact ⟨this.1.1, by simpa using this.1.2, fun k hk => by simpa using this.2 k hk⟩
  · obtain ⟨xj, _, _, h2, _⟩ := hj j oj ho
    have := List.all_eq_true.1 h2 k hk
    obtain ⟨e, he, hb⟩ := List.any_eq_true.1 this
    simp only [Bool.and_eq_true, Bool.or_eq_true, beq_iff_eq, List.contains_eq_mem, decide_eq_true_eq] at hb
    exact ⟨e, he, hb.1, hb.2⟩
  · obtain ⟨xj, q, _, _, h3⟩ := hj i ops[i] (by simp [hi])
    rw [hy] at q; cases q
    have := List.all_eq_true.1 h3 j (by simpa using hji)
    rw [hx] at this
    simp only [Bool.or_eq_true, List.contains_eq_mem, decide_eq_true_eq] at this
    rcases this with h | h
    · exact absurd h hb
    · exact h

omit [Env] in
/-- Who was listed brings with it all that must come ahead of it. -/
theorem down_of {ops : Array Oper} {l : List IOper} {bs : List (List Nat)} {S : Nat → Bool} (df : DrawFacts ops l bs) (hl : l.length = ops.size)
    (hS : ∀ (j : Nat) (oj : Oper), ops[j]? = some oj → S j = true → ∀ e ∈ oj.after.toList, Region.binds .any e = true → S e.on = true) : Down l bs S := by
  intro j
  induction j using Nat.strongRecOn with
  | _ j ih =>
    intro hj hSj k hk
    have ho : ops[j]? = some ops[j] := by simp
    obtain ⟨e, he, hb, h⟩ := df.via j _ ho k hk
    have hSe := hS j _ ho hSj e he hb
    have hlt := (df.edge j _ ho e he hb).1
    rcases h with rfl | h
    · exact hSe
    · exact ih e.on hlt (by omega) hSe k h

theorem next_mono {l : List IOper} {T : Nat → Heap} {tq : Nat → List AVal} {R W : Nat → Nat} {v : Nat → AVal} (bk : Book call l l.length T tq R W v) : ∀ (i m : Nat), i ≤ m → m ≤ l.length → (T i).next ≤ (T m).next
  | i, 0, h, _ => by have : i = 0 := by omega
                     subst this; exact Nat.le_refl _
  | i, m + 1, h, h2 => by
    by_cases e : i = m + 1
    · subst e; exact Nat.le_refl _
    · exact Nat.le_trans (next_mono bk i m (by omega) (by omega)) (bk.next m (by omega))

/-- How many operations are still to come. -/
def unl (n : Nat) (listed : Array Bool) : Nat := ((List.range n).filter fun j => !listed.getD j true).length

omit [Env] in
theorem unl_set {n : Nat} {listed : Array Bool} {i : Nat} (hi : i < n) (hs : listed.size = n) (hn : listed.getD i true = false) : unl n (listed.setIfInBounds i true) < unl n listed := by
  unfold unl
  have e : ((List.range n).filter fun j => !(listed.setIfInBounds i true).getD j true) = ((List.range n).filter fun j => !listed.getD j true).filter fun j => j != i := by
    rw [List.filter_filter]
    apply List.filter_congr
    intro j hj
    have hj' : j < n := by simpa using hj
    by_cases h : i = j
    · subst h; simp [Array.getD_eq_getD_getElem?, hs, hi]
    · have h2 : (j != i) = true := by simpa using fun q => h q.symm
      simp [Array.getD_eq_getD_getElem?, h, h2]
  rw [e]
  refine List.length_filter_lt_length_iff_exists.2 ⟨i, ?_, by simp⟩
  rw [List.mem_filter]
  exact ⟨by simpa using hi, by rw [hn]; rfl⟩

omit [Env] in
theorem mem_ready' {ops : Array Oper} {listed : Array Bool} {i : Nat} (h : i ∈ Region.ready .any ops listed) : i < ops.size ∧ listed.getD i true = false ∧ ∃ o, ops[i]? = some o ∧ ∀ e ∈ o.after.toList, Region.binds .any e = true → listed.getD e.on false = true := by
  unfold Region.ready at h
  rw [List.mem_filter] at h
  obtain ⟨h1, h2⟩ := h
  have hi : i < ops.size := by simpa using h1
  simp only [Bool.and_eq_true, Bool.not_eq_true'] at h2
  refine ⟨hi, h2.1, ops[i], by simp [hi], fun e he hb => ?_⟩
  have h3 := h2.2
  simp only [hi, Array.getElem?_eq_getElem, Option.map_some, Option.getD_some] at h3
  rw [Array.all_eq_true_iff_forall_mem] at h3
  have := h3 e (by simpa using he)
  simpa [hb] using this

omit [Env] in
/-- Who is not listed has one that is ready. -/
theorem ready_of {ops : Array Oper} {l : List IOper} {bs : List (List Nat)} {listed : Array Bool} (df : DrawFacts ops l bs) (hs : listed.size = ops.size) : ∀ i, i < ops.size → listed.getD i true = false → Region.ready .any ops listed ≠ [] := by
  intro i
  induction i using Nat.strongRecOn with
  | _ i ih =>
    intro hi hn
    by_cases hall : ∀ e ∈ ops[i].after.toList, Region.binds .any e = true → listed.getD e.on false = true
    · intro hnil
      have : i ∈ Region.ready .any ops listed := by
        unfold Region.ready
        rw [List.mem_filter]
        refine ⟨by simpa using hi, ?_⟩
        simp only [hn, Bool.not_false, Bool.true_and, hi, Array.getElem?_eq_getElem, Option.map_some, Option.getD_some]
        rw [Array.all_eq_true_iff_forall_mem]
        intro e he
        by_cases hb : Region.binds .any e = true
        · simp [hall e (by simpa using he) hb]
        · simp [hb]
      rw [hnil] at this
      cases this
    · have hex : ∃ e ∈ ops[i].after.toList, Region.binds .any e = true ∧ listed.getD e.on false = false := by
        apply Classical.byContradiction
        intro hno
        apply hall
        intro e he hb
        cases h : listed.getD e.on false with
        | true => rfl
        | false => exact absurd ⟨e, he, hb, h⟩ hno
      obtain ⟨e, he, hb, hf⟩ := hex
      have hlt := (df.edge i _ (by simp [hi]) e he hb).1
      refine ih e.on hlt (by omega) ?_
      have hlt2 : e.on < listed.size := by omega
      simpa [Array.getD_eq_getD_getElem?, hlt2] using hf

theorem draw_wp {ops : Array Oper} {l : List IOper} {bs : List (List Nat)} {ts ts' : List AVal} {h h' : Heap} {ρ : Ren} {w : World} {a : Act} (hmix : P.follows .mixedOrders = true) (hcall : CallerOk P call) (hloc : LocalCaller call)
    (hc : copers P ops ops.toList = some l) (hb : bs.length = ops.size) (hok : drawOk ops l bs = true) (he : drawA call (l.zip bs) 0 [] ts h = some (ts', h')) (hr : HRel ρ h.get w) (hf : Free ρ h.next h'.next) (ht : TRel ρ ts a) :
    h.next ≤ h'.next ∧ ∀ (id : Nat) (Q : Exit → Act → World → Prop), (∀ ρ' a' w', Goes h.next h'.next ρ h.get w ρ' h'.get w' → TRel ρ' ts' a' → a'.defers = a.defers → Q .normal a' w') → (Code.region id ops true).wp P Q a w := by
  obtain ⟨hlen, hat⟩ := copers_at hc
  have hl : l.length = ops.size := by simpa using hlen
  obtain ⟨T, tq, R, W, v, bk, b1, b2, b3, b4, b5, b6, _, b8⟩ := drawA_book hloc l bs 0 [] ts ts' h h' (by omega) he
  have df := drawOk_facts hok
  have fr : Free2 l bs R W := ⟨fun i j h1 h2 h3 => b8 i j h1 h2 (by simpa using h3), fun i j h1 h2 h3 => df.slot i j h1 (by omega) h3⟩
  have hmono := fun i m h1 h2 => next_mono bk i m h1 h2
  have hnn : h.next ≤ h'.next := by rw [← b1, ← b4]; exact hmono 0 l.length (by omega) (Nat.le_refl _)
  refine ⟨hnn, fun id Q hQ => ?_⟩
  refine wp_region_any hmix ?_
  have key : ∀ (fuel : Nat) (listed : Array Bool) (a1 : Act) (w1 : World) (ρ1 : Ren), listed.size = ops.size →
      (∀ (j : Nat) (oj : Oper), ops[j]? = some oj → listed.getD j false = true → ∀ e ∈ oj.after.toList, Region.binds .any e = true → listed.getD e.on false = true) →
      unl ops.size listed ≤ fuel →
      Goes h.next h'.next ρ h.get w ρ1 (gS T W (fun i => listed.getD i false) l.length) w1 → TRel ρ1 (sS l tq v (fun i => listed.getD i false) l.length) a1 → a1.defers = a.defers →
      (∀ i, i < l.length → listed.getD i false = false → Free ρ1 (T i).next (T (i + 1)).next) → wpAny P .any ops Q fuel listed a1 w1 := by
    intro fuel
    induction fuel with
    | zero =>
      intro listed a1 w1 ρ1 hs hcl hun hgo htr hdf hfree
      have hall : ∀ j, j < l.length → listed.getD j false = true := by
        intro j hj
        cases hjl : listed.getD j true with
        | false =>
          exfalso
          have : 0 < unl ops.size listed := by
            unfold unl
            apply List.length_pos_of_mem (a := j)
            rw [List.mem_filter]
            exact ⟨by simp; omega, by simp [hjl]⟩
          omega
        | true =>
          have hlt : j < listed.size := by omega
          simpa [Array.getD_eq_getD_getElem?, hlt] using hjl
      have hready : Region.ready .any ops listed = [] := by
        cases hrd : Region.ready .any ops listed with
        | nil => rfl
        | cons i r =>
          obtain ⟨h1, h2, _⟩ := mem_ready' (i := i) (by rw [hrd]; simp)
          have := hall i (by omega)
          have hlt : i < listed.size := by omega
          simp [Array.getD_eq_getD_getElem?, hlt] at this h2
          rw [this] at h2; cases h2
      refine ⟨hready, hQ ρ1 a1 w1 (hgo.congr fun k => ?_) ?_ hdf⟩
      · rw [g_all bk hall k l.length (Nat.le_refl _), b5]
      · rw [s_all bk hall l.length (Nat.le_refl _), b6] at htr; exact htr
    | succ fuel ih =>
      intro listed a1 w1 ρ1 hs hcl hun hgo htr hdf hfree
      refine ⟨fun hready => ?_, fun i hi => ?_⟩
      · have hall : ∀ j, j < l.length → listed.getD j false = true := by
          intro j hj
          cases hjl : listed.getD j true with
          | false => exact absurd hready (ready_of df hs j (by omega) hjl)
          | true =>
            have hlt : j < listed.size := by omega
            simpa [Array.getD_eq_getD_getElem?, hlt] using hjl
        refine hQ ρ1 a1 w1 (hgo.congr fun k => ?_) ?_ hdf
        · rw [g_all bk hall k l.length (Nat.le_refl _), b5]
        · rw [s_all bk hall l.length (Nat.le_refl _), b6] at htr; exact htr
      · obtain ⟨hi1, hi2, o, ho, hedge⟩ := mem_ready' hi
        have hil : i < l.length := by omega
        have his : i < listed.size := by omega
        have hSi : listed.getD i false = false := by simpa [Array.getD_eq_getD_getElem?, his] using hi2
        have hdown := down_of (S := fun i => listed.getD i false) df hl hcl
        have hahead : ∀ k ∈ bs.getD i [], listed.getD k false = true := by
          intro k hk
          obtain ⟨e, he1, he2, he3⟩ := df.via i o ho k hk
          rcases he3 with rfl | he3
          · exact hedge e he1 he2
          · have hlt := (df.edge i o ho e he1 he2).1
            exact hdown e.on (by omega) (hedge e he1 he2) k he3
        obtain ⟨oi, hoi, hco⟩ := hat i o (by simpa using ho)
        -- the heap behind those that were listed
        obtain ⟨tr, htr'⟩ := tree_of bk (fun i => listed.getD i false) l.length (Nat.le_refl _)
        let H : Heap := { next := (T i).next, rd := 0, wr := 0, tree := tr }
        have hHget : H.get = gS T W (fun i => listed.getD i false) l.length := funext htr'
        obtain ⟨H', v1, v2, v3, v4⟩ := bk.loc i hil oi hoi H rfl (fun k hk => by
          rw [hHget, g_at bk fr (S := fun i => listed.getD i false) hil hSi hahead hdown hk])
        have hagree := s_at bk fr (S := fun i => listed.getD i false) hil hoi hSi hahead hdown
        have hstep : oi.step call (sS l tq v (fun i => listed.getD i false) l.length) H = some (putA (sS l tq v (fun i => listed.getD i false) l.length) oi.dst (v i), H') := by
          rw [step_val, val_congr hagree]
          simp only [Bind.bind, M.bind, v1]
          rfl
        have hrH : HRel ρ1 H.get w1 := by rw [hHget]; exact hgo.rel
        have hfH : Free ρ1 H.next H'.next := by
          show Free ρ1 (T i).next H'.next
          rw [v2]; exact hfree i hil hSi
        obtain ⟨_, hw⟩ := step_wp (ops := ops) hcall ho hco hstep hrH hfH htr
        refine hw _ Q fun ρ2 a2 w2 hgo2 ht2 hd2 => ?_
        have hS' : ∀ j, (listed.setIfInBounds i true).getD j false = (listed.getD j false || j == i) := by
          intro j
          by_cases e : i = j
          · subst e; simp [Array.getD_eq_getD_getElem?, his]
          · have e2 : (j == i) = false := by simpa using fun q => e q.symm
            simp [Array.getD_eq_getD_getElem?, e, e2]
        have hSf : (fun j => (listed.setIfInBounds i true).getD j false) = fun j => listed.getD j false || j == i := funext hS'
        refine ih _ a2 w2 ρ2 (by simpa using hs) ?_ ?_ ?_ ?_ (hd2.trans hdf) ?_
        · intro j oj hoj hSj e he1 he2
          rw [hS'] at hSj ⊢
          by_cases hji : j = i
          · subst hji
            rw [ho] at hoj; cases hoj
            simp [hedge e he1 he2]
          · have e2 : (j == i) = false := by simpa using hji
            rw [e2, Bool.or_false] at hSj
            simp [hcl j oj hoj hSj e he1 he2]
        · have := unl_set hi1 hs hi2
          omega
        · rw [hSf]
          have hgo3 : Goes h.next h'.next ρ1 (gS T W (fun i => listed.getD i false) l.length) w1 ρ2 H'.get w2 := by
            rw [← hHget]
            refine hgo2.widen ?_ ?_
            · show h.next ≤ (T i).next
              rw [← b1]; exact hmono 0 i (by omega) (by omega)
            · rw [v2, ← b4]; exact hmono (i + 1) l.length (by omega) (Nat.le_refl _)
          refine (hgo.then hgo3).congr fun k => ?_
          rw [g_next fr hil hSi hdown k l.length (Nat.le_refl _)]
          by_cases hwk : (W i).testBit k = true
          · rw [if_pos ⟨hil, hwk⟩, v3 k hwk]
          · rw [if_neg (fun q => hwk q.2), v4 k (by simpa using hwk), hHget]
        · rw [hSf, s_next fr hil hoi hSi hdown l.length (Nat.le_refl _), if_pos hil]
          exact ht2
        · intro j hj hSj k hk1 hk2
          rw [hS'] at hSj
          simp only [Bool.or_eq_false_iff, beq_eq_false_iff_ne] at hSj
          rw [hgo2.ext k ?_]
          · exact hfree j hj hSj.1 k hk1 hk2
          · rintro ⟨q1, q2⟩
            have q1' : (T i).next ≤ k := q1
            rw [v2] at q2
            rcases Nat.lt_or_gt_of_ne hSj.2 with hlt | hgt
            · have := hmono (j + 1) i (by omega) (by omega); omega
            · have := hmono (i + 1) j (by omega) (by omega); omega
  refine key ops.size (Array.replicate ops.size false) a w.drew ρ (by simp) ?_ ?_ ?_ ?_ rfl ?_
  · intro j oj _ hSj
    by_cases hlt : j < ops.size
    · simp [Array.getD_eq_getD_getElem?, hlt] at hSj
    · simp [Array.getD_eq_getD_getElem?, hlt] at hSj
  · unfold unl
    have := List.length_filter_le (fun j => !(Array.replicate ops.size false).getD j true) (List.range ops.size)
    simpa using this
  · have hnone : ∀ m, gS T W (fun i => (Array.replicate ops.size false).getD i false) m = h.get := by
      intro m
      induction m with
      | zero => exact b2
      | succ m ihm =>
        funext k
        have : (Array.replicate ops.size false).getD m false = false := by
          by_cases hlt : m < ops.size <;> simp [Array.getD_eq_getD_getElem?, hlt]
        simp only [gS, this, Bool.false_and, Bool.false_eq_true, if_false]
        rw [ihm]
    rw [hnone]
    exact (goes_drew hr h.next).widen (Nat.le_refl _) hnn
  · have hnone : ∀ m, sS l tq v (fun i => (Array.replicate ops.size false).getD i false) m = ts := by
      intro m
      induction m with
      | zero => exact b3
      | succ m ihm =>
        have : (Array.replicate ops.size false).getD m false = false := by
          by_cases hlt : m < ops.size <;> simp [Array.getD_eq_getD_getElem?, hlt]
        simp only [sS, this, Bool.false_eq_true, if_false]
        rw [ihm]
    rw [hnone]
    exact ht
  · intro i hi _ k h1 h2
    have q1 := hmono 0 i (by omega) (by omega)
    have q2 := hmono (i + 1) l.length (by omega) (Nat.le_refl _)
    exact hf k (by omega) (by omega)

end
end Go.Hv
