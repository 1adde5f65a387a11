/- Each instruction does what the model's operation does: the plain ones. -/
import Derived.Test.YtjoemiadbccljaaGreatHvE
namespace Go.Hv
open Go
variable [Env]

section
variable {P : Program} {o : Oper} {i : IOp} {call : Caller} {ts : List AVal} {v : AVal} {h h' : Heap} {ρ : Ren} {w : World} {a : Act}

/-- What is asked of an instruction. -/
def OpOk (P : Program) (o : Oper) (i : IOp) : Prop :=
  ∀ (call : Caller) (ts : List AVal) (v : AVal) (h h' : Heap) (ρ : Ren) (w : World) (a : Act),
    i.ev call ts h = some (v, h') → HRel ρ h.get w → Free ρ h.next h'.next → TRel ρ ts a → Does P h h' ρ w (execOp a.eval o) (fun ρ' x => NRel ρ' v x)

theorem heap_eq {h h1 : Heap} (hn : h1.next = h.next) (hg : h1.get = h.get) {h2 : Heap} {β : Type} {s : Sem β} {R : Ren → β → Prop} (k : Does P h1 h2 ρ w s R) : Does P h h2 ρ w s R := by
  unfold Does at *
  rw [hn, hg] at k
  exact k

/-- Nothing turned. -/
theorem Does.still {β : Type} {s : Sem β} {R : Ren → β → Prop} {b : β} (hr : HRel ρ h.get w) (hn : h'.next = h.next) (hg : h'.get = h.get) (hs : s.run P w = .ok b w) (hR : R ρ b) : Does P h h' ρ w s R := by
  refine ⟨b, ρ, w, hs, by omega, ?_, hR⟩
  rw [hn, hg]
  exact Goes.refl hr

theorem ok_move {x : Operand} (ho : o.op = .move x ∨ o.op = .assign x) (hc : cop? P o = some i) : OpOk P o i := by
  intro call ts v h h' ρ w a he hr _ ht
  have hc' : ((copd x).map IOp.mov) = some i := by rcases ho with e | e <;> simpa [cop?, e] using hc
  simp at hc'
  obtain ⟨y, h1, rfl⟩ := hc'
  simp only [IOp.ev] at he
  obtain ⟨rfl, rfl⟩ := pure_some he
  exact Does.same hr (b := .value (a.eval x)) (by rcases ho with e | e <;> simp [execOp, e]) (copd_rel ht h1)

theorem ok_pick {c x y : Operand} (ho : o.op = .pick c x y) (hc : cop? P o = some i) : OpOk P o i := by
  intro call ts v h h' ρ w a he hr _ ht
  simp only [cop?, ho] at hc
  split at hc <;> simp at hc
  rename_i c' x' y' h1 h2 h3
  subst hc
  have r1 := copd_rel ht h1
  have r2 := copd_rel ht h2
  have r3 := copd_rel ht h3
  simp only [IOp.ev] at he
  generalize c'.ev ts = cv at he r1
  cases cv with
  | bool b =>
    simp only [VRel] at r1
    cases b with
    | true =>
      obtain ⟨rfl, rfl⟩ := pure_some he
      exact Does.same hr (b := .value (a.eval x)) (by simp [execOp, ho, r1, asBool]) r2
    | false =>
      obtain ⟨rfl, rfl⟩ := pure_some he
      exact Does.same hr (b := .value (a.eval y)) (by simp [execOp, ho, r1, asBool]) r3
  | _ => exact (fail_some he).elim

/-- A new row. -/
theorem alloc_rel (hr : HRel ρ h.get w) {c : List AVal} {e : TypeId} {op : Option Nat} {C : List Value} {k : Nat} (q : Nat) {L2 : List Value}
    (he : Hv.alloc (.cells c e op) h = some (k, h')) (hf : Free ρ h.next h'.next) (hC : VRels ρ c C) (hop : Fits q C L2 op) :
    (newRow e (C ++ L2).toArray).run P w = .ok ⟨w.heap.size, 0, none⟩ (w.alloc (.cells (C ++ L2).toArray e)) ∧ h.next ≤ h'.next ∧
      Goes h.next h'.next ρ h.get w (ρ.set k (w.heap.size, q)) h'.get (w.alloc (.cells (C ++ L2).toArray e)) ∧ (ρ.set k (w.heap.size, q)) k = some (w.heap.size, q) ∧ ρ.le (ρ.set k (w.heap.size, q)) := by
  obtain ⟨rfl, hn, hg⟩ := alloc_some he
  have hfree : ρ h.next = none := hf _ (Nat.le_refl _) (by omega)
  refine ⟨by simp [newRow], by omega, ?_, by simp [Ren.set], Ren.set_le _ hfree⟩
  rw [hn, hg]
  exact goes_alloc hr q hfree ⟨C, L2, hC, rfl, hop⟩

theorem ok_alloc {e : TypeId} (ho : o.op = .alloc e) (hc : cop? P o = some i) : OpOk P o i := by
  intro call ts v h h' ρ w a he hr hf ht
  simp only [cop?, ho] at hc
  simp at hc
  obtain ⟨zs, hz, rfl⟩ := hc
  simp only [IOp.ev] at he
  obtain ⟨k, h1, ha, he⟩ := bind_some he
  obtain ⟨rfl, rfl⟩ := pure_some he
  obtain ⟨Z, hZ, hrel⟩ := zeroT_run (P := P) (w := w) (ρ := ρ) hz
  obtain ⟨r1, r2, r3, r4, r5⟩ := alloc_rel (P := P) hr 0 (L2 := []) ha hf hrel rfl
  refine ⟨.value (.pointer (some ⟨w.heap.size, 0, none⟩)), _, _, ?_, r2, r3, ?_⟩
  · simp at r1
    simp [execOp, ho, Instr.alloc, hZ, newVar, r1]
  · simp only [NRel, VRel]
    exact ⟨_, _, r4, rfl⟩

theorem ok_box {e : TypeId} {x : Operand} (ho : o.op = .box e x) (hc : cop? P o = some i) : OpOk P o i := by
  intro call ts v h h' ρ w a he hr hf ht
  simp only [cop?, ho] at hc
  simp at hc
  obtain ⟨y, hy, rfl⟩ := hc
  simp only [IOp.ev] at he
  obtain ⟨k, h1, ha, he⟩ := bind_some he
  obtain ⟨rfl, rfl⟩ := pure_some he
  obtain ⟨r1, r2, r3, r4, r5⟩ := alloc_rel (P := P) hr 0 (L2 := []) ha hf (copd_rel ht hy).cells rfl
  refine ⟨.value (.pointer (some ⟨w.heap.size, 0, none⟩)), _, _, ?_, r2, r3, ?_⟩
  · simp at r1
    simp [execOp, ho, Instr.box, newVar, r1]
  · simp only [NRel, VRel]
    exact ⟨_, _, r4, rfl⟩

omit [Env] in
theorem foldl_splice : ∀ (vs : List Value) (j off : Nat) (cs : Array Value), off + j + vs.length ≤ cs.size →
    (vs.zipIdx j).foldl (fun (cs : Array Value) (p : Value × Nat) => cs.setIfInBounds (off + p.2) p.1) cs = (cs.toList.take (off + j) ++ vs ++ cs.toList.drop (off + j + vs.length)).toArray
  | [], j, off, cs, _ => by simp
  | v :: r, j, off, cs, hl => by
    simp only [List.length_cons] at hl
    simp only [List.zipIdx_cons, List.foldl_cons]
    rw [foldl_splice r (j + 1) off _ (by simp; omega)]
    congr 1
    have h1 : (cs.setIfInBounds (off + j) v).toList = cs.toList.set (off + j) v := by simp
    rw [h1]
    have h2 : off + j < cs.toList.length := by simp; omega
    rw [show off + (j + 1) = off + j + 1 from by omega, List.take_succ_eq_append_getElem (by simpa using h2)]
    simp only [List.getElem_set_self]
    rw [List.take_set_of_le (Nat.le_refl _), List.drop_set_of_lt (by omega)]
    simp only [List.length_cons]
    rw [show off + j + 1 + r.length = off + j + (r.length + 1) from by omega]
    simp

theorem fill_rel (place : Nat → Option (Nat × Nat)) (ht : TRel ρ ts a) : ∀ (ps : List (Nat × Operand)) (qs : List (Nat × Nat × Opd)) (cs cs' : List AVal) (Cs : List Value),
    cparts place ps = some qs → fillA ts qs cs = some cs' → VRels ρ cs Cs →
    ∃ Cs', Instr.fill place Cs.toArray (ps.map fun p => (p.1, a.eval p.2)) = some Cs'.toArray ∧ VRels ρ cs' Cs'
  | [], qs, cs, cs', Cs, h1, h2, h3 => by
    simp [cparts] at h1; subst h1
    simp [fillA] at h2; subst h2
    exact ⟨Cs, by simp [Instr.fill], h3⟩
  | (j, x) :: r, qs, cs, cs', Cs, h1, h2, h3 => by
    simp only [cparts] at h1
    split at h1 <;> simp at h1
    rename_i off sz y ys p1 p2 p3
    subst h1
    simp only [fillA] at h2
    by_cases hcond : (y.ev ts).cells.length = sz ∧ off + sz ≤ cs.length
    case neg => rw [if_neg hcond] at h2; cases h2
    rw [if_pos hcond] at h2
    have hv := copd_rel ht p2
    have hcl : (a.eval x).cells.toList.length = sz := by rw [hv.cells.length]; exact hcond.1
    have hsz : (a.eval x).cells.size = sz := by simpa using hcl
    have hCs : Cs.length = cs.length := h3.length
    have hsp := foldl_splice (a.eval x).cells.toList 0 off Cs.toArray (by simp [hsz, hCs]; exact hcond.2)
    have hnew : VRels ρ (splice cs off (y.ev ts).cells) (Cs.take off ++ (a.eval x).cells.toList ++ Cs.drop (off + (a.eval x).cells.toList.length)) := h3.splice off hv.cells
    obtain ⟨Cs', h4, h5⟩ := fill_rel place ht r ys _ cs' _ p3 h2 hnew
    refine ⟨Cs', ?_, h5⟩
    simp only [List.map_cons, Instr.fill, p1]
    have hno : ((a.eval x).cells.size ≠ sz || decide (off + (a.eval x).cells.size > Cs.toArray.size)) = false := by
      simp [hsz, hCs]; exact hcond.2
    have hz : ((a.eval x).cells.zipIdx.foldl (fun (cs : Array Value) (p : Value × Nat) => cs.setIfInBounds (off + p.2) p.1) Cs.toArray) = (Cs.take off ++ (a.eval x).cells.toList ++ Cs.drop (off + (a.eval x).cells.toList.length)).toArray := by
      rw [← Array.foldl_toList, Array.toList_zipIdx, hsp]
      simp
    simp only [ne_eq, decide_not] at hno
    rw [if_neg (by simpa using hno)]
    rw [← h4]
    congr 1


omit [Env] in
theorem run_mapM {α β : Type} (P : Program) (w : World) (f : α → Sem β) (r : α → Option β) (hf : ∀ x y, r x = some y → (f x).run P w = .ok y w) :
    ∀ (xs : List α) (ys : List β), (∀ (j : Nat) (x : α), xs[j]? = some x → ∃ y, r x = some y ∧ ys[j]? = some y) → xs.length = ys.length → (xs.mapM f).run P w = .ok ys w
  | [], ys, _, hl => by
    have : ys = [] := by cases ys <;> simp at hl; rfl
    subst this
    simp
  | x :: r', ys, h, hl => by
    cases ys with
    | nil => simp at hl
    | cons y ys =>
      obtain ⟨y', h1, h2⟩ := h 0 x (by simp)
      simp at h2; subst h2
      have ih := run_mapM P w f r hf r' ys (fun j z hz => by
        have := h (j + 1) z (by simpa using hz)
        simpa using this) (by simpa using hl)
      simp [List.mapM_cons, hf _ _ h1, ih]

omit [Env] in
theorem places_get {fs : List Field} {ps : List (Nat × Nat)} (h : placesT P fs = some ps) : fs.length = ps.length ∧ ∀ (j : Nat) (f : Field), fs[j]? = some f → ∃ n, sizeT P f.type = some n ∧ ps[j]? = some (f.offset, n) := by
  induction fs generalizing ps with
  | nil => simp [placesT] at h; subst h; simp
  | cons f r ih =>
    simp only [placesT] at h
    split at h <;> simp at h
    rename_i n r' h1 h2
    subst h
    obtain ⟨e1, e2⟩ := ih h2
    refine ⟨by simp [e1], fun j x hx => ?_⟩
    cases j with
    | zero => simp at hx; subst hx; exact ⟨n, h1, by simp⟩
    | succ j => simpa using e2 j x (by simpa using hx)

omit [Env] in
theorem places_run {fs : Array Field} {ps : List (Nat × Nat)} (h : placesT P fs.toList = some ps) :
    (fs.mapM fun f => (do pure (f.offset, ← sizeOf f.type) : Sem (Nat × Nat))).run P w = .ok ps.toArray w := by
  obtain ⟨h1, h2⟩ := places_get h
  have e : fs = fs.toList.toArray := by simp
  rw [e, List.mapM_toArray]
  have := run_mapM P w (fun f : Field => (do pure (f.offset, ← sizeOf f.type) : Sem (Nat × Nat))) (fun f => (sizeT P f.type).map fun n => (f.offset, n))
    (fun f y hy => by
      simp at hy
      obtain ⟨n, h3, rfl⟩ := hy
      simp [sizeT_run h3]) fs.toList ps (fun j f hf => by
      obtain ⟨n, h3, h4⟩ := h2 j f hf
      exact ⟨(f.offset, n), by simp [h3], h4⟩) h1
  rw [Sem.run_map, this]
  rfl

omit [Env] in
theorem cparts_congr {p q : Nat → Option (Nat × Nat)} (h : ∀ k, p k = q k) : p = q := funext h

theorem ok_build {t : TypeId} {parts : Array (Nat × Operand)} (ho : o.op = .build t parts) (hc : cop? P o = some i) : OpOk P o i := by
  intro call ts v h h' ρ w a he hr hf ht
  simp only [cop?, ho] at hc
  split at hc
  · rename_i zs fs hz hu
    split at hc
    · rename_i ps hps
      simp at hc
      obtain ⟨qs, hq, rfl⟩ := hc
      simp only [IOp.ev] at he
      obtain ⟨cs, h1, he1, he⟩ := bind_some he
      obtain ⟨hcs, rfl⟩ := ofOption_some he1
      obtain ⟨rfl, rfl⟩ := pure_some he
      obtain ⟨Z, hZ, hrel⟩ := zeroT_run (P := P) (w := w) (ρ := ρ) hz
      obtain ⟨Cs', h2, h3⟩ := fill_rel (ps[·]?) ht parts.toList qs zs cs _ hq hcs hrel
      refine Does.same hr (b := .value (.agg Cs'.toArray)) ?_ (by simp only [NRel, VRel]; exact ⟨Cs', h3, rfl⟩)
      have h4 := places_run (P := P) (w := w) hps
      have h5 : Instr.fill (ps.toArray[·]?) Z.cells (parts.map fun p => (p.1, a.eval p.2)).toList = some Cs'.toArray := by
        have e : (fun k => ps.toArray[k]?) = (fun k => ps[k]?) := funext fun k => List.getElem?_toArray
        rw [e]
        simpa using h2
      simp only [execOp, ho, Instr.build, Sem.run_bind, hZ, Result.andThen_ok, run_und hu, h4]
      rw [h5]
      simp
    · simp at hc
  · rename_i zs n e hz hu
    split at hc
    · rename_i m hm
      simp at hc
      obtain ⟨qs, hq, rfl⟩ := hc
      simp only [IOp.ev] at he
      obtain ⟨cs, h1, he1, he⟩ := bind_some he
      obtain ⟨hcs, rfl⟩ := ofOption_some he1
      obtain ⟨rfl, rfl⟩ := pure_some he
      obtain ⟨Z, hZ, hrel⟩ := zeroT_run (P := P) (w := w) (ρ := ρ) hz
      obtain ⟨Cs', h2, h3⟩ := fill_rel (fun i => some (i * m, m)) ht parts.toList qs zs cs _ hq hcs hrel
      refine Does.same hr (b := .value (.agg Cs'.toArray)) ?_ (by simp only [NRel, VRel]; exact ⟨Cs', h3, rfl⟩)
      have h5 : Instr.fill (fun i => some (i * m, m)) Z.cells (parts.map fun p => (p.1, a.eval p.2)).toList = some Cs'.toArray := by
        simpa using h2
      simp only [execOp, ho, Instr.build, Sem.run_bind, hZ, Result.andThen_ok, run_und hu, sizeT_run hm]
      rw [h5]
      simp
    · simp at hc
  · simp at hc

omit [Env] in
theorem sure_ptr {x : Value} {b : Addr} (hx : x = .pointer (some b)) : (Instr.sureAddr x).run P w = .ok b w := by subst hx; simp [Instr.sureAddr]

/-- Loading, on the heap as it is told. -/
theorem loadA_rel {g : Option Nat} {x : AVal} {X : Value} {t : TypeId} (he : loadA g x h = some (v, h')) (hr : HRel ρ h.get w) (hx : VRel ρ x X) (ht : aggT P t = some g) :
    h'.next = h.next ∧ h'.get = h.get ∧ ∃ b V, X = .pointer (some b) ∧ (loadVar t b).run P w = .ok V w ∧ VRel ρ v V := by
  unfold loadA at he
  split at he
  · rename_i k off
    obtain ⟨ob, h1, hl, he⟩ := bind_some he
    obtain ⟨l1, l2, l3⟩ := look_some hl
    cases ob with
    | map => exact (fail_some he).elim
    | iter => exact (fail_some he).elim
    | cells c e op =>
      obtain ⟨hp, rfl⟩ := ofOption_some he
      simp only [VRel] at hx
      obtain ⟨B, q, r1, rfl⟩ := hx
      obtain ⟨V, r2, r3⟩ := loadVar_rel (P := P) hr l1 r1 ht hp
      exact ⟨l2, l3, _, V, rfl, r2, r3⟩
  · exact (fail_some he).elim

theorem ok_load {t : TypeId} {x : Operand} (ho : o.op = .load t x) (hc : cop? P o = some i) : OpOk P o i := by
  intro call ts v h h' ρ w a he hr hf ht
  simp only [cop?, ho] at hc
  split at hc <;> simp at hc
  rename_i g y hg hy
  subst hc
  simp only [IOp.ev] at he
  obtain ⟨h1, h2, b, V, h3, h4, h5⟩ := loadA_rel (P := P) he hr (copd_rel ht hy) hg
  exact Does.still hr h1 h2 (b := .value V) (by simp [execOp, ho, Instr.loadAt, sure_ptr h3, h4]) h5

/-- Storing, on the heap as it is told. -/
theorem storeA_rel {sz : Nat} {x : AVal} {X : Value} {vs : List AVal} {Vs : List Value} {u : Unit} (he : storeA sz x vs h = some (u, h')) (hr : HRel ρ h.get w) (hx : VRel ρ x X) (hv : VRels ρ vs Vs) :
    h'.next = h.next ∧ vs.length = sz ∧ (vs.all AVal.oneCell = true) ∧ ∃ b w', X = .pointer (some b) ∧ b.spot = none ∧ (storeCells b Vs).run P w = .ok () w' ∧ (∀ n, Goes n n ρ h.get w ρ h'.get w') := by
  unfold storeA at he
  split at he
  · rename_i k off
    obtain ⟨ob, h1, hl, he⟩ := bind_some he
    obtain ⟨l1, l2, l3⟩ := look_some hl
    cases ob with
    | map => exact (fail_some he).elim
    | iter => exact (fail_some he).elim
    | cells c e op =>
      simp only at he
      by_cases hcond : vs.length = sz ∧ off + sz ≤ c.length ∧ vs.all AVal.oneCell = true
      case neg => rw [if_neg hcond] at he; exact (fail_some he).elim
      rw [if_pos hcond] at he
      obtain ⟨w1, w2⟩ := write_some he
      simp only [VRel] at hx
      obtain ⟨B, q, r1, rfl⟩ := hx
      obtain ⟨c1, c2, c3⟩ := hcond
      obtain ⟨w', s1, _⟩ := storeCells_rel (P := P) hr 0 l1 r1 hv c3 (by rw [c1]; exact c2)
      refine ⟨by omega, c1, c3, _, w', rfl, rfl, s1, fun n => ?_⟩
      obtain ⟨w'', s2, s3⟩ := storeCells_rel (P := P) hr n l1 r1 hv c3 (by rw [c1]; exact c2)
      rw [s1] at s2; cases s2
      rw [w2, l3]
      exact s3
  · exact (fail_some he).elim

theorem ok_store {t : TypeId} {x y : Operand} (ho : o.op = .store t x y) (hc : cop? P o = some i) : OpOk P o i := by
  intro call ts v h h' ρ w a he hr hf ht
  simp only [cop?, ho] at hc
  split at hc <;> simp at hc
  rename_i n x' y' hn hx hy
  subst hc
  simp only [IOp.ev] at he
  obtain ⟨u, h1, he1, he⟩ := bind_some he
  obtain ⟨rfl, rfl⟩ := pure_some he
  have hv := copd_rel ht hy
  obtain ⟨s1, s2, s3, b, w', s4, s5, s6, s7⟩ := storeA_rel (P := P) he1 hr (copd_rel ht hx) hv.cells
  refine ⟨.skip, ρ, w', ?_, by omega, by rw [s1]; exact s7 _, rfl⟩
  have hsz : (a.eval y).cells.size = n := by rw [← s2, ← hv.cells.length]; simp
  simp [execOp, ho, Instr.storeAt, sure_ptr s4, storeVar, sizeT_run hn, hsz, s6]

theorem ok_nilck {x : Operand} (ho : o.op = .nilCheck x) (hc : cop? P o = some i) : OpOk P o i := by
  intro call ts v h h' ρ w a he hr hf ht
  simp only [cop?, ho] at hc
  simp at hc
  obtain ⟨y, hy, rfl⟩ := hc
  simp only [IOp.ev] at he
  obtain ⟨hn, rfl⟩ := ofOption_some he
  have hx := copd_rel ht hy
  have hv : v = y.ev ts := by
    unfold nilckA at hn
    split at hn <;> simp at hn
    exact hn.symm
  subst hv
  refine Does.same hr (b := .value (a.eval x)) ?_ hx
  generalize hX : a.eval x = X at hx
  generalize y.ev ts = cv at hx hn
  cases cv with
  | ptr p =>
    rcases p with _ | ⟨k, off⟩
    · simp [nilckA] at hn
    · simp only [VRel] at hx; obtain ⟨_, _, _, rfl⟩ := hx; simp [execOp, ho, hX]
  | nilIface => simp [nilckA] at hn
  | nilFunc => simp [nilckA] at hn
  | func fn fs cs =>
    simp only [VRel] at hx; obtain ⟨Fs, Cs, _, _, rfl⟩ := hx
    cases fn with
    | method m => simp [nilckA] at hn
    | _ => simp [execOp, ho, hX]
  | bool => simp only [VRel] at hx; subst hx; simp [execOp, ho, hX]
  | int => simp only [VRel] at hx; subst hx; simp [execOp, ho, hX]
  | str => simp only [VRel] at hx; subst hx; simp [execOp, ho, hX]
  | slice p n c op =>
    rcases p with _ | ⟨k, off⟩
    · simp only [VRel] at hx; obtain ⟨_, rfl⟩ := hx; simp [execOp, ho, hX]
    · cases op <;> simp only [VRel] at hx
      · obtain ⟨_, _, _, rfl⟩ := hx; simp [execOp, ho, hX]
      · obtain ⟨_, _, _, _, rfl⟩ := hx; simp [execOp, ho, hX]
  | eslice => simp only [VRel] at hx; obtain ⟨_, _, rfl⟩ := hx; simp [execOp, ho, hX]
  | map r =>
    rcases r with _ | r <;> simp only [VRel] at hx
    · subst hx; simp [execOp, ho, hX]
    · obtain ⟨_, _, _, rfl⟩ := hx; simp [execOp, ho, hX]
  | iface => simp only [VRel] at hx; obtain ⟨_, _, rfl⟩ := hx; simp [execOp, ho, hX]
  | agg => simp only [VRel] at hx; obtain ⟨_, _, rfl⟩ := hx; simp [execOp, ho, hX]
  | tuple => simp only [VRel] at hx; obtain ⟨_, _, rfl⟩ := hx; simp [execOp, ho, hX]
  | tok n => simp [nilckA] at hn

end
end Go.Hv
