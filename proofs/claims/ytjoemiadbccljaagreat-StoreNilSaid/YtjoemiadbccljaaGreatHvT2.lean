/- The instructions: what steps through a map. -/
import Derived.Test.YtjoemiadbccljaaGreatHvT
import Derived.Test.YtjoemiadbccljaaGreatHvO
import Derived.Test.YtjoemiadbccljaaGreatHvJ
namespace Go.Hv
open Go
variable [Env]

section
variable {P : Program} {o : Oper} {i : IOp} {call : Caller} {ts : List AVal} {v : AVal} {h h' : Heap} {ρ : Ren} {w : World} {a : Act}

theorem HRel.iterAt {g : Nat → Option AObj} (hr : HRel ρ g w) {k : Nat} {m : Option Nat} {since : Nat} {seen : List Nat} {last : Nat} (hk : g k = some (.iter m since seen last)) :
    ∃ B q, ρ k = some (B, q) ∧ ((m = none ∧ w.heap[B]? = some (.mapIter none since seen.toArray last)) ∨ ∃ r R q', m = some r ∧ ρ r = some (R, q') ∧ w.heap[B]? = some (.mapIter (some R) since seen.toArray last)) := by
  obtain ⟨B, q, X, h1, h2, h3⟩ := hr.obj k _ hk
  refine ⟨B, q, h1, ?_⟩
  cases m with
  | none => simp only [ORel] at h3; subst h3; exact .inl ⟨rfl, h2⟩
  | some r =>
    simp only [ORel] at h3
    obtain ⟨R, q', h4, rfl⟩ := h3
    exact .inr ⟨r, R, q', rfl, h4, h2⟩

omit [Env] in
theorem run_getIter {B : Nat} {m : Option Nat} {since : Nat} {seen : Array Nat} {last : Nat} (hB : w.heap[B]? = some (.mapIter m since seen last)) : (getObj B).run P w = .ok (.mapIter m since seen last) w := by
  simp [getObj, Sem.run, hB]

omit [Env] in
theorem run_setIter {B : Nat} {m : Option Nat} {since : Nat} {seen : Array Nat} {last : Nat} (hB : w.heap[B]? = some (.mapIter m since seen last)) (ob : Obj) : (setObj B ob).run P w = .ok () (putBlock w B ob) := by
  simp [setObj, Sem.run, hB, putBlock]

theorem ok_range {t : TypeId} {x : Operand} (ho : o.op = .range t x) (hc : cop? P o = some i) : OpOk P o i := by
  intro call ts v h h' ρ w a he hr hf ht
  simp only [cop?, ho] at hc
  split at hc
  case h_2 => cases hc
  rename_i x' kt e hx hu
  simp at hc; subst hc
  have hX := copd_rel ht hx
  simp only [IOp.ev] at he
  unfold rangeA at he
  generalize x'.ev ts = cx at he hX
  cases cx with
  | map r =>
    cases r with
    | none =>
      obtain ⟨k, h1, ha, he⟩ := bind_some he
      obtain ⟨rfl, rfl⟩ := pure_some he
      obtain ⟨rfl, hn, hg⟩ := alloc_some ha
      have hfree : ρ h.next = none := hf _ (Nat.le_refl _) (by omega)
      simp only [VRel] at hX
      refine ⟨.value (.pointer (some ⟨w.heap.size, 0, none⟩)), ρ.set h.next (w.heap.size, 0), w.alloc (.mapIter none 0 #[] 0), ?_, by omega, ?_, ?_⟩
      · simp [execOp, ho, Instr.range, run_und hu, hX]
      · rw [hn, hg]
        exact goes_alloc hr 0 hfree (by simp only [ORel])
      · simp only [NRel, VRel]
        exact ⟨w.heap.size, 0, by simp [Ren.set], rfl⟩
    | some r =>
      obtain ⟨ob, h1, hl, he⟩ := bind_some he
      obtain ⟨l1, l2, l3⟩ := look_some hl
      cases ob with
      | cells => exact (fail_some he).elim
      | iter => exact (fail_some he).elim
      | map es bs clk =>
        obtain ⟨k, h2, ha, he⟩ := bind_some he
        obtain ⟨rfl, rfl⟩ := pure_some he
        obtain ⟨rfl, hn, hg⟩ := alloc_some ha
        obtain ⟨B, q, Es, r1, r2, _⟩ := hr.mapAt l1
        simp only [VRel] at hX
        obtain ⟨B', q', r3, hX⟩ := hX
        rw [r1] at r3; cases r3
        have hfree : ρ h.next = none := hf _ (Nat.le_refl _) (by omega)
        refine ⟨.value (.pointer (some ⟨w.heap.size, 0, none⟩)), ρ.set h.next (w.heap.size, 0), w.alloc (.mapIter (some B) clk #[] clk), ?_, by omega, ?_, ?_⟩
        · simp [execOp, ho, Instr.range, run_und hu, hX, run_getObj r2]
        · rw [hn, hg, l2, l3]
          exact goes_alloc hr 0 hfree (by simp only [ORel]; exact ⟨B, q, r1, rfl⟩)
        · rw [l2]
          simp only [NRel, VRel]
          exact ⟨w.heap.size, 0, by simp [Ren.set], rfl⟩
  | _ => exact (fail_some he).elim

/-- Entries with their stamps, and the model's. -/
def ZRel (ρ : Ren) : List ((AVal × AVal) × Nat) → List MapEntry → Prop
  | [], Es => Es = []
  | ((k, v), b) :: es, Es => ∃ E Rs, VRel ρ k E.key ∧ VRel ρ v E.val ∧ E.born = b ∧ ZRel ρ es Rs ∧ Es = E :: Rs

theorem ZRel.of {ρ : Ren} : ∀ {es : List (AVal × AVal)} {Es : List MapEntry}, ERels ρ es Es → ZRel ρ (es.zip (Es.map (·.born))) Es
  | [], _, h => by simp only [ERels] at h; subst h; rfl
  | (_, _) :: _, _, ⟨E, Rs, h1, h2, h3, rfl⟩ => ⟨E, Rs, h1, h2, rfl, ZRel.of h3, rfl⟩

theorem ZRel.filter {ρ : Ren} (p : Nat → Bool) : ∀ {zs : List ((AVal × AVal) × Nat)} {Es : List MapEntry}, ZRel ρ zs Es → ZRel ρ (zs.filter fun e => p e.2) (Es.filter fun e => p e.born)
  | [], _, h => by simp only [ZRel] at h; subst h; rfl
  | ((_, _), b) :: _, _, ⟨E, Rs, h1, h2, h3, h4, rfl⟩ => by
    have ih := ZRel.filter p h4
    simp only [List.filter_cons, h3]
    cases p b
    · simpa using ih
    · exact ⟨E, _, h1, h2, h3, ih, rfl⟩

theorem ZRel.append {ρ : Ren} : ∀ {zs ys : List ((AVal × AVal) × Nat)} {Es Fs : List MapEntry}, ZRel ρ zs Es → ZRel ρ ys Fs → ZRel ρ (zs ++ ys) (Es ++ Fs)
  | [], _, _, _, h, k => by simp only [ZRel] at h; subst h; simpa using k
  | ((_, _), _) :: _, _, _, _, ⟨E, Rs, h1, h2, h3, h4, rfl⟩, k => ⟨E, _, h1, h2, h3, h4.append k, rfl⟩

theorem ZRel.isEmpty {ρ : Ren} {zs : List ((AVal × AVal) × Nat)} {Es : List MapEntry} (h : ZRel ρ zs Es) : Es.isEmpty = zs.isEmpty := by
  cases zs with
  | nil => simp only [ZRel] at h; subst h; rfl
  | cons z zs => obtain ⟨_, _⟩ := z; obtain ⟨E, Rs, _, _, _, _, rfl⟩ := h; rfl

/-- The model's candidates, as a list. -/
def candsM (Es : List MapEntry) (since : Nat) (seen : List Nat) : List (Option MapEntry) :=
  let left := Es.filter fun e => !seen.contains e.born
  let old := left.filter fun e => e.born < since
  let new := left.filter fun e => e.born ≥ since
  (if old.isEmpty then [none] else []) ++ (old ++ new).map some

/-- Candidates, one by one. -/
def CRel (ρ : Ren) : List (Option ((AVal × AVal) × Nat)) → List (Option MapEntry) → Prop
  | [], L => L = []
  | none :: r, L => ∃ L', CRel ρ r L' ∧ L = none :: L'
  | some ((k, v), b) :: r, L => ∃ E L', VRel ρ k E.key ∧ VRel ρ v E.val ∧ E.born = b ∧ CRel ρ r L' ∧ L = some E :: L'

theorem CRel.of {ρ : Ren} : ∀ {zs : List ((AVal × AVal) × Nat)} {Es : List MapEntry}, ZRel ρ zs Es → CRel ρ (zs.map some) (Es.map some)
  | [], _, h => by simp only [ZRel] at h; subst h; rfl
  | ((_, _), _) :: _, _, ⟨E, Rs, h1, h2, h3, h4, rfl⟩ => ⟨E, _, h1, h2, h3, CRel.of h4, rfl⟩

theorem CRel.cands {ρ : Ren} {es : List (AVal × AVal)} {Es : List MapEntry} (since : Nat) (seen : List Nat) (h : ERels ρ es Es) : CRel ρ (candsA es (Es.map (·.born)) since seen) (candsM Es since seen) := by
  have hz := (ZRel.of h).filter (fun b => !seen.contains b)
  have ho := hz.filter (fun b => b < since)
  have hn := hz.filter (fun b => b ≥ since)
  have ha := CRel.of (ho.append hn)
  unfold candsA candsM
  simp only
  rw [ho.isEmpty]
  split
  · exact ⟨_, ha, rfl⟩
  · exact ha

omit [Env] in
theorem cands_arr (Es : List MapEntry) (since : Nat) (seen : List Nat) :
    ((if ((Es.toArray.filter fun e => !seen.toArray.contains e.born).filter (·.born < since)).isEmpty then #[none] else #[]) ++ (((Es.toArray.filter fun e => !seen.toArray.contains e.born).filter (·.born < since)) ++ ((Es.toArray.filter fun e => !seen.toArray.contains e.born).filter (·.born ≥ since))).map some : Array (Option MapEntry)) = (candsM Es since seen).toArray := by
  unfold candsM
  simp only [List.filter_toArray, List.contains_toArray, List.isEmpty_toArray, List.append_toArray, List.map_toArray]
  split <;> simp

theorem ok_next {x : Operand} {s : Bool} (ho : o.op = .next x s) (hc : cop? P o = some i) : OpOk P o i := by
  intro call ts v h h' ρ w a he hr hf ht
  simp only [cop?, ho] at hc
  cases s with
  | true => simp at hc
  | false =>
    simp at hc
    obtain ⟨x', hx, rfl⟩ := hc
    have hX := copd_rel ht hx
    simp only [IOp.ev] at he
    unfold nextA at he
    generalize x'.ev ts = cx at he hX
    split at he
    case h_2 => exact (fail_some he).elim
    rename_i k
    simp only [VRel] at hX
    obtain ⟨B, q, hρ, hX⟩ := hX
    obtain ⟨ob, h1, hl, he⟩ := bind_some he
    obtain ⟨l1, l2, l3⟩ := look_some hl
    split at he
    case h_3 => exact (fail_some he).elim
    case h_1 since seen last =>
      obtain ⟨rfl, rfl⟩ := pure_some he
      obtain ⟨B', q', r1, r2⟩ := hr.iterAt l1
      rw [hρ] at r1; cases r1
      rcases r2 with ⟨_, r2⟩ | ⟨r, R, q2, e, _⟩
      · refine Does.still hr (by omega) (by rw [l3]) (b := .value (.tuple #[.bool false])) ?_ ?_
        · simp [execOp, ho, Instr.next, hX, run_getIter r2]
        · simp only [NRel, VRel, VRels]
          exact ⟨_, ⟨_, _, rfl, rfl, rfl⟩, rfl⟩
      · cases e
    case h_2 m since seen last =>
      obtain ⟨B', q', r1, r2⟩ := hr.iterAt l1
      rw [hρ] at r1; cases r1
      rcases r2 with ⟨e, _⟩ | ⟨r, R, q2, e, hR, r2⟩
      · cases e
      cases e
      obtain ⟨ob2, h2, hl2, he⟩ := bind_some he
      obtain ⟨m1, m2, m3⟩ := look_some hl2
      rw [l3] at m1
      split at he
      case h_2 => exact (fail_some he).elim
      rename_i es bs clk
      obtain ⟨R', q3, Es, t1, t2, t3, t4, t5, t6⟩ := hr.mapAt m1
      rw [hR] at t1; cases t1
      by_cases hgone : (!seen.isEmpty && !es.isEmpty && bs.all (· ≥ last)) = true
      · rw [if_pos hgone] at he; exact (fail_some he).elim
      rw [if_neg hgone] at he
      have hlen : Es.isEmpty = es.isEmpty := by
        have := t3.length
        cases es <;> cases Es <;> simp_all
      have hgone' : ¬ ((!seen.toArray.isEmpty && !Es.toArray.isEmpty && Es.toArray.all fun e => e.born ≥ last) = true) := by
        intro hg
        apply hgone
        rw [← t6]
        simpa [hlen, List.all_map, Function.comp_def] using hg
      have hcr := CRel.cands since seen t3
      rw [t6] at hcr
      have harr := cands_arr Es since seen
      have hch : (choose (.mapNext 1)).run P w = .ok 0 w := by simp [Question.forced]
      generalize candsA es bs since seen = cs at he hcr
      split at he
      · obtain ⟨L', hL, hM⟩ := hcr
        simp only [CRel] at hL
        subst hL
        rw [hM] at harr
        obtain ⟨rfl, rfl⟩ := pure_some he
        refine Does.still hr (by omega) (by rw [m3, l3]) (b := .value (.tuple #[.bool false])) ?_ ?_
        · simp only [execOp, ho, Instr.next, hX, Sem.run_bind, run_getIter r2, Result.andThen_ok, run_getObj t2]
          rw [if_neg hgone', harr]
          simp [hch]
        · simp only [NRel, VRel, VRels]
          exact ⟨_, ⟨_, _, rfl, rfl, rfl⟩, rfl⟩
      · rename_i y u b
        obtain ⟨E, L', k1, k2, k3, hL, hM⟩ := hcr
        simp only [CRel] at hL
        subst hL
        rw [hM] at harr
        obtain ⟨uu, h3, hw, he⟩ := bind_some he
        obtain ⟨rfl, rfl⟩ := pure_some he
        obtain ⟨w1, w2⟩ := write_some hw
        refine ⟨.value (.tuple #[.bool true, E.key, E.val]), ρ, putBlock w B (.mapIter (some R) since (seen ++ [b]).toArray clk), ?_, by omega, ?_, ?_⟩
        · simp only [execOp, ho, Instr.next, hX, Sem.run_bind, run_getIter r2, Result.andThen_ok, run_getObj t2]
          rw [if_neg hgone', harr]
          simp [hch, run_setIter r2, k3]
        · rw [w1, w2, m2, m3, l2, l3]
          exact goes_write hr _ l1 hρ (by simp only [ORel]; exact ⟨R, q2, hR, rfl⟩)
        · simp only [NRel, VRel, VRels]
          exact ⟨_, ⟨_, _, rfl, ⟨_, _, k1, ⟨_, _, k2, rfl, rfl⟩, rfl⟩, rfl⟩, rfl⟩
      · exact (fail_some he).elim

theorem ZRel.find {ρ : Ren} (b : Nat) : ∀ {zs : List ((AVal × AVal) × Nat)} {Es : List MapEntry} {y u : AVal} {c : Nat}, ZRel ρ zs Es → zs.find? (fun e => e.2 == b) = some ((y, u), c) → ∃ E, Es.find? (fun e => e.born == b) = some E ∧ VRel ρ y E.key ∧ VRel ρ u E.val
  | [], _, _, _, _, _, h => by simp at h
  | ((_, _), d) :: _, _, _, _, _, ⟨E, Rs, h1, h2, h3, h4, rfl⟩, h => by
    simp only [List.find?_cons] at h ⊢
    rw [h3]
    by_cases hd : (d == b) = true
    · simp only [hd] at h ⊢
      simp only [Option.some.injEq, Prod.mk.injEq] at h
      obtain ⟨⟨rfl, rfl⟩, _⟩ := h
      exact ⟨E, rfl, h1, h2⟩
    · simp only [hd] at h ⊢
      exact ZRel.find b h4 h

theorem ok_entry {x : Operand} (ho : o.op = .entry x) (hc : cop? P o = some i) : OpOk P o i := by
  intro call ts v h h' ρ w a he hr hf ht
  simp only [cop?, ho] at hc
  simp at hc
  obtain ⟨x', hx, rfl⟩ := hc
  have hX := copd_rel ht hx
  simp only [IOp.ev] at he
  unfold entryA at he
  generalize x'.ev ts = cx at he hX
  split at he
  case h_2 => exact (fail_some he).elim
  rename_i k
  simp only [VRel] at hX
  obtain ⟨B, q, hρ, hX⟩ := hX
  obtain ⟨ob, h1, hl, he2⟩ := bind_some he
  clear he
  obtain ⟨l1, l2, l3⟩ := look_some hl
  split at he2
  case h_2 => exact (fail_some he2).elim
  rename_i m since seen last
  obtain ⟨B', q', r1, r2⟩ := hr.iterAt l1
  rw [hρ] at r1; cases r1
  rcases r2 with ⟨e, _⟩ | ⟨r, R, q2, e, hR, r2⟩
  · cases e
  cases e
  obtain ⟨ob2, h2, hl2, he3⟩ := bind_some he2
  clear he2
  obtain ⟨m1, m2, m3⟩ := look_some hl2
  rw [l3] at m1
  split at he3
  case h_2 => exact (fail_some he3).elim
  rename_i es bs clk
  obtain ⟨R', q3, Es, t1, t2, t3, t4, t5, t6⟩ := hr.mapAt m1
  rw [hR] at t1; cases t1
  by_cases hck : clk = last
  case neg => rw [if_neg hck] at he3; exact (fail_some he3).elim
  rw [if_pos hck] at he3
  subst hck
  cases hg : seen.getLast? with
  | none => rw [hg] at he3; exact (fail_some he3).elim
  | some b =>
    rw [hg] at he3
    simp only at he3
    cases hfd : (es.zip bs).find? (fun e => e.2 == b) with
    | none => rw [hfd] at he3; exact (fail_some he3).elim
    | some z =>
      obtain ⟨⟨y, u⟩, c⟩ := z
      rw [hfd] at he3
      obtain ⟨rfl, rfl⟩ := pure_some he3
      have hz := ZRel.of t3
      rw [t6] at hz
      obtain ⟨E, k1, k2, k3⟩ := hz.find b hfd
      refine Does.still hr (by omega) (by rw [m3, l3]) (b := .value (.tuple #[E.key, E.val])) ?_ ?_
      · simp only [execOp, ho, Instr.entry, hX, Sem.run_bind, run_getIter r2, Result.andThen_ok]
        simp [hg, k1, run_getObj t2]
      · simp only [NRel, VRel, VRels]
        exact ⟨_, ⟨_, _, k2, ⟨_, _, k3, rfl, rfl⟩, rfl⟩, rfl⟩

end
end Go.Hv
