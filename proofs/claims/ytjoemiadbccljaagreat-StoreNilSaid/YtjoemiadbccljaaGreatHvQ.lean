/- Each instruction does what the model's operation does: the built-in functions that read, write and grow. -/
import Derived.Test.YtjoemiadbccljaaGreatHvO
import Derived.Laws.Externs
namespace Go.Hv
open Go
variable [Env]

section
variable {P : Program} {o : Oper} {i : IOp} {call : Caller} {ts : List AVal} {v : AVal} {h h' : Heap} {ρ : Ren} {w : World} {a : Act}

omit [Env] in
theorem copds_len : ∀ {xs : List Operand} {ys : List Opd}, copds xs = some ys → xs.length = ys.length
  | [], _, h => by simp [copds] at h; subst h; rfl
  | x :: r, _, h => by
    simp only [copds] at h
    split at h <;> simp at h
    rename_i y ys h1 h2
    subst h
    simp [copds_len h2]

/-- What is appended, or copied from. -/
theorem news_rel {sz n : Nat} {x : AVal} {X : Value} {news : List AVal} (he : newsA sz x h = some ((news, n), h')) (hr : HRel ρ h.get w) (hx : VRel ρ x X) :
    h'.next = h.next ∧ h'.get = h.get ∧ news.length = n * sz ∧ (Builtin.lenOf X).run P w = .ok n w ∧ ∃ News, VRels ρ news News ∧ ∀ (w' : World), w'.heap = w.heap → (Builtin.firstCells sz n X).run P w' = .ok News.toArray w' := by
  unfold newsA at he
  cases x with
  | eslice =>
    obtain ⟨e1, rfl⟩ := pure_some he
    cases e1
    simp only [VRel] at hx; obtain ⟨b, c, rfl⟩ := hx
    exact ⟨rfl, rfl, by simp, by simp [Builtin.lenOf], [], VRels.nil, fun w' _ => by simp [Builtin.firstCells, loadCells, loadCellsFrom]⟩
  | str l =>
    simp only at he
    split at he
    · rename_i h1
      subst h1
      obtain ⟨e1, rfl⟩ := pure_some he
      cases e1
      simp only [VRel] at hx; subst hx
      have hsz : (⟨l.toArray⟩ : ByteArray).size = l.length := by simp [ByteArray.size]
      refine ⟨rfl, rfl, by simp, by simp [Builtin.lenOf, hsz], l.map (fun b => Value.int .u8 b.toNat), ?_, fun w' _ => ?_⟩
      · clear hsz he
        induction l with
        | nil => exact VRels.nil
        | cons b l ih => exact VRels.cons (by simp only [VRel]) ih
      · simp [Builtin.firstCells]
    · exact (fail_some he).elim
  | slice p m c op =>
    rcases p with _ | ⟨k, off⟩
    · simp only at he
      split at he
      · rename_i hm0
        subst hm0
        obtain ⟨e1, rfl⟩ := pure_some he
        cases e1
        simp only [VRel] at hx; obtain ⟨_, rfl⟩ := hx
        exact ⟨rfl, rfl, by simp, by simp [Builtin.lenOf], [], VRels.nil, fun w' _ => by simp [Builtin.firstCells]⟩
      · exact (fail_some he).elim
    · obtain ⟨ob, h1, hl, he⟩ := bind_some he
      obtain ⟨l1, l2, l3⟩ := look_some hl
      cases ob with
      | map => exact (fail_some he).elim
      | iter => exact (fail_some he).elim
      | cells cs e op' =>
        simp only at he
        by_cases hle : off + m * sz ≤ cs.length
        case neg => rw [if_neg hle] at he; exact (fail_some he).elim
        rw [if_pos hle] at he
        obtain ⟨e1, rfl⟩ := pure_some he
        cases e1
        have hX : ∃ B q c', ρ k = some (B, q) ∧ X = .slice (some ⟨B, off, none⟩) n c' := by
          cases op <;> simp only [VRel] at hx
          · obtain ⟨B, q', h1, h2⟩ := hx; exact ⟨B, q', _, h1, h2⟩
          · obtain ⟨B, q', h1, _, h2⟩ := hx; exact ⟨B, q', _, h1, h2⟩
        obtain ⟨B, q, c', r1, rfl⟩ := hX
        obtain ⟨B', q', L1, L2, r2, r3, r4, _⟩ := hr.row l1
        rw [r1] at r2; cases r2
        refine ⟨l2, l3, by simp [sub]; omega, by simp [Builtin.lenOf], _, r4.sub off (n * sz), fun w' hw' => ?_⟩
        have r3' : w'.heap[B]? = some (.cells (L1 ++ L2).toArray e (0, 0)) := by rw [hw']; exact r3
        have hrun := run_cells (P := P) r3' (off := off) (n := n * sz) (by simp [r4.length]; omega)
        rw [take_append_of_le (by rw [r4.length]; exact hle)] at hrun
        simpa [Builtin.firstCells] using hrun
  | _ => exact (fail_some he).elim


theorem spliceAt_rel {k off : Nat} {vs : List AVal} {Vs : List Value} {u : Unit} {B q : Nat} (he : spliceAt k off vs h = some (u, h')) (hr : HRel ρ h.get w) (hρ : ρ k = some (B, q)) (hv : VRels ρ vs Vs) :
    h'.next = h.next ∧ ∃ w', (storeCells ⟨B, off, none⟩ Vs).run P w = .ok () w' ∧ ∀ n, Goes n n ρ h.get w ρ h'.get w' := by
  unfold spliceAt at he
  obtain ⟨ob, h1, hl, he⟩ := bind_some he
  obtain ⟨l1, l2, l3⟩ := look_some hl
  cases ob with
  | map => exact (fail_some he).elim
  | iter => exact (fail_some he).elim
  | cells c e op =>
    simp only at he
    by_cases hcond : off + vs.length ≤ c.length ∧ vs.all AVal.oneCell = true
    case neg => rw [if_neg hcond] at he; exact (fail_some he).elim
    rw [if_pos hcond] at he
    obtain ⟨w1, w2⟩ := write_some he
    obtain ⟨w', s1, _⟩ := storeCells_rel (P := P) hr 0 l1 hρ hv hcond.2 hcond.1
    refine ⟨by omega, w', s1, fun n => ?_⟩
    obtain ⟨w'', s2, s3⟩ := storeCells_rel (P := P) hr n l1 hρ hv hcond.2 hcond.1
    rw [s1] at s2; cases s2
    rw [w2, l3]
    exact s3

omit [Env] in
theorem nextcap_le (n c : Nat) (h : c < n) : Builtin.nextslicecap n c ≤ 2 * n + 768 := by
  unfold Builtin.nextslicecap
  split
  · omega
  · split
    · omega
    · have hg : ∀ (r m : Nat), m ≤ 2 * n + 768 → Builtin.growBy n r m ≤ 2 * n + 768 := by
        intro r
        induction r with
        | zero => intro m hm; simpa [Builtin.growBy] using hm
        | succ r ih =>
          intro m hm
          simp only [Builtin.growBy]
          split
          · exact hm
          · exact ih _ (by omega)
      exact hg 4 c (by omega)

omit [Env] in
/-- The bytes that may be. -/
theorem roomA_ok {bytes n c : Nat} (hr : roomA bytes n = true) (hc : c < n) : ¬ (Builtin.nextslicecap n c * bytes > 2 ^ 48) ∧ ¬ ((n : Int) > IntKind.i64.max) ∧ n < 2 ^ 63 := by
  simp only [roomA, Bool.and_eq_true, decide_eq_true_eq] at hr
  obtain ⟨h1, h2⟩ := hr
  refine ⟨?_, ?_, by omega⟩
  · have h3 := Nat.mul_le_mul_right bytes (nextcap_le n c hc)
    omega
  · simp only [IntKind.max, IntKind.signed, IntKind.bits]
    simp
    omega

/-- A new row that bears what there was, what is appended, and more. -/
theorem grow_rel {e : TypeId} {ti : TypeInfo} {zs : List AVal} {cs : List AVal} {Cs : List Value} {n : Nat} (hz : zeroT P e = some zs) (hzl : zs.length = ti.size)
    (he : growA e ti.size cs n h = some (v, h')) (hr : HRel ρ h.get w) (hf : Free ρ h.next h'.next) (hC : VRels ρ cs Cs) (hlen : cs.length = n * ti.size) (newCap : Nat) (hcap : n ≤ newCap) :
    Does P h h' ρ w (do
      let rest := Builtin.zeroCells (← zeroValue e).cells (newCap - n)
      pure (.slice (some (← newRow e (Cs.toArray ++ rest))) n newCap)) (fun ρ' V => VRel ρ' v V) := by
  unfold growA at he
  obtain ⟨k, h1, ha, he⟩ := bind_some he
  obtain ⟨rfl, rfl⟩ := pure_some he
  obtain ⟨Z, hZ, hrel⟩ := zeroT_run (P := P) (w := w) (ρ := ρ) hz
  have hZs : Z.cells.size = ti.size := hrel.size hzl
  have hrest : (Builtin.zeroCells Z.cells (newCap - n)).toList.length = (newCap - n) * ti.size := by
    simp [Builtin.zeroCells, hZs]
  obtain ⟨r1, r2, r3, r4, r5⟩ := alloc_rel (P := P) hr newCap (L2 := (Builtin.zeroCells Z.cells (newCap - n)).toList) ha hf hC (by
    simp only [Fits]
    rw [hrest, hC.length, hlen, ← Nat.add_mul]
    congr 1
    omega)
  have harr : (Cs ++ (Builtin.zeroCells Z.cells (newCap - n)).toList).toArray = Cs.toArray ++ Builtin.zeroCells Z.cells (newCap - n) := by
    apply Array.ext'
    simp
  rw [harr] at r1 r3
  refine ⟨.slice (some ⟨w.heap.size, 0, none⟩) n newCap, _, _, ?_, r2, r3, ?_⟩
  · simp only [Sem.run_bind, hZ, Result.andThen_ok, r1, Sem.run_pure]
  · simp only [VRel]
    exact ⟨_, _, r4, by omega, rfl⟩

theorem Does.after {β γ : Type} {h1 h2 h3 : Heap} {s : Sem β} {f : β → Sem γ} {b : β} {R : Ren → γ → Prop} {w1 : World} (hs : s.run P w = .ok b w1) (hn : h2.next = h1.next) (hg : Goes h1.next h1.next ρ h1.get w ρ h2.get w1)
    (k : Does P h2 h3 ρ w1 (f b) R) : Does P h1 h3 ρ w (s >>= f) R := by
  obtain ⟨c, ρ', w', e1, e2, e3, e4⟩ := k
  rw [hn] at e2 e3
  exact ⟨c, ρ', w', by simp [hs, e1], e2, hg.trans (Nat.le_refl _) e2 e3, e4⟩

end
end Go.Hv
