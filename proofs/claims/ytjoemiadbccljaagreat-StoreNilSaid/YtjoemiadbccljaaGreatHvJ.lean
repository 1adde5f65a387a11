/- Each instruction does what the model's operation does: new rows, slices, lengths. -/
import Derived.Test.YtjoemiadbccljaaGreatHvI
namespace Go.Hv
open Go
variable [Env]

section
variable {P : Program} {o : Oper} {i : IOp} {call : Caller} {ts : List AVal} {v : AVal} {h h' : Heap} {ρ : Ren} {w : World} {a : Act}

omit [Env] in
theorem wrap_small {n : Int} (h0 : 0 ≤ n) (h1 : n < 9223372036854775808) : IntKind.i64.wrap n = n := by
  simp only [IntKind.wrap, IntKind.bits, IntKind.signed]
  have : n % 2 ^ 64 = n := by rw [Int.emod_eq_of_lt h0]; omega
  simp only [this]
  rw [if_neg]
  simp
  omega

theorem VRels.flatten {ρ : Ren} {zs : List AVal} {Zs : List Value} (h : VRels ρ zs Zs) : ∀ n, VRels ρ (List.replicate n zs).flatten (List.replicate n Zs).flatten
  | 0 => VRels.nil
  | n + 1 => by
    rw [List.replicate_succ, List.replicate_succ, List.flatten_cons, List.flatten_cons]
    exact h.append (VRels.flatten h n)

omit [Env] in
theorem range_flatten (Z : Array Value) (hz : 0 < Z.size) : ∀ b, (List.range (b * Z.size)).map (fun i => Z[i % Z.size]!) = (List.replicate b Z.toList).flatten
  | 0 => by simp
  | b + 1 => by
    have e : (b + 1) * Z.size = Z.size + b * Z.size := by rw [Nat.add_mul]; omega
    rw [e, List.range_add, List.map_append, List.map_map, List.replicate_succ, List.flatten_cons, ← range_flatten Z hz b]
    congr 1
    · apply List.ext_getElem
      · simp
      · intro j h1 h2
        simp at h1
        simp [Nat.mod_eq_of_lt h1, h1]
    · apply List.map_congr_left
      intro j _
      simp

omit [Env] in
theorem zeroRow (Z : Array Value) (b sz : Nat) (hs : Z.size = sz) (hz : 0 < sz) :
    ((Array.range (b * sz)).map (Z[· % Z.size]!)) = ((List.replicate b Z.toList).flatten).toArray := by
  subst hs
  rw [← range_flatten Z hz b]
  apply Array.ext'
  simp

theorem VRels.size {ρ : Ren} {zs : List AVal} {Z : Array Value} {n : Nat} (h : VRels ρ zs Z.toList) (hn : zs.length = n) : Z.size = n := by
  rw [← hn, ← h.length]; simp

theorem ok_makeSlice {t : TypeId} {l c : Operand} (ho : o.op = .makeSlice t l c) (hc : cop? P o = some i) : OpOk P o i := by
  intro call ts v h h' ρ w a he hr hf ht
  simp only [cop?, ho] at hc
  split at hc
  · rename_i e hu
    split at hc
    · rename_i ti zs l' c' hi hz hl hcc
      split at hc
      · rename_i hcond
        simp at hc; subst hc
        have hL := copd_rel ht hl
        have hC := copd_rel ht hcc
        simp only [IOp.ev] at he
        generalize l'.ev ts = vl at he hL
        generalize c'.ev ts = vc at he hC
        unfold mkSliceA at he
        cases vl <;> (try exact (fail_some he).elim)
        cases vc <;> (try exact (fail_some he).elim)
        rename_i k1 p k2 q
        simp only at he
        split at he
        case isFalse => exact (fail_some he).elim
        rename_i hb
        obtain ⟨b1, b2, b3, b4, b5⟩ := hb
        obtain ⟨k, h1, ha, he⟩ := bind_some he
        obtain ⟨rfl, rfl⟩ := pure_some he
        obtain ⟨Z, hZ, hrel⟩ := zeroT_run (P := P) (w := w) (ρ := ρ) hz
        have hZs : Z.cells.size = ti.size := hrel.size hcond.1
        obtain ⟨r1, r2, r3, r4, r5⟩ := alloc_rel (P := P) hr 0 (L2 := []) ha hf (hrel.flatten q.toNat) rfl
        simp only [VRel] at hL hC
        refine ⟨.value (.slice (some ⟨w.heap.size, 0, none⟩) p.toNat q.toNat), _, _, ?_, r2, r3, ?_⟩
        · have hw1 : IntKind.i64.wrap p = p := wrap_small b1 (by omega)
          have hw2 : IntKind.i64.wrap q = q := wrap_small (by omega) (by omega)
          have hbig : (decide (q < 0) || decide ((ti.bytes : Int) * q > 2 ^ 48)) = false := by
            simp only [Bool.or_eq_false_iff, decide_eq_false_iff_not]
            refine ⟨by omega, ?_⟩
            have : (q.toNat * ti.bytes : Nat) ≤ 281474976710656 := b3
            have hq : ((q.toNat : Nat) : Int) = q := by omega
            have h2 : ((q.toNat * ti.bytes : Nat) : Int) ≤ 281474976710656 := Int.ofNat_le.2 this
            rw [Int.natCast_mul, hq] at h2
            rw [Int.mul_comm]
            omega
          have hsz : (sizeOf e).run P w = .ok ti.size w := by simp [sizeOf, run_info hi]
          have hcond2 : ((decide (q < 0) || decide ((ti.bytes : Int) * q > 2 ^ 48)) || decide (p < 0) || decide (p > q)) = false := by
            rw [hbig, Bool.false_or, Bool.or_eq_false_iff, decide_eq_false_iff_not, decide_eq_false_iff_not]; omega
          have hcells : ((Array.range (q.toNat * ti.size)).map ((if q.toNat * ti.size = 0 then #[] else Z.cells)[· % (if q.toNat * ti.size = 0 then #[] else Z.cells).size]!)) = ((List.replicate q.toNat Z.cells.toList).flatten ++ []).toArray := by
            by_cases h0 : q.toNat * ti.size = 0
            · have : q.toNat = 0 := by
                rcases Nat.mul_eq_zero.1 h0 with h | h
                · exact h
                · omega
              simp [this]
            · simp only [h0, if_false, List.append_nil]
              exact zeroRow Z.cells q.toNat ti.size hZs hcond.2
          simp only [execOp, ho, Instr.makeSlice, hL, hC, Sem.run_bind, run_und hu, Result.andThen_ok, asInt, asIntOf, Sem.run_pure, run_info hi, hw1, hw2]
          rw [if_neg (by rw [hcond2]; simp)]
          simp only [Sem.run_bind, run_askRoom, Result.andThen_ok, hsz]
          by_cases h0 : q.toNat * ti.size = 0
          · rw [if_pos h0] at hcells ⊢
            simp only [Sem.run_bind, Sem.run_pure, Result.andThen_ok, hcells, r1]
          · rw [if_neg h0] at hcells ⊢
            simp only [Sem.run_bind, hZ, Sem.run_pure, Result.andThen_ok, hcells, r1]
        · simp only [NRel, VRel]
          exact ⟨_, _, r4, rfl⟩
      · cases hc
    · cases hc
  · cases hc

theorem fillS_rel (sz : Nat) (ht : TRel ρ ts a) : ∀ (ps : List (Nat × Operand)) (qs : List (Nat × Opd)) (cs cs' : List AVal) (Cs : List Value),
    cpartsS ps = some qs → fillS ts sz qs cs = some cs' → VRels ρ cs Cs →
    ∃ Cs', Instr.fill (fun i => some (i * sz, sz)) Cs.toArray (ps.map fun p => (p.1, a.eval p.2)) = some Cs'.toArray ∧ VRels ρ cs' Cs'
  | [], qs, cs, cs', Cs, h1, h2, h3 => by
    simp [cpartsS] at h1; subst h1
    simp [fillS] at h2; subst h2
    exact ⟨Cs, by simp [Instr.fill], h3⟩
  | (j, x) :: r, qs, cs, cs', Cs, h1, h2, h3 => by
    simp only [cpartsS] at h1
    split at h1 <;> simp at h1
    rename_i y ys p2 p3
    subst h1
    simp only [fillS] at h2
    by_cases hcond : (y.ev ts).cells.length = sz ∧ j * sz + sz ≤ cs.length
    case neg => rw [if_neg hcond] at h2; cases h2
    rw [if_pos hcond] at h2
    have hv := copd_rel ht p2
    have hcl : (a.eval x).cells.toList.length = sz := by rw [hv.cells.length]; exact hcond.1
    have hsz : (a.eval x).cells.size = sz := by simpa using hcl
    have hCs : Cs.length = cs.length := h3.length
    have hsp := foldl_splice (a.eval x).cells.toList 0 (j * sz) Cs.toArray (by simp [hsz, hCs]; exact hcond.2)
    have hnew : VRels ρ (splice cs (j * sz) (y.ev ts).cells) (Cs.take (j * sz) ++ (a.eval x).cells.toList ++ Cs.drop (j * sz + (a.eval x).cells.toList.length)) := h3.splice (j * sz) hv.cells
    obtain ⟨Cs', h4, h5⟩ := fillS_rel sz ht r ys _ cs' _ p3 h2 hnew
    refine ⟨Cs', ?_, h5⟩
    simp only [List.map_cons, Instr.fill]
    have hno : ((a.eval x).cells.size ≠ sz || decide (j * sz + (a.eval x).cells.size > Cs.toArray.size)) = false := by
      simp [hsz, hCs]; exact hcond.2
    have hz : ((a.eval x).cells.zipIdx.foldl (fun (cs : Array Value) (p : Value × Nat) => cs.setIfInBounds (j * sz + p.2) p.1) Cs.toArray) = (Cs.take (j * sz) ++ (a.eval x).cells.toList ++ Cs.drop (j * sz + (a.eval x).cells.toList.length)).toArray := by
      rw [← Array.foldl_toList, Array.toList_zipIdx, hsp]
      simp
    simp only [ne_eq, decide_not] at hno
    rw [if_neg (by simpa using hno)]
    rw [← h4]
    congr 1

theorem ok_buildSlice {t : TypeId} {len : Nat} {parts : Array (Nat × Operand)} (ho : o.op = .buildSlice t len parts) (hc : cop? P o = some i) : OpOk P o i := by
  intro call ts v h h' ρ w a he hr hf ht
  simp only [cop?, ho] at hc
  split at hc
  · rename_i e hu
    split at hc
    · rename_i n zs q hn hz hq
      split at hc
      · rename_i hcond
        simp at hc; subst hc
        obtain ⟨c1, c2, c3⟩ := hcond
        simp only [IOp.ev] at he
        obtain ⟨cs, h1, he1, he⟩ := bind_some he
        obtain ⟨hcs, rfl⟩ := ofOption_some he1
        obtain ⟨k, h2, ha, he⟩ := bind_some he
        obtain ⟨rfl, rfl⟩ := pure_some he
        obtain ⟨Z, hZ, hrel⟩ := zeroT_run (P := P) (w := w) (ρ := ρ) hz
        have hZs : Z.cells.size = n := hrel.size c2
        obtain ⟨Cs', f1, f2⟩ := fillS_rel n ht parts.toList q _ cs _ hq hcs (hrel.flatten len)
        obtain ⟨r1, r2, r3, r4, r5⟩ := alloc_rel (P := P) hr 0 (L2 := []) ha hf f2 rfl
        refine ⟨.value (.slice (some ⟨w.heap.size, 0, none⟩) len len), _, _, ?_, r2, r3, ?_⟩
        · have hcells : ((Array.range (len * n)).map ((if len * n = 0 then #[] else Z.cells)[· % (if len * n = 0 then #[] else Z.cells).size]!)) = ((List.replicate len Z.cells.toList).flatten).toArray := by
            by_cases h0 : len * n = 0
            · have : len = 0 := by
                rcases Nat.mul_eq_zero.1 h0 with h | h
                · exact h
                · omega
              simp [this]
            · simp only [h0, if_false]
              exact zeroRow Z.cells len n hZs c3
          have h5 : Instr.fill (fun i => some (i * n, n)) ((List.replicate len Z.cells.toList).flatten).toArray (parts.map fun p => (p.1, a.eval p.2)).toList = some Cs'.toArray := by
            simpa using f1
          simp only [List.append_nil] at r1
          simp only [execOp, ho, Instr.buildSlice, Sem.run_bind, run_und hu, Result.andThen_ok, sizeT_run hn, Sem.run_pure]
          rw [if_neg (by omega)]
          by_cases h0 : len * n = 0
          · rw [if_pos h0] at hcells ⊢
            simp only [Sem.run_bind, Sem.run_pure, Result.andThen_ok, hcells]
            rw [h5]
            simp only [Sem.run_bind, r1, Result.andThen_ok, Sem.run_pure, List.append_nil]
          · rw [if_neg h0] at hcells ⊢
            simp only [Sem.run_bind, hZ, Sem.run_pure, Result.andThen_ok, hcells]
            rw [h5]
            simp only [Sem.run_bind, r1, Result.andThen_ok, Sem.run_pure, List.append_nil]
        · simp only [NRel, VRel]
          exact ⟨_, _, r4, rfl⟩
      · cases hc
    · cases hc
  · cases hc

theorem ok_makeMap {t : TypeId} {r : Option Operand} (ho : o.op = .makeMap t r) (hc : cop? P o = some i) : OpOk P o i := by
  intro call ts v h h' ρ w a he hr hf ht
  cases r with
  | some x => simp [cop?, ho] at hc
  | none =>
    simp [cop?, ho] at hc; subst hc
    simp only [IOp.ev] at he
    obtain ⟨k, h1, ha, he⟩ := bind_some he
    obtain ⟨rfl, rfl⟩ := pure_some he
    obtain ⟨rfl, hn, hg⟩ := alloc_some ha
    have hfree : ρ h.next = none := hf _ (Nat.le_refl _) (by omega)
    refine ⟨.value (.map (some w.heap.size)), ρ.set h.next (w.heap.size, 0), w.alloc (.map #[] 0), ?_, by omega, ?_, ?_⟩
    · simp [execOp, ho, Instr.makeMap]
    · rw [hn, hg]
      exact goes_alloc hr 0 hfree ⟨[], rfl, rfl, by simp, by simp, rfl⟩
    · simp only [NRel, VRel]
      exact ⟨w.heap.size, 0, by simp [Ren.set], rfl⟩

/-! Slices. -/

theorem natOf_rel {x : AVal} {X : Value} {n : Nat} (hn : natOf x = some n) (hx : VRel ρ x X) : ∃ k, X = .int k n := by
  unfold natOf at hn
  split at hn
  · rename_i k m
    split at hn <;> simp at hn
    rename_i h0
    subst hn
    simp only [VRel] at hx
    exact ⟨k, by rw [hx]; congr 1; omega⟩
  · cases hn

omit [Env] in
theorem run_bound {X : Value} {k : IntKind} {n y : Nat} (hX : X = .int k n) (hle : n ≤ y) (code : BoundsCode) : (Instr.sliceBound X y code).run P w = .ok n w := by
  subst hX
  simp [Instr.sliceBound, asIntOf, hle]

/-- A bound that may be left out, in the model. -/
theorem bound_rel (ht : TRel ρ ts a) {x : Option Operand} {y : Option Opd} {d n : Nat} (hc : copdO x = some y) (hb : boundA ts d y = some n) :
    (x = none ∧ y = none ∧ n = d) ∨ ∃ x' y' k, x = some x' ∧ y = some y' ∧ a.eval x' = .int k n := by
  cases x with
  | none => simp [copdO] at hc; subst hc; simp [boundA] at hb; exact .inl ⟨rfl, rfl, hb.symm⟩
  | some x' =>
    simp [copdO] at hc
    obtain ⟨y', h1, rfl⟩ := hc
    simp only [boundA] at hb
    obtain ⟨k, h2⟩ := natOf_rel hb (copd_rel ht h1)
    exact .inr ⟨x', y', k, rfl, rfl, h2⟩

omit [Env] in
/-- The bounds of a slice expression. -/
theorem run_bounds (isSlice : Bool) {len cap l hh m : Nat} {lo hi mx : Option Value} (hlo : (lo = none ∧ l = 0) ∨ ∃ k, lo = some (.int k l)) (hhi : (hi = none ∧ hh = len) ∨ ∃ k, hi = some (.int k hh))
    (hmx : (mx = none ∧ m = cap) ∨ ∃ k, mx = some (.int k m)) (h1 : l ≤ hh) (h2 : hh ≤ m) (h3 : m ≤ cap) (h4 : mx.isSome = true → hi.isSome = true) :
    (Instr.sliceBounds isSlice len cap lo hi mx).run P w = .ok (l, hh, m) w := by
  rcases hmx with ⟨rfl, rfl⟩ | ⟨k3, rfl⟩
  · rcases hhi with ⟨rfl, rfl⟩ | ⟨k2, rfl⟩ <;> rcases hlo with ⟨rfl, rfl⟩ | ⟨k1, rfl⟩ <;> simp [Instr.sliceBounds, run_bound (P := P) (w := w) rfl h1, run_bound (P := P) (w := w) rfl h2]
  · rcases hhi with ⟨rfl, rfl⟩ | ⟨k2, rfl⟩
    · simp at h4
    · rcases hlo with ⟨rfl, rfl⟩ | ⟨k1, rfl⟩ <;> simp [Instr.sliceBounds, run_bound (P := P) (w := w) rfl h1, run_bound (P := P) (w := w) rfl h2, run_bound (P := P) (w := w) rfl h3]

end
end Go.Hv
