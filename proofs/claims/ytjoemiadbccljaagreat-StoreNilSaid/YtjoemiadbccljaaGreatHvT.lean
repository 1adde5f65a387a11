/- Each instruction does what the model's operation does: delete, clear, max, min, atomics. -/
import Derived.Test.YtjoemiadbccljaaGreatHvS
import Derived.Laws.LoneSync
import Derived.KernelRfl
namespace Go.Hv
open Go
variable [Env]

section
variable {P : Program} {o : Oper} {i : IOp} {call : Caller} {ts : List AVal} {v : AVal} {h h' : Heap} {ρ : Ren} {w : World} {a : Act}

omit [Env] in
theorem map_eraseIdx {α β : Type} (f : α → β) : ∀ (l : List α) (i : Nat), (l.eraseIdx i).map f = (l.map f).eraseIdx i
  | [], _ => rfl
  | _ :: _, 0 => rfl
  | a :: l, i + 1 => by simp [map_eraseIdx f l i]

omit [Env] in
theorem zeroCells_eq (Z : Array Value) (n : Nat) : (Builtin.zeroCells Z n).toList = (List.replicate n Z.toList).flatten := by
  unfold Builtin.zeroCells
  rw [Array.toList_map, Array.toList_range]
  induction n with
  | zero => simp
  | succ n ih =>
    rw [Nat.succ_mul, List.range_add, List.map_append, ih, List.replicate_succ', List.flatten_append]
    congr 1
    simp only [List.flatten_cons, List.flatten_nil, List.append_nil, List.map_map]
    apply List.ext_getElem?
    intro i
    simp only [List.getElem?_map]
    by_cases hi : i < Z.size
    · have h0 : 0 < Z.size := by omega
      simp [hi, Nat.mod_eq_of_lt hi, Nat.mul_comm n]
    · simp [hi]

theorem VRels.repl {ρ : Ren} {vs : List AVal} {Vs : List Value} (h : VRels ρ vs Vs) : ∀ n, VRels ρ (List.replicate n vs).flatten (List.replicate n Vs).flatten
  | 0 => by simp [VRels.nil]
  | n + 1 => by simp only [List.replicate_succ, List.flatten_cons]; exact h.append (VRels.repl h n)

omit [Env] in
theorem g0arr {α : Type} (x y : α) : (#[x, y] : Array α)[0]? = some x := rfl
omit [Env] in
theorem g1arr {α : Type} (x y : α) : (#[x, y] : Array α)[1]? = some y := rfl

omit [Env] in
theorem map_two {α β : Type} (f : α → β) (x y : α) : (#[x, y] : Array α).map f = #[f x, f y] := by simp

theorem ok_delete {c : Call} {t t2 : TypeId} {x y : Opd} (ho : o.op = .call c) (hcal : c.callee = .builtin .delete) (hts : c.argTypes.toList = [t, t2]) (hxs : copds c.args.toList = some [x, y]) (hc : cbuiltin P .delete [t, t2] [x, y] = some i) : OpOk P o i := by
  intro call ts v h h' ρ w a he hr hf ht
  obtain ⟨x', y', hxy⟩ := arr2 (copds_len hxs) rfl
  obtain ⟨c1, c2⟩ := copds_two (by rw [hxy] at hxs; exact hxs)
  have hrun := run_builtin (P := P) (w := w) (a := a) ho hcal
  rw [toList_two hts, hxy, map_two (f := a.eval)] at hrun
  simp only [cbuiltin] at hc
  split at hc
  case h_2 => cases hc
  rename_i kt e hu
  simp at hc
  obtain ⟨k, hk, rfl⟩ := hc
  have hm := copd_rel ht c1
  have hx := copd_rel ht c2
  simp only [IOp.ev] at he
  obtain ⟨u, h1, he1, he⟩ := bind_some he
  obtain ⟨rfl, rfl⟩ := pure_some he
  generalize x.ev ts = m at he1 hm
  generalize y.ev ts = q0 at he1 hx
  have hN : NRel ρ aundef (.value (.tuple #[])) := by simp only [NRel, aundef, VRel, VRels]; exact ⟨[], rfl, rfl⟩
  unfold mdelA at he1
  cases m with
  | map r =>
    cases r with
    | none =>
      simp only at he1
      by_cases hko : keyOk k q0 = false
      · rw [if_pos hko] at he1; exact (fail_some he1).elim
      rw [if_neg hko] at he1
      obtain ⟨_, rfl⟩ := pure_some he1
      simp only [VRel] at hm
      have hck := checkKey_run (P := P) (w := w) true hk (by simpa using hko) hx
      refine Does.same hr (b := .value (.tuple #[])) ?_ hN
      rw [hrun]
      simp only [builtin, Builtin.delete_, g0arr, g1arr, Sem.run_bind, run_und hu, Result.andThen_ok, hm, hck, Sem.run_pure]
    | some k0 =>
      obtain ⟨ob, h2, hl, he1⟩ := bind_some he1
      obtain ⟨l1, l2, l3⟩ := look_some hl
      cases ob with
      | cells => exact (fail_some he1).elim
      | iter => exact (fail_some he1).elim
      | map es bs clk =>
        simp only at he1
        by_cases hko : keyOk k q0 = false
        · rw [if_pos hko] at he1; exact (fail_some he1).elim
        rw [if_neg hko] at he1
        have hko' : keyOk k q0 = true := by simpa using hko
        obtain ⟨r, h3, he2, he1⟩ := bind_some he1
        obtain ⟨B, q, Es, r1, r2, r3, r4, r5, rbs⟩ := hr.mapAt l1
        simp only [VRel] at hm
        obtain ⟨B', q', r6, hM⟩ := hm
        rw [r1] at r6; cases r6
        have hr1 : HRel ρ h2.get w := by rw [l3]; exact hr
        obtain ⟨s1, s2, R, s3, s4⟩ := findKey_run (P := P) hk hx he2 hr1 r3
        have hck := fun b => checkKey_run (P := P) (w := w) b hk hko' hx
        cases r with
        | none =>
          cases R with
          | some p => simp [FRel] at s3
          | none =>
            obtain ⟨_, rfl⟩ := pure_some he1
            refine ⟨.value (.tuple #[]), ρ, putBlock w B (.map Es.toArray clk), ?_, by omega, ?_, hN⟩
            · rw [hrun]
              simp only [builtin, Builtin.delete_, g0arr, g1arr, Sem.run_bind, run_und hu, Result.andThen_ok, hM, run_getObj r2, hck, s4, run_setObj r2, Sem.run_pure]
            · have hgo := goes_write hr h.next l1 r1 (o' := .map es bs clk) (X := .map Es.toArray clk) ⟨Es, r3, rbs, r4, r5, rfl⟩
              have hup : upd h.get k0 (some (.map es bs clk)) = h.get := by
                funext j
                by_cases e : j = k0
                · subst e; rw [upd_same, l1]
                · rw [upd_other _ _ e]
              rw [hup] at hgo
              rw [s1, s2, l2, l3]
              exact hgo
        | some p =>
          obtain ⟨j, u0⟩ := p
          cases R with
          | none => simp [FRel] at s3
          | some pq =>
            obtain ⟨j', U⟩ := pq
            obtain ⟨rfl, hU⟩ := s3
            obtain ⟨w1, w2⟩ := write_some he1
            refine ⟨.value (.tuple #[]), ρ, putBlock w B (.map (Es.eraseIdx j).toArray clk), ?_, by omega, ?_, hN⟩
            · rw [hrun]
              have her : Es.toArray.eraseIdxIfInBounds j = (Es.eraseIdx j).toArray := by
                apply Array.ext'
                rw [Array.toList_eraseIdxIfInBounds]
              simp only [builtin, Builtin.delete_, g0arr, g1arr, Sem.run_bind, run_und hu, Result.andThen_ok, hM, run_getObj r2, hck, s4, run_setObj r2, Sem.run_pure, her]
            · rw [w1, w2, s1, s2, l2, l3]
              refine goes_write hr _ l1 r1 ⟨_, r3.erase j, by rw [← rbs, map_eraseIdx], ?_, ?_, rfl⟩
              · exact (List.Sublist.map _ (List.eraseIdx_sublist Es j)).nodup r4
              · intro E hE
                exact r5 E (List.mem_of_mem_eraseIdx hE)
  | _ => exact (fail_some he1).elim

theorem ok_clear {c : Call} {t : TypeId} {x : Opd} (ho : o.op = .call c) (hcal : c.callee = .builtin .clear) (hts : c.argTypes.toList = [t]) (hxs : copds c.args.toList = some [x]) (hc : cbuiltin P .clear [t] [x] = some i) : OpOk P o i := by
  intro call ts v h h' ρ w a he hr hf ht
  obtain ⟨y, hy⟩ := arr1 (copds_len hxs) rfl
  have hx := copd_rel ht (copds_one (by rw [hy] at hxs; exact hxs))
  have hrun := run_builtin (P := P) (w := w) (a := a) ho hcal
  rw [toList_one hts, hy] at hrun
  simp only [cbuiltin] at hc
  split at hc
  case h_3 => cases hc
  case h_2 =>
    rename_i e hu
    split at hc
    case h_2 => cases hc
    rename_i zs n hz hs
    by_cases hlen : zs.length = n
    case neg => rw [if_neg hlen] at hc; cases hc
    rw [if_pos hlen] at hc
    simp at hc; subst hc
    simp only [IOp.ev] at he
    obtain ⟨u, h1, he1, he⟩ := bind_some he
    obtain ⟨rfl, rfl⟩ := pure_some he
    have hN : NRel ρ aundef (.value (.tuple #[])) := by simp only [NRel, aundef, VRel, VRels]; exact ⟨[], rfl, rfl⟩
    unfold sclearA at he1
    generalize x.ev ts = cx at he1 hx
    cases cx with
    | eslice =>
      obtain ⟨_, rfl⟩ := pure_some he1
      simp only [VRel] at hx
      obtain ⟨s, c', hX⟩ := hx
      exact Does.same hr (b := .value (.tuple #[])) (by rw [hrun]; simp [builtin, Builtin.clear_, run_und hu, hX]) hN
    | slice b m cp op =>
      cases b with
      | none =>
        obtain ⟨_, rfl⟩ := pure_some he1
        simp only [VRel] at hx
        obtain ⟨_, hX⟩ := hx
        exact Does.same hr (b := .value (.tuple #[])) (by rw [hrun]; simp [builtin, Builtin.clear_, run_und hu, hX]) hN
      | some kb =>
        obtain ⟨k, off⟩ := kb
        simp only at he1
        have hX : ∃ B q c', ρ k = some (B, q) ∧ a.eval y = .slice (some ⟨B, off, none⟩) m c' := by
          cases op <;> simp only [VRel] at hx
          · obtain ⟨B, q, h2, h3⟩ := hx; exact ⟨B, q, _, h2, h3⟩
          · obtain ⟨B, q, h2, _, h3⟩ := hx; exact ⟨B, q, _, h2, h3⟩
        obtain ⟨B, q, c', hρ, hX⟩ := hX
        by_cases hm : m = 0
        · rw [if_pos hm] at he1
          obtain ⟨_, rfl⟩ := pure_some he1
          subst hm
          exact Does.same hr (b := .value (.tuple #[])) (by rw [hrun]; simp [builtin, Builtin.clear_, run_und hu, hX]) hN
        · rw [if_neg hm, if_pos hlen] at he1
          obtain ⟨Z, hZ, hZr⟩ := zeroT_run (P := P) (w := w) (ρ := ρ) hz
          obtain ⟨s1, w', s2, s3⟩ := spliceAt_rel (P := P) he1 hr hρ (VRels.repl hZr m)
          refine ⟨.value (.tuple #[]), ρ, w', ?_, by omega, by rw [s1]; exact s3 _, hN⟩
          rw [hrun]
          have hz2 : (Builtin.zeroCells Z.cells m).toList = (List.replicate m Z.cells.toList).flatten := zeroCells_eq _ _
          simp [builtin, Builtin.clear_, run_und hu, hX, hm, hZ, hz2, s2]
    | _ => exact (fail_some he1).elim
  rename_i e e' hu
  simp at hc; subst hc
  simp only [IOp.ev] at he
  obtain ⟨u, h1, he1, he⟩ := bind_some he
  obtain ⟨rfl, rfl⟩ := pure_some he
  unfold mclearA at he1
  generalize x.ev ts = cx at he1 hx
  cases cx with
  | map r =>
    cases r with
    | none =>
      obtain ⟨_, rfl⟩ := pure_some he1
      simp only [VRel] at hx
      exact Does.same hr (b := .value (.tuple #[])) (by rw [hrun]; simp [builtin, Builtin.clear_, run_und hu, hx]) (by simp only [NRel, aundef, VRel, VRels]; exact ⟨[], rfl, rfl⟩)
    | some k =>
      obtain ⟨ob, h2, hl, he1⟩ := bind_some he1
      obtain ⟨l1, l2, l3⟩ := look_some hl
      cases ob with
      | cells => exact (fail_some he1).elim
      | iter => exact (fail_some he1).elim
      | map es bs clk =>
        obtain ⟨w1, w2⟩ := write_some he1
        obtain ⟨B, q, Es, r1, r2, r3, _, _⟩ := hr.mapAt l1
        simp only [VRel] at hx
        obtain ⟨B', q', r4, hX⟩ := hx
        rw [r1] at r4; cases r4
        refine ⟨.value (.tuple #[]), ρ, putBlock w B (.map #[] clk), ?_, by omega, ?_, by simp only [NRel, aundef, VRel, VRels]; exact ⟨[], rfl, rfl⟩⟩
        · rw [hrun]; simp [builtin, Builtin.clear_, run_und hu, hX, run_getObj r2, run_setObj r2]
        · rw [w1, w2, l2, l3]
          exact goes_write hr _ l1 r1 ⟨[], rfl, rfl, by simp, by simp, rfl⟩
  | _ => exact (fail_some he1).elim

theorem fold2_run {gt : Bool} : ∀ (vs : List AVal) (Vs : List Value) (x : AVal) (X : Value), fold2 gt x vs = some v → VRel ρ x X → VRels ρ vs Vs →
    ∃ V, (Vs.foldlM (if gt then Builtin.max2 else Builtin.min2) X).run P w = .ok V w ∧ VRel ρ v V
  | [], Vs, x, X, he, hx, hv => by
    simp [fold2] at he; subst he
    rw [VRels.nil_iff] at hv; subst hv
    exact ⟨X, rfl, hx⟩
  | y :: vs, Vs, x, X, he, hx, hv => by
    obtain ⟨Y, Ys, h1, h2, rfl⟩ := hv.of_cons
    cases x <;> cases y <;> simp [fold2] at he
    rename_i k n k' m
    simp only [VRel] at hx h1
    subst hx; subst h1
    obtain ⟨V, h3, h4⟩ := fold2_run vs Ys _ (.int k (if gt then (if m > n then m else n) else (if m < n then m else n))) he (by cases gt <;> simp [VRel]) h2
    refine ⟨V, ?_, h4⟩
    rw [List.foldlM_cons]
    cases gt
    · simp only [Bool.false_eq_true, if_false] at h3 ⊢
      simp only [Builtin.min2, pure_bind]
      exact h3
    · simp only [if_true] at h3 ⊢
      simp only [Builtin.max2, pure_bind]
      exact h3

theorem args_rel (ht : TRel ρ ts a) {c : Call} {xs : List Opd} (hxs : copds c.args.toList = some xs) : VRels ρ (xs.map (Opd.ev ts)) (c.args.map a.eval).toList := by
  have := copds_rel ht hxs
  simpa using this

theorem maxA_run {gt : Bool} {vs : List AVal} {Vs : List Value} (he : maxA gt vs = some v) (hv : VRels ρ vs Vs) : ∃ X r V, Vs = X :: r ∧ (r.foldlM (if gt then Builtin.max2 else Builtin.min2) X).run P w = .ok V w ∧ VRel ρ v V := by
  cases vs with
  | nil => simp [maxA] at he
  | cons x r =>
    obtain ⟨X, Xs, h1, h2, rfl⟩ := hv.of_cons
    obtain ⟨V, h3, h4⟩ := fold2_run (P := P) (w := w) r Xs x X he h1 h2
    exact ⟨X, Xs, V, rfl, h3, h4⟩

theorem ok_max {c : Call} {ts0 : List TypeId} {xs : List Opd} (ho : o.op = .call c) (hcal : c.callee = .builtin .max) (hxs : copds c.args.toList = some xs) (hc : cbuiltin P .max ts0 xs = some i) : OpOk P o i := by
  intro call ts v h h' ρ w a he hr hf ht
  have hrun := run_builtin (P := P) (w := w) (a := a) ho hcal
  have : i = .max xs := by cases ts0 with
    | nil => simp [cbuiltin] at hc; exact hc.symm
    | cons t ts => cases ts <;> cases xs <;> simp [cbuiltin] at hc <;> exact hc.symm
  subst this
  simp only [IOp.ev] at he
  obtain ⟨hv, rfl⟩ := ofOption_some he
  obtain ⟨X, r, V, h1, h2, h3⟩ := maxA_run (P := P) (w := w) hv (args_rel ht hxs)
  refine Does.same hr (b := .value V) ?_ h3
  rw [hrun]
  simp only [builtin, Builtin.max_, h1, Sem.run_bind]
  simp at h2
  simp [h2]

theorem ok_min {c : Call} {ts0 : List TypeId} {xs : List Opd} (ho : o.op = .call c) (hcal : c.callee = .builtin .min) (hxs : copds c.args.toList = some xs) (hc : cbuiltin P .min ts0 xs = some i) : OpOk P o i := by
  intro call ts v h h' ρ w a he hr hf ht
  have hrun := run_builtin (P := P) (w := w) (a := a) ho hcal
  have : i = .min xs := by cases ts0 with
    | nil => simp [cbuiltin] at hc; exact hc.symm
    | cons t ts => cases ts <;> cases xs <;> simp [cbuiltin] at hc <;> exact hc.symm
  subst this
  simp only [IOp.ev] at he
  obtain ⟨hv, rfl⟩ := ofOption_some he
  obtain ⟨X, r, V, h1, h2, h3⟩ := maxA_run (P := P) (w := w) hv (args_rel ht hxs)
  refine Does.same hr (b := .value V) ?_ h3
  rw [hrun]
  simp only [builtin, Builtin.min_, h1, Sem.run_bind]
  simp at h2
  simp [h2]

end

/-! The atomics. -/

omit [Env] in
theorem look_next (n : String) (h : n ∈ ["sync/atomic.LoadUint64", "sync/atomic.LoadInt64", "sync/atomic.StoreUint64", "sync/atomic.AddUint64", "sync/atomic.AddInt64", "sync/atomic.CompareAndSwapUint64", ""]) :
    Extern.allNextRows.lookup n = none ∧ Extern.allGenericRows.lookup n = none ∧ Extern.allTypedRows.lookup n = none := by
  simp only [List.mem_cons, List.not_mem_nil, or_false] at h
  rcases h with rfl | rfl | rfl | rfl | rfl | rfl | rfl <;> exact ⟨by kernel_rfl, by kernel_rfl, by kernel_rfl⟩


omit [Env] in
theorem find_of {fn : Func} {n : String} (hn : fn.name = n) (ho : fn.origin = "") (hin : n ∈ ["sync/atomic.LoadUint64", "sync/atomic.LoadInt64", "sync/atomic.StoreUint64", "sync/atomic.AddUint64", "sync/atomic.AddInt64", "sync/atomic.CompareAndSwapUint64", ""]) {e : Array Value → Sem Value} (he : Extern.allRows.lookup n = some e) :
    Extern.findNext fn = none ∧ Extern.find fn = some e := by
  obtain ⟨a1, a2, a3⟩ := look_next n hin
  obtain ⟨b1, _, _⟩ := look_next "" (by simp)
  constructor
  · unfold Extern.findNext
    simp [hn, ho, a1, b1]
  · unfold Extern.find
    simp [hn, a2, a3, he]

section
variable {P : Program} {o : Oper} {i : IOp} {call : Caller} {ts : List AVal} {v : AVal} {h h' : Heap} {ρ : Ren} {w : World} {a : Act}

theorem loadA_cell {x : AVal} {X : Value} (he : loadA none x h = some (v, h')) (hr : HRel ρ h.get w) (hx : VRel ρ x X) :
    h'.next = h.next ∧ h'.get = h.get ∧ ∃ b V, X = .pointer (some b) ∧ b.spot = none ∧ w.cell? b = some V ∧ w.frozen? b = false ∧ VRel ρ v V := by
  unfold loadA at he
  split at he
  · rename_i k off
    obtain ⟨ob, h1, hl, he⟩ := bind_some he
    obtain ⟨l1, l2, l3⟩ := look_some hl
    cases ob with
    | map => exact (fail_some he).elim
    | iter => exact (fail_some he).elim
    | cells c e op =>
      obtain ⟨hp, rfl⟩ := ofOption_some he
      simp only [VRel] at hx
      obtain ⟨B, q, r1, rfl⟩ := hx
      obtain ⟨B', q', L1, L2, r2, r3, r4, _⟩ := hr.row l1
      rw [r1] at r2; cases r2
      simp only [partA] at hp
      obtain ⟨V, h5, h6⟩ := r4.get hp
      refine ⟨l2, l3, ⟨B, off, none⟩, V, rfl, rfl, ?_, frozen_at r3 off, h6⟩
      rw [cell_at r3, List.getElem?_append_left (List.getElem?_eq_some_iff.1 h5).1]; exact h5
  · exact (fail_some he).elim

theorem storeA_cell {x y : AVal} {X Y : Value} {u : Unit} (he : storeA 1 x [y] h = some (u, h')) (hr : HRel ρ h.get w) (hx : VRel ρ x X) (hy : VRel ρ y Y) :
    h'.next = h.next ∧ ∃ b U, X = .pointer (some b) ∧ w.cell? b = some U ∧ w.frozen? b = false ∧ ∀ n, Goes n n ρ h.get w ρ h'.get (w.setCell b Y) := by
  obtain ⟨s1, _, s3, b, w', s4, s5, s6, s7⟩ := storeA_rel (P := default) he hr hx (VRels.one hy)
  have hcell : ∃ U, w.cell? b = some U ∧ w.frozen? b = false := by
    unfold storeA at he
    split at he
    · rename_i k off
      obtain ⟨ob, h1, hl, he⟩ := bind_some he
      obtain ⟨l1, l2, l3⟩ := look_some hl
      cases ob with
      | map => exact (fail_some he).elim
      | iter => exact (fail_some he).elim
      | cells c e op =>
        simp only at he
        split at he
        case isFalse => exact (fail_some he).elim
        rename_i hcond
        simp only [VRel] at hx
        obtain ⟨B, q, r1, hX⟩ := hx
        rw [s4] at hX; cases hX
        obtain ⟨B', q', L1, L2, r2, r3, r4, _⟩ := hr.row l1
        rw [r1] at r2; cases r2
        have hlt : off < L1.length := by rw [r4.length]; omega
        exact ⟨L1[off], by rw [cell_at r3, List.getElem?_append_left hlt]; simp [hlt], frozen_at r3 off⟩
    · exact (fail_some he).elim
  obtain ⟨U, c1, c2⟩ := hcell
  refine ⟨s1, b, U, s4, c1, c2, fun n => ?_⟩
  have h1 : Y.oneCell' = true := hy.oneCell (by simpa using s3)
  have hb : b.add 0 = b := by simp [Addr.add]
  have : w' = w.setCell b Y := by
    simp [storeCells, hb, run_store _ w b Y _ h1, c1, c2] at s6
    exact s6.symm
  rw [← this]
  exact s7 n

omit [Env] in
/-- The run of a call of a function without a body. -/
theorem run_extern {c : Call} {f : FuncId} (ho : o.op = .call c) (hc : c.callee = .value (.func f)) :
    (execOp a.eval o).run P w = (callFunc f (c.args.map a.eval)).run P w := by
  simp [execOp, ho, resolve, hc, invoke, Deferred.ofValue, Act.eval]

theorem ok_atomic {c : Call} {f : FuncId} {fn : Func} {xs : List Opd} (ho : o.op = .call c) (hcal : c.callee = .value (.func f)) (hf0 : P.funcs[f]? = some fn) (hname : (fn.name == "runtime.NumGoroutine") = false) (hb : fn.body.isNone = true)
    (horig : (fn.origin == "") = true) (hxs : copds c.args.toList = some xs) (hc : atomicOp fn.name xs = some i) : OpOk P o i := by
  intro call ts v h h' ρ w a he hr hf ht
  have hrun := run_extern (P := P) (w := w) (a := a) ho hcal
  have hor : fn.origin = "" := by simpa using horig
  have hargs := args_rel ht hxs
  unfold atomicOp at hc
  split at hc
  · rename_i x
    obtain ⟨X, Xs, x1, x2, x3⟩ := hargs.of_cons
    rw [show List.map (Opd.ev ts) ([] : List Opd) = [] from rfl, VRels.nil_iff] at x2
    subst x2
    have harr : c.args.map a.eval = #[X] := Array.ext' x3
    have hgen : ∀ (k : IntKind) (n : String), fn.name = n → n ∈ ["sync/atomic.LoadUint64", "sync/atomic.LoadInt64", "sync/atomic.StoreUint64", "sync/atomic.AddUint64", "sync/atomic.AddInt64", "sync/atomic.CompareAndSwapUint64", ""] →
        Extern.allRows.lookup n = some (Extern.Atomic.loadT (.int k)) → i = .aload k x → Does P h h' ρ w (execOp a.eval o) (fun ρ' x => NRel ρ' v x) := by
      rintro k n hn hin hrow rfl
      obtain ⟨f1, f2⟩ := find_of hn hor hin hrow
      simp only [IOp.ev, aloadA] at he
      obtain ⟨u, h1, he1, he⟩ := bind_some he
      obtain ⟨e1, e2, b, V, e3, _, e5, e6, e7⟩ := loadA_cell he1 hr x1
      cases u with
      | int k' n' =>
        simp only at he
        split at he
        · rename_i hk
          subst hk
          obtain ⟨rfl, rfl⟩ := pure_some he
          simp only [VRel] at e7; subst e7
          refine Does.still hr e1 e2 (b := .value (.int k n')) ?_ (by simp [NRel, VRel])
          rw [hrun, harr, e3]
          exact run_call_load hf0 hname hb f1 k f2 e5
        · exact (fail_some he).elim
      | _ => exact (fail_some he).elim
    split at hc
    · rename_i hn; simp at hc; exact hgen .u64 _ hn (by simp) (by kernel_rfl) hc.symm
    · split at hc
      · rename_i hn; simp at hc; exact hgen .i64 _ hn (by simp) (by kernel_rfl) hc.symm
      · cases hc
  · rename_i x y
    obtain ⟨X, Xs, x1, x2, x3⟩ := hargs.of_cons
    obtain ⟨Y, Ys, y1, y2, rfl⟩ := VRels.of_cons (v := Opd.ev ts y) (vs := []) x2
    rw [VRels.nil_iff] at y2
    subst y2
    have harr : c.args.map a.eval = #[X, Y] := Array.ext' x3
    have hadd : ∀ (k : IntKind) (n : String), fn.name = n → n ∈ ["sync/atomic.LoadUint64", "sync/atomic.LoadInt64", "sync/atomic.StoreUint64", "sync/atomic.AddUint64", "sync/atomic.AddInt64", "sync/atomic.CompareAndSwapUint64", ""] →
        Extern.allRows.lookup n = some (Extern.Atomic.update (Op.intArith .add) k true) → i = .aadd k x y → Does P h h' ρ w (execOp a.eval o) (fun ρ' x => NRel ρ' v x) := by
      rintro k n hn hin hrow rfl
      obtain ⟨f1, f2⟩ := find_of hn hor hin hrow
      simp only [IOp.ev, aaddA] at he
      obtain ⟨u, h1, he1, he⟩ := bind_some he
      obtain ⟨e1, e2, b, V, e3, _, e5, e6, e7⟩ := loadA_cell he1 hr x1
      generalize y.ev ts = cy at he y1
      cases u with
      | int k' n' =>
        cases cy with
        | int k2 m =>
          simp only at he
          split at he
          case isFalse => exact (fail_some he).elim
          rename_i hk
          obtain ⟨rfl, rfl⟩ := hk
          obtain ⟨uu, h2, he2, he⟩ := bind_some he
          obtain ⟨rfl, rfl⟩ := pure_some he
          have hr1 : HRel ρ h1.get w := by rw [e2]; exact hr
          obtain ⟨s1, b', U, s2, s3, s4, s5⟩ := storeA_cell he2 hr1 x1 (Y := .int k2 (k2.wrap (n' + m))) (by simp only [VRel])
          rw [e3] at s2; cases s2
          simp only [VRel] at e7 y1; subst e7; subst y1
          refine ⟨.value (.int k2 (k2.wrap (n' + m))), ρ, w.setCell b (.int k2 (k2.wrap (n' + m))), ?_, by omega, ?_, by simp [NRel, VRel]⟩
          · rw [hrun, harr, e3]
            exact run_call_add hf0 hname hb f1 k2 f2 e5 e6 (by simp [Op.intArith])
          · have := s5 h.next
            rw [e2] at this
            rw [s1, e1]
            exact this
        | _ => exact (fail_some he).elim
      | _ => exact (fail_some he).elim
    split at hc
    · rename_i hn
      simp at hc; subst hc
      obtain ⟨f1, f2⟩ := find_of hn hor (by simp) (e := Extern.Atomic.storeT) (by kernel_rfl)
      simp only [IOp.ev] at he
      generalize y.ev ts = cy at he y1
      cases cy with
      | int k m =>
        simp only at he
        obtain ⟨uu, h2, he2, he⟩ := bind_some he
        obtain ⟨rfl, rfl⟩ := pure_some he
        simp only [VRel] at y1; subst y1
        obtain ⟨s1, b', U, s2, s3, s4, s5⟩ := storeA_cell he2 hr x1 (Y := .int k m) (by simp only [VRel])
        refine ⟨.value (.tuple #[]), ρ, w.setCell b' (.int k m), ?_, by omega, by rw [s1]; exact s5 _, by simp only [NRel, aundef, VRel, VRels]; exact ⟨[], rfl, rfl⟩⟩
        rw [hrun, harr, s2]
        exact run_call_store hf0 hname hb f1 f2 s3 s4
      | _ => exact (fail_some he).elim
    · split at hc
      · rename_i hn; simp at hc; exact hadd .u64 _ hn (by simp) (by kernel_rfl) hc.symm
      · split at hc
        · rename_i hn; simp at hc; exact hadd .i64 _ hn (by simp) (by kernel_rfl) hc.symm
        · cases hc
  · rename_i x y z
    obtain ⟨X, Xs, x1, x2, x3⟩ := hargs.of_cons
    obtain ⟨Y, Ys, y1, y2, rfl⟩ := VRels.of_cons (v := Opd.ev ts y) (vs := [Opd.ev ts z]) x2
    obtain ⟨Z, Zs, z1, z2, rfl⟩ := VRels.of_cons (v := Opd.ev ts z) (vs := []) y2
    rw [VRels.nil_iff] at z2
    subst z2
    have harr : c.args.map a.eval = #[X, Y, Z] := Array.ext' x3
    split at hc
    case isFalse => cases hc
    rename_i hn
    simp at hc; subst hc
    obtain ⟨f1, f2⟩ := find_of hn hor (by simp) (e := Extern.Atomic.casT (.int .u64)) (by kernel_rfl)
    simp only [IOp.ev, acasA] at he
    obtain ⟨u, h1, he1, he⟩ := bind_some he
    obtain ⟨e1, e2, b, V, e3, _, e5, e6, e7⟩ := loadA_cell he1 hr x1
    generalize y.ev ts = cy at he y1
    generalize z.ev ts = cz at he z1
    cases u with
    | int k1 m1 =>
      cases cy with
      | int k2 m2 =>
        cases cz with
        | int k3 m3 =>
          simp only at he
          by_cases hk : k1 = .u64 ∧ k2 = .u64 ∧ k3 = .u64
          case neg => rw [if_neg hk] at he; exact (fail_some he).elim
          rw [if_pos hk] at he
          obtain ⟨rfl, rfl, rfl⟩ := hk
          simp only [VRel] at e7 y1 z1; subst e7; subst y1; subst z1
          by_cases hm : m1 = m2
          · rw [if_pos hm] at he
            subst hm
            obtain ⟨uu, h2, he2, he⟩ := bind_some he
            obtain ⟨rfl, rfl⟩ := pure_some he
            have hr1 : HRel ρ h1.get w := by rw [e2]; exact hr
            obtain ⟨s1, b', U, s2, s3, s4, s5⟩ := storeA_cell he2 hr1 x1 (Y := .int .u64 m3) (by simp only [VRel])
            rw [e3] at s2; cases s2
            refine ⟨.value (.bool true), ρ, w.setCell b (.int .u64 m3), ?_, by omega, ?_, by simp [NRel, VRel]⟩
            · rw [hrun, harr, e3]
              exact run_call_cas_hit hf0 hname hb f1 .u64 f2 e5 e6
            · have := s5 h.next
              rw [e2] at this
              rw [s1, e1]
              exact this
          · rw [if_neg hm] at he
            obtain ⟨rfl, rfl⟩ := pure_some he
            refine Does.still hr e1 e2 (b := .value (.bool false)) ?_ (by simp [NRel, VRel])
            rw [hrun, harr, e3]
            exact run_call_cas_miss hf0 hname hb f1 .u64 f2 e5 e6 hm
        | _ => exact (fail_some he).elim
      | _ => exact (fail_some he).elim
    | _ => exact (fail_some he).elim
  · cases hc

end
end Go.Hv
