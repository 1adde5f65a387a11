/- Each instruction does what the model's operation does: the other built-in functions, atomics. -/
import Derived.Test.YtjoemiadbccljaaGreatHvR
namespace Go.Hv
open Go
variable [Env]

section
variable {P : Program} {o : Oper} {i : IOp} {call : Caller} {ts : List AVal} {v : AVal} {h h' : Heap} {ρ : Ren} {w : World} {a : Act}

omit [Env] in
/-- A built-in function's call, as the model carries it out. -/
theorem run_builtin {b : Builtin} {c : Call} (ho : o.op = .call c) (hc : c.callee = .builtin b) :
    (execOp a.eval o).run P w = (builtin b c.argTypes o.type (c.args.map fun | .const _ => true | _ => false) (c.args.map a.eval)).run P w := by
  simp [execOp, ho, resolve, hc, invoke]
  rfl

omit [Env] in
theorem arr1 {α β : Type} {xs : Array α} {ys : List β} (h : xs.toList.length = ys.length) (h1 : ys.length = 1) : ∃ x, xs = #[x] := by
  rcases xs with ⟨l⟩
  simp at h
  rw [h1] at h
  match l, h with
  | [x], _ => exact ⟨x, rfl⟩

omit [Env] in
theorem arr2 {α β : Type} {xs : Array α} {ys : List β} (h : xs.toList.length = ys.length) (h1 : ys.length = 2) : ∃ x y, xs = #[x, y] := by
  rcases xs with ⟨l⟩
  simp at h
  rw [h1] at h
  match l, h with
  | [x, y], _ => exact ⟨x, y, rfl⟩

omit [Env] in
theorem copds_one {x : Operand} {y : Opd} (h : copds [x] = some [y]) : copd x = some y := by
  simp only [copds] at h
  split at h <;> simp at h
  rename_i a as h1 h2
  rw [h1, h.1]

omit [Env] in
theorem copds_two {x x' : Operand} {y y' : Opd} (h : copds [x, x'] = some [y, y']) : copd x = some y ∧ copd x' = some y' := by
  simp only [copds] at h
  split at h <;> simp at h
  rename_i a as h1 h2
  obtain ⟨rfl, rfl⟩ := h
  exact ⟨h1, copds_one (by simp only [copds]; exact h2)⟩

omit [Env] in
theorem toList_one {α : Type} {xs : Array α} {x : α} (h : xs.toList = [x]) : xs = #[x] := by
  apply Array.ext'; exact h
omit [Env] in
theorem toList_two {α : Type} {xs : Array α} {x y : α} (h : xs.toList = [x, y]) : xs = #[x, y] := by
  apply Array.ext'; exact h

theorem ok_len {c : Call} {t : TypeId} {x : Opd} (ho : o.op = .call c) (hcal : c.callee = .builtin .len) (hts : c.argTypes.toList = [t]) (hxs : copds c.args.toList = some [x]) (hc : cbuiltin P .len [t] [x] = some i) : OpOk P o i := by
  intro call ts v h h' ρ w a he hr hf ht
  obtain ⟨y, hy⟩ := arr1 (copds_len hxs) rfl
  have hx := copd_rel ht (copds_one (by rw [hy] at hxs; exact hxs))
  have hrun := run_builtin (P := P) (w := w) (a := a) ho hcal
  rw [toList_one hts, hy] at hrun
  simp only [cbuiltin] at hc
  split at hc
  · rename_i hu
    simp at hc; subst hc
    simp only [IOp.ev] at he
    generalize x.ev ts = cx at he hx
    cases cx with
    | str s =>
      obtain ⟨rfl, rfl⟩ := pure_some he
      simp only [VRel] at hx
      have hsz : (⟨s.toArray⟩ : ByteArray).size = s.length := by simp [ByteArray.size]
      exact Does.same hr (b := .value (.int .i64 s.length)) (by rw [hrun]; simp [builtin, Builtin.len_, run_und hu, hx, hsz, goInt]) (by simp [NRel, VRel])
    | tok n =>
      simp only at he
      cases hm : Env.len n with
      | none => rw [hm] at he; exact (fail_some he).elim
      | some m =>
        rw [hm] at he
        obtain ⟨rfl, rfl⟩ := pure_some he
        obtain ⟨s, h1, h2⟩ := Env.lenOk n m hm
        simp only [VRel] at hx
        rw [h1] at hx
        exact Does.same hr (b := .value (.int .i64 s.size)) (by rw [hrun]; simp [builtin, Builtin.len_, run_und hu, hx, goInt]) (by simp [NRel, VRel, h2])
    | _ => exact (fail_some he).elim
  · rename_i e hu
    simp at hc; subst hc
    simp only [IOp.ev] at he
    generalize x.ev ts = cx at he hx
    cases cx with
    | slice p n c op =>
      obtain ⟨rfl, rfl⟩ := pure_some he
      have hX : ∃ p' c', a.eval y = .slice p' n c' := by
        rcases p with _ | ⟨k, j⟩
        · simp only [VRel] at hx; exact ⟨_, _, hx.2⟩
        · cases op <;> simp only [VRel] at hx
          · obtain ⟨B, q, _, h2⟩ := hx; exact ⟨_, _, h2⟩
          · obtain ⟨B, q, _, _, h2⟩ := hx; exact ⟨_, _, h2⟩
      obtain ⟨p', c', hX⟩ := hX
      exact Does.same hr (b := .value (.int .i64 n)) (by rw [hrun]; simp [builtin, Builtin.len_, run_und hu, hX, goInt]) (by simp [NRel, VRel])
    | eslice =>
      obtain ⟨rfl, rfl⟩ := pure_some he
      simp only [VRel] at hx
      obtain ⟨b, c', hX⟩ := hx
      exact Does.same hr (b := .value (.int .i64 0)) (by rw [hrun]; simp [builtin, Builtin.len_, run_und hu, hX, goInt]) (by simp [NRel, VRel])
    | _ => exact (fail_some he).elim
  · rename_i e e' hu
    simp at hc; subst hc
    simp only [IOp.ev] at he
    obtain ⟨es, h1, he1, he⟩ := bind_some he
    obtain ⟨rfl, rfl⟩ := pure_some he
    obtain ⟨e1, e2, e3⟩ := entries_rel he1 hr hx
    rcases e3 with ⟨rfl, hM⟩ | ⟨B, q, Es, clk, hM, q1, q2, _⟩
    · exact Does.still hr e1 e2 (b := .value (.int .i64 0)) (by rw [hrun]; simp [builtin, Builtin.len_, run_und hu, hM, goInt]) (by simp [NRel, VRel])
    · exact Does.still hr e1 e2 (b := .value (.int .i64 es.length)) (by rw [hrun]; simp [builtin, Builtin.len_, run_und hu, hM, goInt, run_getObj q1, q2.length]) (by simp [NRel, VRel])
  · rename_i n e hu
    simp at hc; subst hc
    simp only [IOp.ev] at he
    obtain ⟨rfl, rfl⟩ := pure_some he
    exact Does.same hr (b := .value (.int .i64 n)) (by rw [hrun]; simp [builtin, Builtin.len_, run_und hu, goInt]) (by simp [NRel, VRel, Opd.ev])
  · cases hc

theorem ok_append {c : Call} {t t2 : TypeId} {x y : Opd} (ho : o.op = .call c) (hcal : c.callee = .builtin .append) (hts : c.argTypes.toList = [t, t2]) (hxs : copds c.args.toList = some [x, y]) (hc : cbuiltin P .append [t, t2] [x, y] = some i) : OpOk P o i := by
  intro call ts v h h' ρ w a he hr hf ht
  obtain ⟨x', y', hxy⟩ := arr2 (copds_len hxs) rfl
  obtain ⟨c1, c2⟩ := copds_two (by rw [hxy] at hxs; exact hxs)
  have hrun := fun w => run_builtin (P := P) (w := w) (a := a) ho hcal
  rw [toList_two hts, hxy] at hrun
  simp only [cbuiltin] at hc
  split at hc
  case h_2 => cases hc
  rename_i e d hu hd
  cases hi : P.info? e with
  | none => simp [hi] at hc
  | some ti =>
    have hd' : d = .string ∨ ∃ e', d = .slice e' := by
      rw [hi] at hc
      cases d <;> simp at hc <;> simp
    have hz : ∃ zs, zeroT P e = some zs ∧ zs.length = ti.size ∧ 0 < ti.size ∧ i = .append e ti.size ti.bytes x y := by
      rw [hi] at hc
      cases hz : zeroT P e with
      | none => rw [hz] at hc; rcases hd' with rfl | ⟨_, rfl⟩ <;> simp at hc
      | some zs =>
        rw [hz] at hc
        rcases hd' with rfl | ⟨_, rfl⟩ <;> simp at hc <;> exact ⟨zs, rfl, hc.1.1, hc.1.2, hc.2.symm⟩
    obtain ⟨zs, z1, z2, _, rfl⟩ := hz
    simp only [IOp.ev] at he
    have happ := append_rel (P := P) (ty := o.type) hu hi hd hd' z1 z2 he hr hf (copd_rel ht c1) (copd_rel ht c2)
    have := happ.value
    obtain ⟨b, ρ', w', k1, k2, k3, k4⟩ := this
    refine ⟨b, ρ', w', ?_, k2, k3, k4⟩
    rw [hrun]
    simpa [builtin] using k1

theorem lenA_rel {x : AVal} {X : Value} {n : Nat} (hn : lenA x = some n) (hx : VRel ρ x X) : (Builtin.lenOf X).run P w = .ok n w := by
  cases x <;> simp [lenA] at hn
  · simp only [VRel] at hx; subst hx; subst hn; simp [Builtin.lenOf, ByteArray.size]
  · rename_i p m c op
    subst hn
    rcases p with _ | ⟨k, j⟩
    · simp only [VRel] at hx; obtain ⟨_, rfl⟩ := hx; simp [Builtin.lenOf]
    · cases op <;> simp only [VRel] at hx
      · obtain ⟨B, q, _, rfl⟩ := hx; simp [Builtin.lenOf]
      · obtain ⟨B, q, _, _, rfl⟩ := hx; simp [Builtin.lenOf]
  · simp only [VRel] at hx; obtain ⟨b, c, rfl⟩ := hx; subst hn; simp [Builtin.lenOf]

/-- The first elements, in the model: what its own word for them gives. -/
theorem firsts_rel {sz n m : Nat} {x : AVal} {X : Value} {news : List AVal} {n' : Nat} (hle : n ≤ m) (hm : lenA x = some m) (he : newsA sz (firstA n x) h = some ((news, n'), h')) (hr : HRel ρ h.get w) (hx : VRel ρ x X) :
    h'.next = h.next ∧ h'.get = h.get ∧ ∃ News, VRels ρ news News ∧ (Builtin.firstCells sz n X).run P w = .ok News.toArray w := by
  cases x with
  | eslice =>
    simp [lenA] at hm; subst hm
    obtain rfl : n = 0 := by omega
    simp only [VRel] at hx; obtain ⟨b, c, rfl⟩ := hx
    simp only [firstA, newsA] at he
    obtain ⟨e1, rfl⟩ := pure_some he
    cases e1
    exact ⟨rfl, rfl, [], VRels.nil, by simp [Builtin.firstCells, loadCells, loadCellsFrom]⟩
  | str l =>
    simp [lenA] at hm; subst hm
    simp only [VRel] at hx; subst hx
    have hrel : VRel ρ (.str (l.take n)) (.string ⟨(l.take n).toArray⟩) := by simp only [VRel]
    obtain ⟨e1, e2, e3, e4, News, e5, e6⟩ := news_rel (P := P) he hr hrel
    refine ⟨e1, e2, News, e5, ?_⟩
    have hn' : n' = n := by
      simp only [firstA, newsA] at he
      split at he
      · obtain ⟨q, _⟩ := pure_some he
        cases q
        simp; omega
      · exact (fail_some he).elim
    subst hn'
    have := e6 w rfl
    have hex : ((⟨l.toArray⟩ : ByteArray).extract 0 n').data = ((⟨(l.take n').toArray⟩ : ByteArray).extract 0 n').data := by
      rw [ByteArray.data_extract, ByteArray.data_extract]
      simp [List.take_take]
    simp [Builtin.firstCells, List.take_take] at this ⊢
    exact this
  | slice p m' c op =>
    simp [lenA] at hm; subst hm
    have hrel : ∃ X', VRel ρ (.slice p n c op) X' ∧ (Builtin.firstCells sz n X').run P w = (Builtin.firstCells sz n X).run P w := by
      rcases p with _ | ⟨k, j⟩
      · simp only [VRel] at hx; obtain ⟨rfl, rfl⟩ := hx
        exact ⟨.slice none n c, by simp [VRel], by simp [Builtin.firstCells]⟩
      · cases op <;> simp only [VRel] at hx
        · obtain ⟨B, q, h1, rfl⟩ := hx; exact ⟨.slice (some ⟨B, j, none⟩) n c, by simp only [VRel]; exact ⟨B, q, h1, rfl⟩, by simp [Builtin.firstCells]⟩
        · obtain ⟨B, q, h1, h2, rfl⟩ := hx; exact ⟨.slice (some ⟨B, j, none⟩) n (q - c), by simp only [VRel]; exact ⟨B, q, h1, by omega, rfl⟩, by simp [Builtin.firstCells]⟩
    obtain ⟨X', hX', heq⟩ := hrel
    simp only [firstA] at he
    obtain ⟨e1, e2, e3, e4, News, e5, e6⟩ := news_rel (P := P) he hr hX'
    have hn' : n' = n := by
      rcases p with _ | ⟨k, j⟩
      · simp only [newsA] at he
        split at he
        · obtain ⟨q, _⟩ := pure_some he; cases q; omega
        · exact (fail_some he).elim
      · simp only [newsA] at he
        obtain ⟨ob, h1, hl, he⟩ := bind_some he
        cases ob with
        | map => exact (fail_some he).elim
        | iter => exact (fail_some he).elim
        | cells cs e op' =>
          simp only at he
          split at he
          · obtain ⟨q, _⟩ := pure_some he; cases q; rfl
          · exact (fail_some he).elim
    subst hn'
    exact ⟨e1, e2, News, e5, by rw [← heq]; exact e6 w rfl⟩
  | _ => simp [lenA] at hm

theorem ok_copy {c : Call} {t t2 : TypeId} {x y : Opd} (ho : o.op = .call c) (hcal : c.callee = .builtin .copy) (hts : c.argTypes.toList = [t, t2]) (hxs : copds c.args.toList = some [x, y]) (hc : cbuiltin P .copy [t, t2] [x, y] = some i) : OpOk P o i := by
  intro call ts v h h' ρ w a he hr hf ht
  obtain ⟨x', y', hxy⟩ := arr2 (copds_len hxs) rfl
  obtain ⟨c1, c2⟩ := copds_two (by rw [hxy] at hxs; exact hxs)
  have hrun := run_builtin (P := P) (w := w) (a := a) ho hcal
  rw [toList_two hts, hxy] at hrun
  simp only [cbuiltin] at hc
  split at hc
  case h_2 => cases hc
  rename_i e hu
  simp at hc
  obtain ⟨sz, hsz, rfl⟩ := hc
  have hd := copd_rel ht c1
  have hs := copd_rel ht c2
  simp only [IOp.ev] at he
  generalize x.ev ts = d at he hd
  generalize y.ev ts = s at he hs
  unfold copyA at he
  cases hn : lenA d with
  | none => rw [hn] at he; exact (fail_some he).elim
  | some n =>
    cases hm : lenA s with
    | none => rw [hn, hm] at he; exact (fail_some he).elim
    | some m =>
      rw [hn, hm] at he
      simp only at he
      obtain ⟨⟨cs, n'⟩, h1, he1, he⟩ := bind_some he
      obtain ⟨e1, e2, News, e3, e4⟩ := firsts_rel (P := P) (Nat.min_le_left m n) hm he1 hr hs
      have hlen := lenA_rel (P := P) (w := w) hm hs
      have hr1 : HRel ρ h1.get w := by rw [e2]; exact hr
      cases d with
      | slice p dn c op =>
        have hdn : dn = n := by simpa [lenA] using hn
        subst hdn
        rcases p with _ | ⟨k, off⟩
        · obtain ⟨rfl, rfl⟩ := pure_some he
          simp only [VRel] at hd
          refine Does.still hr e1 e2 (b := .value (.int .i64 (Min.min m dn : Nat))) ?_ (by simp [NRel, VRel])
          rw [hrun]
          simp [builtin, Builtin.copy_, run_und hu, hd.2, hlen, sizeT_run hsz, goInt]
          rw [show Nat.min m dn = Min.min m dn from rfl, e4]
          simp
        · obtain ⟨u, h2, he2, he⟩ := bind_some he
          obtain ⟨rfl, rfl⟩ := pure_some he
          have hX : ∃ B q c', ρ k = some (B, q) ∧ a.eval x' = .slice (some ⟨B, off, none⟩) dn c' := by
            cases op <;> simp only [VRel] at hd
            · obtain ⟨B, q', h1, h2⟩ := hd; exact ⟨B, q', _, h1, h2⟩
            · obtain ⟨B, q', h1, _, h2⟩ := hd; exact ⟨B, q', _, h1, h2⟩
          obtain ⟨B, q, c', r1, r2⟩ := hX
          obtain ⟨s1, w', s2, s3⟩ := spliceAt_rel (P := P) he2 hr1 r1 e3
          refine ⟨.value (.int .i64 (Min.min m dn : Nat)), ρ, w', ?_, by omega, ?_, by simp [NRel, VRel]⟩
          · rw [hrun]
            simp [builtin, Builtin.copy_, run_und hu, r2, hlen, sizeT_run hsz, goInt]
            rw [show Nat.min m dn = Min.min m dn from rfl, e4]
            simp [s2]
          · have := s3 h.next
            rw [e2] at this
            rw [s1, e1]
            exact this
      | eslice =>
        have hdn : n = 0 := by simpa [lenA] using hn.symm
        subst hdn
        obtain ⟨rfl, rfl⟩ := pure_some he
        simp only [VRel] at hd
        obtain ⟨b, c', hX⟩ := hd
        refine Does.still hr e1 e2 (b := .value (.int .i64 (Min.min m 0 : Nat))) ?_ (by simp [NRel, VRel])
        have hN : News = [] := by
          have h0 : cs = [] := by
            cases s <;> simp [lenA] at hm <;> simp only [firstA, Nat.min_zero, newsA] at he1
            · split at he1
              · obtain ⟨q, _⟩ := pure_some he1; cases q; simp
              · exact (fail_some he1).elim
            · rename_i p _ _ _
              rcases p with _ | ⟨k, j⟩
              · simp only [if_true] at he1; obtain ⟨q, _⟩ := pure_some he1; cases q; rfl
              · simp only at he1
                obtain ⟨ob, h1, hl, he1⟩ := bind_some he1
                cases ob with
                | map => exact (fail_some he1).elim
                | iter => exact (fail_some he1).elim
                | cells cs' e op' =>
                  simp only at he1
                  split at he1
                  · obtain ⟨q, _⟩ := pure_some he1; cases q; simp [sub]
                  · exact (fail_some he1).elim
            · obtain ⟨q, _⟩ := pure_some he1; cases q; rfl
          subst h0
          rw [VRels.nil_iff] at e3; exact e3
        rw [hrun]
        subst hN
        simp only [Nat.min_zero] at e4
        simp [builtin, Builtin.copy_, run_und hu, hX, hlen, sizeT_run hsz, goInt, e4, storeCells]
      | _ => exact (fail_some he).elim

end
end Go.Hv
