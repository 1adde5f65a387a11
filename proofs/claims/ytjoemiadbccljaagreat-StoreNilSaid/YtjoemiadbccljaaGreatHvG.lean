/- Each instruction does what the model's operation does: numbers, texts, comparisons, conversions, places. -/
import Derived.Test.YtjoemiadbccljaaGreatHvF
import Derived.Laws.Strings
namespace Go.Hv
open Go
variable [Env]

section
variable {P : Program} {o : Oper} {i : IOp} {call : Caller} {ts : List AVal} {v : AVal} {h h' : Heap} {ρ : Ren} {w : World} {a : Act}

omit [Env] in
theorem toList_mk (l : List UInt8) : (⟨l.toArray⟩ : ByteArray).toList = l := by rw [ByteArray.toList_eq]

omit [Env] in
theorem less_eq : ∀ (x y : List UInt8), Op.bytesLess x y = lessB x y
  | _, [] => by simp [Op.bytesLess, lessB]
  | [], _ :: _ => by simp [Op.bytesLess, lessB]
  | a :: x, b :: y => by simp [Op.bytesLess, lessB, less_eq x y]

theorem binI_run {op : BinOp} {k : IntKind} {x y : Int} (hs : op ≠ .shl ∧ op ≠ .shr) (hv : binI op k x y = some v) (t : TypeId) :
    ∃ V, (binOp op t (.int k x) (.int k y)).run P w = .ok V w ∧ VRel ρ v V := by
  cases op <;> simp [binI] at hv <;> simp at hs
  case quo => obtain ⟨h1, rfl⟩ := hv; exact ⟨_, by simp [binOp, Op.intDiv, h1]; rfl, by simp [VRel]⟩
  case rem => obtain ⟨h1, rfl⟩ := hv; exact ⟨_, by simp [binOp, Op.intDiv, h1]; rfl, by simp [VRel]⟩
  all_goals (subst hv; exact ⟨_, by simp [binOp, Op.intArith, Op.intBits, Op.intCmp]; rfl, by simp [VRel]⟩)

theorem shiftI_run {op : BinOp} {k k' : IntKind} {x y : Int} (hv : shiftI op k x y = some v) (t : TypeId) :
    ∃ V, (binOp op t (.int k x) (.int k' y)).run P w = .ok V w ∧ VRel ρ v V := by
  unfold shiftI at hv
  by_cases hy : y < 0
  · simp [hy] at hv
  · rw [if_neg hy] at hv
    cases op <;> simp at hv
    all_goals (subst hv; exact ⟨_, by simp [binOp, Op.shift, hy]; rfl, by simp [VRel]⟩)

theorem binS_run {op : BinOp} {x y : List UInt8} (hv : binS op x y = some v) (t : TypeId) :
    ∃ V, (binOp op t (.string ⟨x.toArray⟩) (.string ⟨y.toArray⟩)).run P w = .ok V w ∧ VRel ρ v V := by
  cases op <;> simp only [binS] at hv
  case add =>
    split at hv <;> simp at hv
    rename_i hl
    subst hv
    refine ⟨.string ⟨(x ++ y).toArray⟩, ?_, by simp only [VRel]⟩
    have hsz : ¬ (((⟨x.toArray⟩ : ByteArray).size + (⟨y.toArray⟩ : ByteArray).size : Nat) : Int) > IntKind.i64.max := by
      have e1 : (⟨x.toArray⟩ : ByteArray).size = x.length := by simp [ByteArray.size]
      have e2 : (⟨y.toArray⟩ : ByteArray).size = y.length := by simp [ByteArray.size]
      rw [e1, e2]
      simp [IntKind.max, IntKind.signed, IntKind.bits]
      omega
    have hcat : (⟨x.toArray⟩ : ByteArray) ++ ⟨y.toArray⟩ = ⟨(x ++ y).toArray⟩ := by
      apply ByteArray.ext
      rw [ByteArray.data_append]
      simp
    simp only [binOp, Op.stringOp]
    rw [if_neg hsz, hcat]
    rfl
  all_goals (first
    | (simp at hv; done)
    | (simp only [Option.some.injEq] at hv; subst hv
       refine ⟨_, by simp only [binOp, Op.stringOp, toList_mk, less_eq]; rfl, by simp only [VRel]⟩))

theorem binA_run {op : BinOp} {x y : AVal} {X Y : Value} (hx : VRel ρ x X) (hy : VRel ρ y Y) (hv : binA op x y = some v) (t : TypeId) :
    ∃ V, (binOp op t X Y).run P w = .ok V w ∧ VRel ρ v V ∧ (∀ (xo yo : Operand), (eqGuard op t xo yo X Y).run P w = .ok () w) := by
  unfold binA at hv
  split at hv
  · rename_i k x k' y
    simp only [VRel] at hx hy
    subst hx; subst hy
    have hg : ∀ (xo yo : Operand), (eqGuard op t xo yo (.int k x) (.int k' y)).run P w = .ok () w := fun _ _ => by cases op <;> simp [eqGuard]
    by_cases hs : op = .shl ∨ op = .shr
    · rw [if_pos hs] at hv
      obtain ⟨V, h1, h2⟩ := shiftI_run (P := P) (w := w) (ρ := ρ) (k' := k') hv t
      exact ⟨V, h1, h2, hg⟩
    · rw [if_neg hs] at hv
      by_cases hk : k = k'
      · subst hk
        rw [if_pos rfl] at hv
        obtain ⟨V, h1, h2⟩ := binI_run (P := P) (w := w) (ρ := ρ) (by simpa using hs) hv t
        exact ⟨V, h1, h2, hg⟩
      · rw [if_neg hk] at hv; cases hv
  · rename_i x y
    simp only [VRel] at hx hy
    subst hx; subst hy
    obtain ⟨V, h1, h2⟩ := binS_run (P := P) (w := w) (ρ := ρ) hv t
    exact ⟨V, h1, h2, fun _ _ => by cases op <;> simp [eqGuard]⟩
  · rename_i n k c
    simp only [VRel] at hx hy
    subst hy
    simp only [Option.map_eq_some_iff] at hv
    obtain ⟨b, h1, rfl⟩ := hv
    obtain ⟨i, h2, h3⟩ := Env.cmpOk op n k c b h1
    rw [h2] at hx
    subst hx
    refine ⟨.bool b, ?_, by simp only [VRel], fun _ _ => by cases op <;> simp [eqGuard]⟩
    cases op <;> simp [cmpI] at h3 <;> simp [binOp, Op.intCmp, h3]
  · rename_i n
    simp only [VRel] at hx hy
    subst hy
    have hs : ∃ b0, Env.empty n = some b0 ∧ ((op = .eql ∧ v = .bool b0) ∨ (op = .neq ∧ v = .bool !b0)) := by
      split at hv
      · rename_i b0 h1
        simp at hv
        exact ⟨b0, h1, .inl ⟨rfl, hv.symm⟩⟩
      · rename_i b0 h1
        simp at hv
        exact ⟨b0, h1, .inr ⟨rfl, hv.symm⟩⟩
      · cases hv
    obtain ⟨b0, h1, h2⟩ := hs
    obtain ⟨l, h3, rfl⟩ := Env.emptyOk n b0 h1
    rw [h3] at hx
    subst hx
    have he : (l == ([] : List UInt8)) = l.isEmpty := by cases l <;> rfl
    rcases h2 with ⟨rfl, rfl⟩ | ⟨rfl, rfl⟩
    · refine ⟨.bool l.isEmpty, ?_, by simp only [VRel], fun _ _ => by simp [eqGuard]⟩
      have h4 : binS .eql l [] = some (.bool l.isEmpty) := by simp only [binS, he]
      obtain ⟨V, h5, h6⟩ := binS_run (P := P) (w := w) (ρ := ρ) h4 t
      simp only [VRel] at h6; subst h6
      exact h5
    · refine ⟨.bool !l.isEmpty, ?_, by simp only [VRel], fun _ _ => by simp [eqGuard]⟩
      have h4 : binS .neq l [] = some (.bool !l.isEmpty) := by simp only [binS, he]
      obtain ⟨V, h5, h6⟩ := binS_run (P := P) (w := w) (ρ := ρ) h4 t
      simp only [VRel] at h6; subst h6
      exact h5
  · rename_i k c n
    simp only [VRel] at hx hy
    subst hx
    simp only [Option.map_eq_some_iff] at hv
    obtain ⟨b, h1, rfl⟩ := hv
    obtain ⟨i, h2, h3⟩ := Env.cmpOk _ n k c b h1
    rw [h2] at hy
    subst hy
    refine ⟨.bool b, ?_, by simp only [VRel], fun _ _ => by cases op <;> simp [eqGuard]⟩
    have e1 : (c == i) = (i == c) := by rw [Bool.eq_iff_iff, beq_iff_eq, beq_iff_eq]; exact eq_comm
    have e2 : (c != i) = (i != c) := by simp only [bne, e1]
    cases op <;> simp only [flipC, cmpI, Option.some.injEq, reduceCtorEq] at h3
    case eql => simp [binOp, Op.intCmp, e1, h3]
    case neq => simp [binOp, Op.intCmp, e2, h3]
    all_goals simpa [binOp, Op.intCmp] using h3
  · cases hv

theorem unA_run {op : UnOp} {x : AVal} {X : Value} (hx : VRel ρ x X) (hv : unA op x = some v) : ∃ V, (Op.unary op X).run P w = .ok V w ∧ VRel ρ v V := by
  unfold unA at hv
  split at hv <;> simp at hv
  all_goals (simp only [VRel] at hx; subst hx; subst hv; exact ⟨_, by simp [Op.unary, Op.intArith, Op.intBits]; rfl, by simp [VRel]⟩)

theorem ok_un {t : TypeId} {op : UnOp} {x : Operand} (ho : o.op = .unOp op t x) (hc : cop? P o = some i) : OpOk P o i := by
  intro call ts v h h' ρ w a he hr hf ht
  simp only [cop?, ho] at hc
  simp at hc
  obtain ⟨y, hy, rfl⟩ := hc
  simp only [IOp.ev] at he
  obtain ⟨hn, rfl⟩ := ofOption_some he
  obtain ⟨V, h1, h2⟩ := unA_run (P := P) (w := w) (copd_rel ht hy) hn
  exact Does.same hr (b := .value V) (by simp [execOp, ho, h1]) h2

theorem ok_fieldAddr {s : TypeId} {x : Operand} {f : Nat} (ho : o.op = .fieldAddr s x f) (hc : cop? P o = some i) : OpOk P o i := by
  intro call ts v h h' ρ w a he hr hf ht
  simp only [cop?, ho] at hc
  split at hc
  · rename_i y fs hy hu
    split at hc
    · rename_i fd hfd
      split at hc
      · rename_i n hn
        simp at hc; subst hc
        simp only [IOp.ev] at he
        obtain ⟨hv, rfl⟩ := ofOption_some he
        have hx := copd_rel ht hy
        unfold faddrA at hv
        split at hv <;> simp at hv
        rename_i k off heq
        rw [heq] at hx
        simp only [VRel] at hx
        obtain ⟨B, q, h1, h2⟩ := hx
        subst hv
        refine Does.same hr (b := .value (.pointer (some ⟨B, off + fd.offset, none⟩))) ?_ (by simp only [NRel, VRel]; exact ⟨B, q, h1, rfl⟩)
        simp [execOp, ho, Instr.fieldAt, run_und hu, hfd, h2, Instr.sureAddr, fieldPlace, sizeT_run hn, add_at]
      · simp at hc
    · simp at hc
  · simp at hc

theorem run_part {t : TypeId} {cs : List AVal} {Cs : List Value} {off : Nat} {g : Option Nat} (hg : aggT P t = some g) (hcs : VRels ρ cs Cs) (hp : partA cs off g = some v) :
    ∃ V, (part t Cs.toArray off).run P w = .ok V w ∧ VRel ρ v V := by
  obtain ⟨n, s1, s2, s3⟩ := aggT_run (w := w) hg
  cases g with
  | some m =>
    obtain rfl := s3 m rfl
    simp only [partA] at hp
    split at hp <;> simp at hp
    subst hp
    refine ⟨.agg ((Cs.drop off).take m).toArray, ?_, by simp only [VRel]; exact ⟨_, hcs.sub off m, rfl⟩⟩
    simp [part, s2, s1, List.take_drop]
  | none =>
    simp only [partA] at hp
    obtain ⟨V, h1, h2⟩ := hcs.get hp
    exact ⟨V, by simp [part, s2, h1], h2⟩

theorem ok_field {s : TypeId} {x : Operand} {f : Nat} (ho : o.op = .field s x f) (hc : cop? P o = some i) : OpOk P o i := by
  intro call ts v h h' ρ w a he hr hf ht
  simp only [cop?, ho] at hc
  split at hc
  · rename_i y fs hy hu
    split at hc
    · rename_i fd hfd
      simp at hc
      obtain ⟨g, hg, rfl⟩ := hc
      simp only [IOp.ev] at he
      have hx := copd_rel ht hy
      generalize y.ev ts = cv at he hx
      cases cv with
      | agg cs =>
        obtain ⟨hv, rfl⟩ := ofOption_some he
        simp only [VRel] at hx
        obtain ⟨Cs, h1, h2⟩ := hx
        obtain ⟨V, h3, h4⟩ := run_part (P := P) (w := w) hg h1 hv
        exact Does.same hr (b := .value V) (by simp [execOp, ho, Instr.field, run_und hu, hfd, h2, asAgg, h3]) h4
      | _ => exact (fail_some he).elim
    · simp at hc
  · simp at hc

theorem ok_extract {x : Operand} {k : Nat} (ho : o.op = .extract x k) (hc : cop? P o = some i) : OpOk P o i := by
  intro call ts v h h' ρ w a he hr hf ht
  simp only [cop?, ho] at hc
  simp at hc
  obtain ⟨y, hy, rfl⟩ := hc
  simp only [IOp.ev] at he
  have hx := copd_rel ht hy
  generalize y.ev ts = cv at he hx
  cases cv with
  | tuple vs =>
    obtain ⟨hv, rfl⟩ := ofOption_some he
    simp only [VRel] at hx
    obtain ⟨Vs, h1, h2⟩ := hx
    obtain ⟨V, h3, h4⟩ := h1.get hv
    exact Does.same hr (b := .value V) (by simp [execOp, ho, Instr.extract, h2, h3]) h4
  | _ => exact (fail_some he).elim

omit [Env] in
theorem arr_map {α β : Type} (f : α → β) (xs : Array α) : xs.map f = (xs.toList.map f).toArray := by
  apply Array.ext'
  simp

theorem ok_makeFunc {fn : Fn} {fs cs : Array Operand} (ho : o.op = .makeFunc fn fs cs) (hc : cop? P o = some i) : OpOk P o i := by
  intro call ts v h h' ρ w a he hr hf ht
  simp only [cop?, ho] at hc
  split at hc <;> simp at hc
  rename_i ys zs hy hz
  subst hc
  simp only [IOp.ev] at he
  obtain ⟨rfl, rfl⟩ := pure_some he
  refine Does.same hr (b := .value (.func fn (fs.map a.eval) (cs.map a.eval))) (by simp [execOp, ho, Instr.makeFunc]) ?_
  simp only [NRel, VRel]
  exact ⟨_, _, copds_rel ht hy, copds_rel ht hz, by rw [arr_map, arr_map]⟩

theorem ok_indexAddr {t : TypeId} {x j : Operand} (ho : o.op = .indexAddr t x j) (hc : cop? P o = some i) : OpOk P o i := by
  intro call ts v h h' ρ w a he hr hf ht
  simp only [cop?, ho] at hc
  split at hc
  · rename_i y z hy hz
    have hx := copd_rel ht hy
    have hj := copd_rel ht hz
    split at hc
    · rename_i e hu
      simp at hc
      obtain ⟨n, hn, rfl⟩ := hc
      simp only [IOp.ev] at he
      obtain ⟨hv, rfl⟩ := ofOption_some he
      generalize y.ev ts = cy at hv hx
      generalize z.ev ts = cz at hv hj
      unfold iaddrSA at hv
      split at hv
      · rename_i k off m c op kk q
        split at hv <;> simp at hv
        rename_i hb
        simp only [VRel] at hj
        have hX : ∃ B q' c', ρ k = some (B, q') ∧ a.eval x = .slice (some ⟨B, off, none⟩) m c' := by
          cases op <;> simp only [VRel] at hx
          · obtain ⟨B, q', h1, h2⟩ := hx; exact ⟨B, q', _, h1, h2⟩
          · obtain ⟨B, q', h1, _, h2⟩ := hx; exact ⟨B, q', _, h1, h2⟩
        obtain ⟨B, q', c', h1, h2⟩ := hX
        subst hv
        refine Does.same hr (b := .value (.pointer (some ⟨B, off + q.toNat * n, none⟩))) ?_ (by simp only [NRel, VRel]; exact ⟨B, q', h1, rfl⟩)
        simp [execOp, ho, Instr.indexAt, run_und hu, h2, hj, asIntOf, hb, sizeT_run hn, add_at]
      · cases hv
    · rename_i kn e hu
      simp at hc
      obtain ⟨n, hn, rfl⟩ := hc
      simp only [IOp.ev] at he
      obtain ⟨hv, rfl⟩ := ofOption_some he
      generalize y.ev ts = cy at hv hx
      generalize z.ev ts = cz at hv hj
      unfold iaddrAA at hv
      split at hv
      · rename_i k off kk q
        split at hv <;> simp at hv
        rename_i hb
        simp only [VRel] at hj hx
        obtain ⟨B, q', h1, h2⟩ := hx
        subst hv
        refine Does.same hr (b := .value (.pointer (some ⟨B, off + q.toNat * n, none⟩))) ?_ (by simp only [NRel, VRel]; exact ⟨B, q', h1, rfl⟩)
        simp [execOp, ho, Instr.indexAt, Instr.sureAddr, run_und hu, h2, hj, asIntOf, hb, sizeT_run hn, add_at]
      · cases hv
    · simp at hc
  · simp at hc

theorem ok_index {t : TypeId} {x j : Operand} (ho : o.op = .index t x j) (hc : cop? P o = some i) : OpOk P o i := by
  intro call ts v h h' ρ w a he hr hf ht
  simp only [cop?, ho] at hc
  split at hc
  · rename_i y z hy hz
    have hx := copd_rel ht hy
    have hj := copd_rel ht hz
    split at hc
    · rename_i hu
      simp at hc; subst hc
      simp only [IOp.ev] at he
      obtain ⟨hv, rfl⟩ := ofOption_some he
      generalize y.ev ts = cy at hv hx
      generalize z.ev ts = cz at hv hj
      unfold idxSA at hv
      split at hv
      · rename_i s kk q
        split at hv <;> simp at hv
        rename_i hb
        obtain ⟨b, h1, rfl⟩ := hv
        simp only [VRel] at hx hj
        refine Does.same hr (b := .value (.int .u8 b.toNat)) ?_ (by simp only [NRel, VRel])
        have h3 : (⟨s.toArray⟩ : ByteArray)[q.toNat]? = some b := by
          obtain ⟨hlt, hb'⟩ := List.getElem?_eq_some_iff.1 h1
          have hlt' : q.toNat < (⟨s.toArray⟩ : ByteArray).size := by simpa [ByteArray.size] using hlt
          rw [getElem?_pos (⟨s.toArray⟩ : ByteArray) q.toNat hlt']
          exact congrArg some hb'
        simp [execOp, ho, Instr.index, run_und hu, hx, hj, asIntOf, hb, h3]
      · cases hv
    · rename_i kn e hu
      split at hc
      · rename_i n g hn hg
        simp at hc; subst hc
        simp only [IOp.ev] at he
        obtain ⟨hv, rfl⟩ := ofOption_some he
        generalize y.ev ts = cy at hv hx
        generalize z.ev ts = cz at hv hj
        unfold idxAA at hv
        split at hv
        · rename_i cs kk q
          split at hv
          · rename_i hb
            simp only [VRel] at hx hj
            obtain ⟨Cs, h1, h2⟩ := hx
            obtain ⟨V, h3, h4⟩ := run_part (P := P) (w := w) hg h1 hv
            exact Does.same hr (b := .value V) (by simp [execOp, ho, Instr.index, run_und hu, h2, hj, asIntOf, hb, sizeT_run hn, h3]) h4
          · cases hv
        · cases hv
      · simp at hc
    · simp at hc
  · simp at hc

end
end Go.Hv
