/- Each instruction does what the model's operation does: slice expressions. -/
import Derived.Test.YtjoemiadbccljaaGreatHvJ
namespace Go.Hv
open Go
variable [Env]

section
variable {P : Program} {o : Oper} {i : IOp} {call : Caller} {ts : List AVal} {v : AVal} {h h' : Heap} {ρ : Ren} {w : World} {a : Act}

theorem bound_map (ht : TRel ρ ts a) {x : Option Operand} {y : Option Opd} {d n : Nat} (hc : copdO x = some y) (hb : boundA ts d y = some n) :
    (x.map a.eval = none ∧ n = d) ∨ ∃ k, x.map a.eval = some (.int k n) := by
  rcases bound_rel ht hc hb with ⟨rfl, _, rfl⟩ | ⟨x', y', k, rfl, _, h⟩
  · exact .inl ⟨rfl, rfl⟩
  · exact .inr ⟨k, by simp [h]⟩

omit [Env] in
theorem copdO_isSome {x : Option Operand} {y : Option Opd} (hc : copdO x = some y) : y.isSome = x.isSome := by
  cases x with
  | none => simp [copdO] at hc; subst hc; rfl
  | some x => simp [copdO] at hc; obtain ⟨y', _, rfl⟩ := hc; rfl

theorem sliceS_run (ht : TRel ρ ts a) {t : TypeId} {x : AVal} {X : Value} {lo hi : Option Operand} {lo' hi' : Option Opd} (hu : P.underlying t = some .string) (hlo : copdO lo = some lo') (hhi : copdO hi = some hi')
    (hv : sliceSA ts x lo' hi' = some v) (hx : VRel ρ x X) : ∃ V, (Instr.sliceAt t X (lo.map a.eval) (hi.map a.eval) none).run P w = .ok V w ∧ VRel ρ v V := by
  unfold sliceSA at hv
  cases x <;> simp only at hv <;> (try cases hv)
  rename_i s
  simp only [VRel] at hx; subst hx
  cases h1 : boundA ts s.length hi' with
  | none => rw [h1] at hv; cases hv
  | some m =>
    cases h2 : boundA ts 0 lo' with
    | none => rw [h1, h2] at hv; cases hv
    | some l =>
      rw [h1, h2] at hv
      simp only at hv
      split at hv <;> simp at hv
      rename_i hb
      subst hv
      have hsz : (⟨s.toArray⟩ : ByteArray).size = s.length := by simp [ByteArray.size]
      have hrun := run_bounds (P := P) (w := w) false (len := s.length) (cap := s.length) (mx := none) (m := s.length) (bound_map ht hlo h2) (bound_map ht hhi h1) (.inl ⟨rfl, rfl⟩) hb.1 hb.2 (Nat.le_refl _) (by simp)
      refine ⟨.string ⟨((s.drop l).take (m - l)).toArray⟩, ?_, by simp only [VRel]⟩
      have hex : (⟨s.toArray⟩ : ByteArray).extract l m = ⟨((s.drop l).take (m - l)).toArray⟩ := by
        apply ByteArray.ext
        rw [ByteArray.data_extract]
        simp
      simp [Instr.sliceAt, run_und hu, Instr.slice, hsz, hrun, hex]

omit [Env] in
theorem add_zero_at (p : Addr) (l sz : Nat) (h : p.spot = none) : p.add (l * sz) = ⟨p.block, p.off + l * sz, none⟩ := by
  cases p with
  | mk b o s => simp at h; subst h; exact add_at b o _

theorem sliceL_run (ht : TRel ρ ts a) {t e : TypeId} {n : Nat} {x : AVal} {X : Value} {lo hi mx : Option Operand} {lo' hi' mx' : Option Opd} (hu : P.underlying t = some (.slice e)) (hn : sizeT P e = some n) (hlo : copdO lo = some lo') (hhi : copdO hi = some hi') (hmx : copdO mx = some mx')
    (hv : sliceLA ts n x lo' hi' mx' = some v) (hx : VRel ρ x X) : ∃ V, (Instr.sliceAt t X (lo.map a.eval) (hi.map a.eval) (mx.map a.eval)).run P w = .ok V w ∧ VRel ρ v V := by
  have i2 := copdO_isSome hhi
  have i3 := copdO_isSome hmx
  unfold sliceLA at hv
  cases x with
  | slice p len cap op =>
    cases op with
    | false =>
      simp only at hv
      cases h0 : boundA ts cap mx' with
      | none => rw [h0] at hv; cases hv
      | some m =>
        cases h1 : boundA ts len hi' with
        | none => rw [h0, h1] at hv; cases hv
        | some hh =>
          cases h2 : boundA ts 0 lo' with
          | none => rw [h0, h1, h2] at hv; cases hv
          | some l =>
            rw [h0, h1, h2] at hv
            simp only at hv
            split at hv <;> simp at hv
            rename_i hb
            subst hv
            obtain ⟨b1, b2, b3, b4⟩ := hb
            have hrun := run_bounds (P := P) (w := w) true (bound_map ht hlo h2) (bound_map ht hhi h1) (bound_map ht hmx h0) b1 b2 b3 (by simpa [i2, i3] using b4)
            rcases p with _ | ⟨k, off⟩
            · simp only [VRel] at hx; obtain ⟨_, rfl⟩ := hx
              refine ⟨.slice none (hh - l) (m - l), ?_, ?_⟩
              · simp [Instr.sliceAt, run_und hu, Instr.slice, hrun, sizeT_run hn]
              · by_cases hml : m = l <;> simp [hml, VRel]
            · simp only [VRel] at hx; obtain ⟨B, q, r1, rfl⟩ := hx
              refine ⟨.slice (some ⟨B, if m = l then off else off + l * n, none⟩) (hh - l) (m - l), ?_, ?_⟩
              · by_cases hml : m = l <;> simp [Instr.sliceAt, run_und hu, Instr.slice, hrun, sizeT_run hn, hml, add_at]
              · by_cases hml : m = l <;> simp [hml, VRel, r1]
    | true =>
      rcases p with _ | ⟨k, off⟩
      · cases hv
      · simp only [VRel] at hx
        obtain ⟨B, q, r1, r2, rfl⟩ := hx
        cases hmm : mx' with
        | none =>
          rw [hmm] at hv hmx i3
          have hmn : mx = none := by cases mx <;> simp at i3; rfl
          subst hmn
          simp only at hv
          cases h1 : boundA ts len hi' with
          | none => rw [h1] at hv; cases hv
          | some hh =>
            cases h2 : boundA ts 0 lo' with
            | none => rw [h1, h2] at hv; cases hv
            | some l =>
              rw [h1, h2] at hv
              simp only at hv
              split at hv
              case isFalse => cases hv
              rename_i hb
              have hrun := run_bounds (P := P) (w := w) true (len := len) (cap := q - cap) (mx := none) (m := q - cap) (bound_map ht hlo h2) (bound_map ht hhi h1) (.inl ⟨rfl, rfl⟩) hb.1 (by omega) (Nat.le_refl _) (by simp)
              split at hv
              · rename_i hl
                simp at hv; subst hv
                refine ⟨.slice (some ⟨B, off + l * n, none⟩) (hh - l) (q - cap - l), ?_, ?_⟩
                · by_cases hml : q - cap = l
                  · have hl0 : l = 0 := by omega
                    subst hl0
                    rw [hml] at hrun ⊢
                    simp [Instr.sliceAt, run_und hu, Instr.slice, hrun, sizeT_run hn]
                  · simp [Instr.sliceAt, run_und hu, Instr.slice, hrun, sizeT_run hn, hml, add_at]
                · simp only [VRel]
                  exact ⟨B, q, r1, by omega, by rw [Nat.sub_sub]⟩
              · rename_i hl
                simp at hv; subst hv
                have hhl : hh - l = 0 := by omega
                refine ⟨.slice (if q - cap = l then some ⟨B, off, none⟩ else some ⟨B, off + l * n, none⟩) 0 (q - cap - l), ?_, ?_⟩
                · by_cases hml : q - cap = l
                  · rw [hml] at hrun ⊢
                    simp [Instr.sliceAt, run_und hu, Instr.slice, hrun, sizeT_run hn]
                    exact hhl
                  · simp [Instr.sliceAt, run_und hu, Instr.slice, hrun, sizeT_run hn, hml, add_at]
                    exact hhl
                · simp only [VRel]
                  by_cases hml : q - cap = l <;> simp [hml]
        | some mo =>
          rw [hmm] at hv hmx i3
          simp only at hv
          cases h0 : boundA ts 0 (some mo) with
          | none => rw [h0] at hv; cases hv
          | some m =>
            cases hhi' : hi' with
            | none => rw [h0, hhi'] at hv; cases hv
            | some ho =>
              rw [hhi'] at hv hhi i2
              cases h1 : boundA ts len (some ho) with
              | none => rw [h0, h1] at hv; cases hv
              | some hh =>
                cases h2 : boundA ts 0 lo' with
                | none => rw [h0, h1, h2] at hv; cases hv
                | some l =>
                  rw [h0, h1, h2] at hv
                  simp only at hv
                  split at hv <;> simp at hv
                  rename_i hb
                  subst hv
                  have hm0 : (mx.map a.eval = none ∧ m = q - cap) ∨ ∃ k, mx.map a.eval = some (.int k m) := by
                    rcases bound_map ht hmx h0 with ⟨e1, _⟩ | e
                    · cases mx <;> simp at i3 e1
                    · exact .inr e
                  have hrun := run_bounds (P := P) (w := w) true (len := len) (cap := q - cap) (bound_map ht hlo h2) (bound_map ht hhi h1) hm0 hb.1 hb.2.1 (by omega) (by cases hi <;> simp at i2 ⊢)
                  refine ⟨.slice (some ⟨B, if m = l then off else off + l * n, none⟩) (hh - l) (m - l), ?_, ?_⟩
                  · by_cases hml : m = l <;> simp [Instr.sliceAt, run_und hu, Instr.slice, hrun, sizeT_run hn, hml, add_at]
                  · by_cases hml : m = l <;> simp [hml, VRel, r1]
  | eslice =>
    cases hmm : mx' with
    | some mo => rw [hmm] at hv; cases hv
    | none =>
      rw [hmm] at hv hmx i3
      have hmn : mx = none := by cases mx <;> simp at i3; rfl
      subst hmn
      simp only at hv
      split at hv <;> simp at hv
      rename_i h1 h2
      subst hv
      simp only [VRel] at hx
      obtain ⟨b, c, rfl⟩ := hx
      have hrun := run_bounds (P := P) (w := w) true (len := 0) (cap := c) (mx := none) (m := c) (bound_map ht hlo h2) (bound_map ht hhi h1) (.inl ⟨rfl, rfl⟩) (Nat.le_refl 0) (Nat.zero_le _) (Nat.le_refl _) (by simp)
      refine ⟨.slice (some b) 0 c, ?_, by simp only [VRel]; exact ⟨b, c, rfl⟩⟩
      by_cases hml : c = 0
      · subst hml; simp [Instr.sliceAt, run_und hu, Instr.slice, hrun, sizeT_run hn]
      · simp [Instr.sliceAt, run_und hu, Instr.slice, hrun, sizeT_run hn, hml, Addr.add]
  | _ => cases hv

theorem sliceA_run (ht : TRel ρ ts a) {t e : TypeId} {n kn : Nat} {x : AVal} {X : Value} {lo hi mx : Option Operand} {lo' hi' mx' : Option Opd} (hu : P.underlying t = some (.array kn e)) (hn : sizeT P e = some n) (hlo : copdO lo = some lo') (hhi : copdO hi = some hi') (hmx : copdO mx = some mx')
    (hv : sliceAA ts kn n x lo' hi' mx' = some v) (hx : VRel ρ x X) : ∃ V, (Instr.sliceAt t X (lo.map a.eval) (hi.map a.eval) (mx.map a.eval)).run P w = .ok V w ∧ VRel ρ v V := by
  have i2 := copdO_isSome hhi
  have i3 := copdO_isSome hmx
  unfold sliceAA at hv
  cases x with
  | ptr p =>
    rcases p with _ | ⟨k, off⟩
    · cases hv
    · simp only at hv
      cases h0 : boundA ts kn mx' with
      | none => rw [h0] at hv; cases hv
      | some m =>
        cases h1 : boundA ts kn hi' with
        | none => rw [h0, h1] at hv; cases hv
        | some hh =>
          cases h2 : boundA ts 0 lo' with
          | none => rw [h0, h1, h2] at hv; cases hv
          | some l =>
            rw [h0, h1, h2] at hv
            simp only at hv
            split at hv <;> simp at hv
            rename_i hb
            subst hv
            obtain ⟨b1, b2, b3, b4⟩ := hb
            have hrun := run_bounds (P := P) (w := w) false (bound_map ht hlo h2) (bound_map ht hhi h1) (bound_map ht hmx h0) b1 b2 b3 (by simpa [i2, i3] using b4)
            simp only [VRel] at hx; obtain ⟨B, q, r1, rfl⟩ := hx
            refine ⟨.slice (some ⟨B, if m = l then off else off + l * n, none⟩) (hh - l) (m - l), ?_, ?_⟩
            · by_cases hml : m = l <;> simp [Instr.sliceAt, run_und hu, Instr.sureAddr, hrun, sizeT_run hn, hml, add_at]
            · by_cases hml : m = l <;> simp [hml, VRel, r1]
  | _ => cases hv

theorem ok_slice {t : TypeId} {x : Operand} {lo hi mx : Option Operand} (ho : o.op = .slice t x lo hi mx) (hc : cop? P o = some i) : OpOk P o i := by
  intro call ts v h h' ρ w a he hr hf ht
  simp only [cop?, ho] at hc
  split at hc
  case h_2 => cases hc
  rename_i y lo' hi' mx' hy hlo hhi hmx
  have hx := copd_rel ht hy
  split at hc
  · rename_i hu
    split at hc
    · cases hc
    · rename_i hm
      simp at hc; subst hc
      have hmn : mx = none := by
        have := copdO_isSome hmx
        cases mx <;> simp at this hm <;> first | rfl | (rw [hm] at this; simp at this)
      subst hmn
      simp only [IOp.ev] at he
      obtain ⟨hv, rfl⟩ := ofOption_some he
      obtain ⟨V, h1, h2⟩ := sliceS_run (P := P) (w := w) ht hu hlo hhi hv hx
      exact Does.same hr (b := .value V) (by simp [execOp, ho, h1]) h2
  · rename_i e hu
    simp at hc
    obtain ⟨n, hn, rfl⟩ := hc
    simp only [IOp.ev] at he
    obtain ⟨hv, rfl⟩ := ofOption_some he
    obtain ⟨V, h1, h2⟩ := sliceL_run (P := P) (w := w) ht hu hn hlo hhi hmx hv hx
    exact Does.same hr (b := .value V) (by simp [execOp, ho, h1]) h2
  · rename_i kn e hu
    simp at hc
    obtain ⟨n, hn, rfl⟩ := hc
    simp only [IOp.ev] at he
    obtain ⟨hv, rfl⟩ := ofOption_some he
    obtain ⟨V, h1, h2⟩ := sliceA_run (P := P) (w := w) ht hu hn hlo hhi hmx hv hx
    exact Does.same hr (b := .value V) (by simp [execOp, ho, h1]) h2
  · cases hc

end
end Go.Hv
