/- Each instruction does what the model's operation does: maps, the built-in functions. -/
import Derived.Test.YtjoemiadbccljaaGreatHvN
namespace Go.Hv
open Go
variable [Env]

section
variable {P : Program} {o : Oper} {i : IOp} {call : Caller} {ts : List AVal} {v : AVal} {h h' : Heap} {ρ : Ren} {w : World} {a : Act}

/-- A map, as it lies in the world. -/
theorem HRel.mapAt {g : Nat → Option AObj} (hr : HRel ρ g w) {k : Nat} {es : List (AVal × AVal)} {bs : List Nat} {clk : Nat} (hk : g k = some (.map es bs clk)) :
    ∃ B q Es, ρ k = some (B, q) ∧ w.heap[B]? = some (.map Es.toArray clk) ∧ ERels ρ es Es ∧ (Es.map (·.born)).Nodup ∧ (∀ E ∈ Es, E.born < clk) ∧ Es.map (·.born) = bs := by
  obtain ⟨B, q, X, h1, h2, Es, h3, h6, h4, h5, rfl⟩ := hr.obj k _ hk
  exact ⟨B, q, Es, h1, h2, h3, h4, h5, h6⟩

omit [Env] in
theorem run_getObj {B : Nat} {Es : Array MapEntry} {clk : Nat} (hB : w.heap[B]? = some (.map Es clk)) : (getObj B).run P w = .ok (.map Es clk) w := by
  simp [getObj, Sem.run, hB]

omit [Env] in
theorem run_setObj {B : Nat} {Es : Array MapEntry} {clk : Nat} (hB : w.heap[B]? = some (.map Es clk)) (ob : Obj) : (setObj B ob).run P w = .ok () (putBlock w B ob) := by
  simp [setObj, Sem.run, hB, putBlock]

theorem entries_rel {m : AVal} {M' : Value} {es : List (AVal × AVal)} (he : entriesA m h = some (es, h')) (hr : HRel ρ h.get w) (hm : VRel ρ m M') :
    h'.next = h.next ∧ h'.get = h.get ∧ ((es = [] ∧ M' = .map none) ∨ ∃ B q Es clk, M' = .map (some B) ∧ w.heap[B]? = some (.map Es.toArray clk) ∧ ERels ρ es Es ∧ (∃ k bs, m = .map (some k) ∧ ρ k = some (B, q) ∧ h.get k = some (.map es bs clk))) := by
  unfold entriesA at he
  cases m with
  | map r =>
    cases r with
    | none =>
      obtain ⟨rfl, rfl⟩ := pure_some he
      simp only [VRel] at hm
      exact ⟨rfl, rfl, .inl ⟨rfl, hm⟩⟩
    | some k =>
      obtain ⟨ob, h1, hl, he⟩ := bind_some he
      obtain ⟨l1, l2, l3⟩ := look_some hl
      cases ob with
      | cells => exact (fail_some he).elim
      | iter => exact (fail_some he).elim
      | map es' bs clk =>
        obtain ⟨rfl, rfl⟩ := pure_some he
        obtain ⟨B, q, Es, r1, r2, r3, _, _⟩ := hr.mapAt l1
        simp only [VRel] at hm
        obtain ⟨B', q', r4, rfl⟩ := hm
        rw [r1] at r4; cases r4
        exact ⟨l2, l3, .inr ⟨B, q, Es, clk, rfl, r2, r3, k, bs, rfl, r1, l1⟩⟩
  | _ => exact (fail_some he).elim

theorem ok_lookup {t : TypeId} {m x : Operand} {ok : Bool} (ho : o.op = .lookup t m x ok) (hc : cop? P o = some i) : OpOk P o i := by
  intro call ts v h h' ρ w a he hr hf ht
  simp only [cop?, ho] at hc
  split at hc
  case h_2 => cases hc
  rename_i m' x' kt e hm hx hu
  split at hc
  case h_2 => cases hc
  rename_i k z hk hz
  simp at hc; subst hc
  have hM := copd_rel ht hm
  have hX := copd_rel ht hx
  simp only [IOp.ev, lookupA] at he
  obtain ⟨es, h1, he1, he⟩ := bind_some he
  obtain ⟨e1, e2, e3⟩ := entries_rel he1 hr hM
  by_cases hko : keyOk k (x'.ev ts) = false
  · rw [if_pos hko] at he; exact (fail_some he).elim
  rw [if_neg hko] at he
  have hko' : keyOk k (x'.ev ts) = true := by simpa using hko
  obtain ⟨r, h2, he2, he⟩ := bind_some he
  have hr1 : HRel ρ h1.get w := by rw [e2]; exact hr
  obtain ⟨Z, hZ, hZr⟩ := zeroVT_run (P := P) (w := w) (ρ := ρ) hz
  have hEs : ∃ Es : List MapEntry, ERels ρ es Es ∧ ((Es = [] ∧ a.eval m = .map none) ∨ ∃ B clk, a.eval m = .map (some B) ∧ w.heap[B]? = some (.map Es.toArray clk)) := by
    rcases e3 with ⟨rfl, hMn⟩ | ⟨B, q, Es, clk, hMn, q1, q2, _⟩
    · exact ⟨[], rfl, .inl ⟨rfl, hMn⟩⟩
    · exact ⟨Es, q2, .inr ⟨B, clk, hMn, q1⟩⟩
  obtain ⟨Es, hE, hform⟩ := hEs
  obtain ⟨s1, s2, R, s3, s4⟩ := findKey_run (P := P) hk hX he2 hr1 hE
  have hck : ∀ b, (Instr.checkKey b 10000 kt (a.eval x)).run P w = .ok () w := fun b => checkKey_run b hk hko' hX
  have hlook : ∀ (V : Value) (b : Bool), (R = none → V = Z ∧ b = false) → (∀ p, R = some p → V = p.2 ∧ b = true) →
      (Instr.lookup t (a.eval m) (a.eval x) ok).run P w = .ok (if ok then .tuple #[V, .bool b] else V) w := by
    intro V b hn hs
    unfold Instr.lookup
    simp only [Sem.run_bind, run_und hu, Result.andThen_ok]
    rcases hform with ⟨rfl, hMn⟩ | ⟨B, clk, hMn, q1⟩
    · rw [hMn]
      simp only [Sem.run_bind, Sem.run_pure, Result.andThen_ok, hck, s4]
      cases R with
      | none => obtain ⟨rfl, rfl⟩ := hn rfl; simp [hZ]
      | some p => obtain ⟨rfl, rfl⟩ := hs p rfl; simp
    · rw [hMn]
      simp only [Sem.run_bind, run_getObj q1, Sem.run_pure, Result.andThen_ok, hck, s4]
      cases R with
      | none => obtain ⟨rfl, rfl⟩ := hn rfl; simp [hZ]
      | some p => obtain ⟨rfl, rfl⟩ := hs p rfl; simp
  cases r with
  | none =>
    cases R with
    | some p => simp [FRel] at s3
    | none =>
      obtain ⟨rfl, rfl⟩ := pure_some he
      refine Does.still hr (by omega) (by rw [s2, e2]) (b := .value (if ok then .tuple #[Z, .bool false] else Z)) ?_ ?_
      · simp [execOp, ho, hlook Z false (fun _ => ⟨rfl, rfl⟩) (fun p hp => by cases hp)]
      · cases ok
        · exact hZr
        · simp only [if_true, NRel, VRel, VRels]
          exact ⟨_, ⟨_, _, hZr, ⟨_, _, rfl, rfl, rfl⟩, rfl⟩, rfl⟩
  | some p =>
    obtain ⟨j, u⟩ := p
    cases R with
    | none => simp [FRel] at s3
    | some q =>
      obtain ⟨j', U⟩ := q
      obtain ⟨_, hU⟩ := s3
      obtain ⟨rfl, rfl⟩ := pure_some he
      refine Does.still hr (by omega) (by rw [s2, e2]) (b := .value (if ok then .tuple #[U, .bool true] else U)) ?_ ?_
      · simp [execOp, ho, hlook U true (fun hp => by cases hp) (fun p hp => by cases hp; exact ⟨rfl, rfl⟩)]
      · cases ok
        · exact hU
        · simp only [if_true, NRel, VRel, VRels]
          exact ⟨_, ⟨_, _, hU, ⟨_, _, rfl, rfl, rfl⟩, rfl⟩, rfl⟩

theorem ERels.set {ρ : Ren} : ∀ {es : List (AVal × AVal)} {Es : List MapEntry} (i : Nat) {x v : AVal} {E' : MapEntry}, ERels ρ es Es → VRel ρ x E'.key → VRel ρ v E'.val → ERels ρ (es.set i (x, v)) (Es.set i E')
  | [], _, _, _, _, _, h, _, _ => by simp only [ERels] at h; subst h; simp [ERels]
  | (_, _) :: _, _, 0, _, _, E', ⟨E, Rs, _, _, h3, rfl⟩, k1, k2 => ⟨E', Rs, k1, k2, h3, rfl⟩
  | (_, _) :: _, _, i + 1, _, _, E', ⟨E, Rs, h1, h2, h3, rfl⟩, k1, k2 => ⟨E, Rs.set i E', h1, h2, ERels.set i h3 k1 k2, by simp⟩

theorem ERels.snoc {ρ : Ren} : ∀ {es : List (AVal × AVal)} {Es : List MapEntry} {x v : AVal} {E' : MapEntry}, ERels ρ es Es → VRel ρ x E'.key → VRel ρ v E'.val → ERels ρ (es ++ [(x, v)]) (Es ++ [E'])
  | [], _, _, _, E', h, k1, k2 => by simp only [ERels] at h; subst h; exact ⟨E', [], k1, k2, rfl, rfl⟩
  | (_, _) :: _, _, _, _, E', ⟨E, Rs, h1, h2, h3, rfl⟩, k1, k2 => ⟨E, Rs ++ [E'], h1, h2, ERels.snoc h3 k1 k2, by simp⟩

theorem ERels.erase {ρ : Ren} : ∀ {es : List (AVal × AVal)} {Es : List MapEntry} (i : Nat), ERels ρ es Es → ERels ρ (es.eraseIdx i) (Es.eraseIdx i)
  | [], _, _, h => by simp only [ERels] at h; subst h; simp [ERels]
  | (_, _) :: _, _, 0, ⟨E, Rs, _, _, h3, rfl⟩ => by simpa using h3
  | (_, _) :: _, _, i + 1, ⟨E, Rs, h1, h2, h3, rfl⟩ => ⟨E, Rs.eraseIdx i, h1, h2, ERels.erase i h3, by simp⟩

theorem ERels.get {ρ : Ren} : ∀ {es : List (AVal × AVal)} {Es : List MapEntry} {i : Nat} {x v : AVal}, ERels ρ es Es → es[i]? = some (x, v) → ∃ E, Es[i]? = some E ∧ VRel ρ x E.key ∧ VRel ρ v E.val
  | [], _, _, _, _, _, h => by simp at h
  | (_, _) :: _, _, 0, _, _, ⟨E, Rs, h1, h2, _, rfl⟩, h => by simp at h; obtain ⟨rfl, rfl⟩ := h; exact ⟨E, by simp, h1, h2⟩
  | (_, _) :: _, _, i + 1, _, _, ⟨E, Rs, _, _, h3, rfl⟩, h => by
    obtain ⟨E', k1, k2⟩ := ERels.get h3 (by simpa using h)
    exact ⟨E', by simpa using k1, k2⟩

omit [Env] in
theorem sameBits_refl (n : Nat) (V : Value) : Instr.sameBits n V V = true ∨ True := .inr trivial

omit [Env] in
theorem run_keyStays (V : Value) : (Instr.keyThatStays V V).run P w = .ok V w ∨ (Instr.keyThatStays V V).run P w = .ok V w.drew := by
  unfold Instr.keyThatStays
  split
  · exact .inl rfl
  · right
    simp [Question.forced, Question.cut]

theorem mapup_run {t kt e : TypeId} {k : EqK} {m x y : AVal} {M' X Y : Value} {u : Unit} (hu : P.underlying t = some (.map kt e)) (hk : eqKT P 5 kt = some k) (he : mapupA k m x y h = some (u, h')) (hr : HRel ρ h.get w)
    (hm : VRel ρ m M') (hx : VRel ρ x X) (hy : VRel ρ y Y) :
    h'.next = h.next ∧ ∃ w', (Instr.mapUpdate t M' X Y).run P w = .ok () w' ∧ ∀ n, Goes n n ρ h.get w ρ h'.get w' := by
  unfold mapupA at he
  cases m with
  | map r =>
    cases r with
    | none => exact (fail_some he).elim
    | some k0 =>
      obtain ⟨ob, h1, hl, he⟩ := bind_some he
      obtain ⟨l1, l2, l3⟩ := look_some hl
      cases ob with
      | cells => exact (fail_some he).elim
      | iter => exact (fail_some he).elim
      | map es bs clk =>
        simp only at he
        by_cases hko : keyOk k x = false
        · rw [if_pos hko] at he; exact (fail_some he).elim
        rw [if_neg hko] at he
        have hko' : keyOk k x = true := by simpa using hko
        obtain ⟨r, h2, he2, he⟩ := bind_some he
        obtain ⟨B, q, Es, r1, r2, r3, r4, r5, rbs⟩ := hr.mapAt l1
        simp only [VRel] at hm
        obtain ⟨B', q', r6, rfl⟩ := hm
        rw [r1] at r6; cases r6
        have hr1 : HRel ρ h1.get w := by rw [l3]; exact hr
        obtain ⟨s1, s2, R, s3, s4⟩ := findKey_run (P := P) hk hx he2 hr1 r3
        have hck := checkKey_run (P := P) (w := w) false hk hko' hx
        cases r with
        | none =>
          cases R with
          | some p => simp [FRel] at s3
          | none =>
            obtain ⟨w1, w2⟩ := write_some he
            refine ⟨by omega, putBlock w B (.map (Es ++ [({ key := X, val := Y, born := clk } : MapEntry)]).toArray (clk + 1)), ?_, fun n => ?_⟩
            · simp [Instr.mapUpdate, run_und hu, run_getObj r2, hck, s4, run_setObj r2]
            · rw [w2, s2, l3]
              refine goes_write hr n l1 r1 ⟨_, r3.snoc (E' := { key := X, val := Y, born := clk }) hx hy, by rw [List.map_append, rbs]; rfl, ?_, ?_, rfl⟩
              · rw [List.map_append, List.nodup_append]
                refine ⟨r4, by simp, ?_⟩
                intro b hb c hc
                simp at hb hc
                obtain ⟨E, hE, rfl⟩ := hb
                have := r5 E hE
                omega
              · intro E hE
                rcases List.mem_append.1 hE with hE | hE
                · have := r5 E hE; omega
                · simp at hE; subst hE; simp
        | some p =>
          obtain ⟨j, u0⟩ := p
          cases R with
          | none => simp [FRel] at s3
          | some pq =>
            obtain ⟨j', U⟩ := pq
            obtain ⟨rfl, hU⟩ := s3
            simp only at he
            by_cases hka : keyAt k es j = true
            case neg => rw [if_neg hka] at he; exact (fail_some he).elim
            rw [if_pos hka] at he
            obtain ⟨w1, w2⟩ := write_some he
            obtain ⟨_, y0, hh, hh', a1, a2⟩ := findA_at es 0 h1 h2 j u0 he2
            simp only [Nat.sub_zero] at a1
            obtain ⟨E, e1, e2, e3⟩ := r3.get a1
            have hky : keyOk k y0 = true := by simpa [keyAt, a1] using hka
            have hXE : X = E.key := key_eq hko' hky a2 hx e2
            have hj : j < Es.length := (List.getElem?_eq_some_iff.1 e1).1
            have hEj : Es[j] = E := (List.getElem?_eq_some_iff.1 e1).2
            have hmod : (Es.toArray.modify j fun e => { e with key := X, val := Y }) = (Es.set j { E with key := X, val := Y }).toArray := by
              apply Array.ext'
              rw [Array.toList_modify]
              apply List.ext_getElem?
              intro l
              simp only [List.getElem?_modify, List.getElem?_set]
              by_cases hl : j = l
              · subst hl; simp [hj, hEj]
              · simp [hl]
            have hborn : ((Es.set j { E with key := X, val := Y }).map (·.born)) = Es.map (·.born) := by
              apply List.ext_getElem?
              intro l
              simp only [List.getElem?_map, List.getElem?_set]
              by_cases hl : j = l
              · subst hl; simp [hj, hEj]
              · simp [hl]
            have hgo : ∀ (wd : World), HRel ρ h.get wd → wd.heap = w.heap → ∀ n, Goes n n ρ h.get wd ρ h'.get (putBlock wd B (.map (Es.set j { E with key := X, val := Y }).toArray clk)) := by
              intro wd hwd hheap n
              rw [w2, s2, l3]
              refine goes_write hwd n l1 r1 ⟨_, r3.set j (E' := { E with key := X, val := Y }) hx hy, by rw [hborn]; exact rbs, by rw [hborn]; exact r4, ?_, rfl⟩
              intro E' hE'
              have : E'.born ∈ Es.map (·.born) := by rw [← hborn]; exact List.mem_map.2 ⟨E', hE', rfl⟩
              obtain ⟨E2, hE2, h3⟩ := List.mem_map.1 this
              rw [← h3]; exact r5 E2 hE2
            have hold : ((Es.toArray[j]?).map (·.key)).getD X = X := by simp [e1, hXE]
            rcases run_keyStays (P := P) (w := w) X with hks | hks
            · refine ⟨by omega, putBlock w B (.map (Es.set j { E with key := X, val := Y }).toArray clk), ?_, hgo w hr rfl⟩
              simp only [Instr.mapUpdate, Sem.run_bind, run_und hu, Result.andThen_ok, run_getObj r2, hck, s4, hold, hks, run_setObj r2, hmod]
            · have hrd : HRel ρ h.get w.drew := hr.drew
              refine ⟨by omega, putBlock w.drew B (.map (Es.set j { E with key := X, val := Y }).toArray clk), ?_, fun n => (goes_drew hr n).trans (Nat.le_refl _) (Nat.le_refl _) (hgo w.drew hrd rfl n)⟩
              have r2' : w.drew.heap[B]? = some (.map Es.toArray clk) := r2
              simp only [Instr.mapUpdate, Sem.run_bind, run_und hu, Result.andThen_ok, run_getObj r2, hck, s4, hold, hks, run_setObj r2', hmod]
  | _ => exact (fail_some he).elim

theorem ok_mapUpdate {t : TypeId} {m x y : Operand} (ho : o.op = .mapUpdate t m x y ∨ o.op = .insert t m x y) (hc : cop? P o = some i) : OpOk P o i := by
  intro call ts v h h' ρ w a he hr hf ht
  have hc' : cmapup P t m x y = some i := by rcases ho with e | e <;> simpa only [cop?, e] using hc
  unfold cmapup at hc'
  split at hc'
  case h_2 => cases hc'
  rename_i m' x' y' kt e hm hx hy hu
  simp at hc'
  obtain ⟨k, hk, rfl⟩ := hc'
  simp only [IOp.ev] at he
  obtain ⟨u, h1, he1, he⟩ := bind_some he
  obtain ⟨rfl, rfl⟩ := pure_some he
  obtain ⟨s1, w', s2, s3⟩ := mapup_run (P := P) hu hk he1 hr (copd_rel ht hm) (copd_rel ht hx) (copd_rel ht hy)
  refine ⟨.skip, ρ, w', ?_, by omega, by rw [s1]; exact s3 _, rfl⟩
  rcases ho with e | e <;> simp [execOp, e, s2]

end
end Go.Hv
