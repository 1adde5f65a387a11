/- Each instruction does what the model's operation does: append, copy. -/
import Derived.Test.YtjoemiadbccljaaGreatHvQ
namespace Go.Hv
open Go
variable [Env]

section
variable {P : Program} {o : Oper} {i : IOp} {call : Caller} {ts : List AVal} {v : AVal} {h h' : Heap} {ρ : Ren} {w : World} {a : Act}

omit [Env] in
/-- Append within what there is room for. -/
theorem append_in {t t2 ty e : TypeId} {ti : TypeInfo} {d : TypeDesc} (hu : P.underlying t = some (.slice e)) (hi : P.info? e = some ti) (hd : P.underlying t2 = some d) (hd' : d = .string ∨ ∃ e', d = .slice e')
    {base : Option Addr} {n0 cap n : Nat} {X : Value} {News : List Value} (hlen : (Builtin.lenOf X).run P w = .ok n w) (hnews : (Builtin.firstCells ti.size n X).run P w = .ok News.toArray w) (hle : n0 + n ≤ cap) :
    (Builtin.append_ #[t, t2] ty #[.slice base n0 cap, X]).run P w = ((match base with | some a => storeCells (a.add (n0 * ti.size)) News | none => pure () : Sem Unit).run P w).andThen fun _ w' => .ok (.slice base (n0 + n) cap) w' := by
  unfold Builtin.append_
  rcases hd' with rfl | ⟨e', rfl⟩ <;> cases base <;> simp [run_und hu, run_und hd, sizeOf, run_info hi, hlen, hle, hnews]

omit [Env] in
/-- Append beyond it. -/
theorem append_out {t t2 ty e : TypeId} {ti : TypeInfo} {d : TypeDesc} (hu : P.underlying t = some (.slice e)) (hi : P.info? e = some ti) (hd : P.underlying t2 = some d) (hd' : d = .string ∨ ∃ e', d = .slice e')
    {base : Option Addr} {n0 cap n : Nat} {X : Value} {Old News : List Value} (hlen : (Builtin.lenOf X).run P w = .ok n w) (hnews : (Builtin.firstCells ti.size n X).run P w.drew = .ok News.toArray w.drew)
    (hold : (Builtin.firstCells ti.size n0 (.slice base n0 cap)).run P w.drew = .ok Old.toArray w.drew) (hle : ¬ n0 + n ≤ cap) (hroom : roomA ti.bytes (n0 + n) = true) :
    ∃ newCap, n0 + n ≤ newCap ∧ (Builtin.append_ #[t, t2] ty #[.slice base n0 cap, X]).run P w = (do
      let rest := Builtin.zeroCells (← zeroValue e).cells (newCap - (n0 + n))
      pure (.slice (some (← newRow e ((Old ++ News).toArray ++ rest))) (n0 + n) newCap) : Sem Value).run P w.drew := by
  obtain ⟨h1, h2, h3⟩ := roomA_ok hroom (c := cap) (by omega)
  refine ⟨Question.cut (.appendCap (n0 + n) cap e) (w.tape w.drawn (.appendCap (n0 + n) cap e)), by simp [Question.cut], ?_⟩
  unfold Builtin.append_
  have hforced : (Question.appendCap (n0 + n) cap e).forced = false := rfl
  have g0 : (#[t, t2] : Array TypeId)[0]? = some t := rfl
  have g1 : (#[t, t2] : Array TypeId)[1]? = some t2 := rfl
  have g2 : (#[Value.slice base n0 cap, X] : Array Value)[0]? = some (Value.slice base n0 cap) := rfl
  have g3 : (#[Value.slice base n0 cap, X] : Array Value)[1]? = some X := rfl
  have hcat : Old.toArray ++ News.toArray = (Old ++ News).toArray := by simp
  rcases hd' with rfl | ⟨e', rfl⟩
  all_goals
    simp only [g0, g1, g2, g3, Sem.run_bind, run_und hu, run_und hd, sizeOf, run_info hi, Result.andThen_ok, Sem.run_pure, Bool.false_eq_true, if_false, hlen]
    rw [if_neg hle]
    simp only [Sem.run_bind, run_info hi, Result.andThen_ok]
    rw [if_neg (fun hh => h2 hh.1)]
    simp only [Sem.run_bind, run_info hi, Result.andThen_ok]
    rw [if_neg h1]
    simp only [Sem.run_bind, run_choose, hforced, Bool.false_eq_true, if_false, World.drew_eq, Result.andThen_ok, run_askRoom, run_info hi, hold]
    rw [if_pos (by rfl)]
    simp only [hnews, Result.andThen_ok, hcat, Sem.run_pure]

/-- Append. -/
theorem append_rel {t t2 ty e : TypeId} {ti : TypeInfo} {d : TypeDesc} {zs : List AVal} {s x : AVal} {S X : Value} (hu : P.underlying t = some (.slice e)) (hi : P.info? e = some ti) (hd : P.underlying t2 = some d) (hd' : d = .string ∨ ∃ e', d = .slice e')
    (hz : zeroT P e = some zs) (hzl : zs.length = ti.size)
    (he : appendA e ti.size ti.bytes s x h = some (v, h')) (hr : HRel ρ h.get w) (hf : Free ρ h.next h'.next) (hs : VRel ρ s S) (hx : VRel ρ x X) :
    Does P h h' ρ w (Builtin.append_ #[t, t2] ty #[S, X]) (fun ρ' V => VRel ρ' v V) := by
  unfold appendA at he
  obtain ⟨⟨news, n⟩, h1, he1, he2⟩ := bind_some he
  clear he
  have he := he2
  clear he2
  obtain ⟨n1, n2, n3, n4, News, n5, n6⟩ := news_rel (P := P) he1 hr hx
  have hr1 : HRel ρ h1.get w := by rw [n2]; exact hr
  have hf1 : Free ρ h1.next h'.next := by rw [n1]; exact hf
  refine heap_eq (P := P) n1 n2 ?_
  simp only at he
  split at he
  · rename_i base len cap
    unfold appendKnown at he
    by_cases hle : len + n ≤ cap
    · rw [if_pos hle] at he
      rcases base with _ | ⟨k, off⟩
      · obtain ⟨rfl, rfl⟩ := pure_some he
        simp only [VRel] at hs; obtain ⟨_, rfl⟩ := hs
        refine Does.same hr1 (b := .slice none (len + n) cap) ?_ (by simp [VRel])
        rw [append_in hu hi hd hd' n4 (n6 w rfl) hle]
        rfl
      · obtain ⟨u, h2, he2, he⟩ := bind_some he
        obtain ⟨rfl, rfl⟩ := pure_some he
        simp only [VRel] at hs; obtain ⟨B, q, r1, rfl⟩ := hs
        obtain ⟨s1, w', s2, s3⟩ := spliceAt_rel (P := P) he2 hr1 r1 n5
        refine ⟨.slice (some ⟨B, off, none⟩) (len + n) cap, ρ, w', ?_, by omega, by rw [s1]; exact s3 _, by simp only [VRel]; exact ⟨B, q, r1, rfl⟩⟩
        rw [append_in hu hi hd hd' n4 (n6 w rfl) hle]
        simp [add_at, s2]
    · rw [if_neg hle] at he
      by_cases hroom : roomA ti.bytes (len + n) = true
      case neg => rw [if_neg hroom] at he; exact (fail_some he).elim
      rw [if_pos hroom] at he
      rcases base with _ | ⟨k, off⟩
      · simp only at he
        by_cases hl0 : len = 0
        case neg => rw [if_neg hl0] at he; exact (fail_some he).elim
        rw [if_pos hl0] at he
        subst hl0
        simp only [VRel] at hs; obtain ⟨_, rfl⟩ := hs
        obtain ⟨newCap, c1, c2⟩ := append_out (P := P) (w := w) (ty := ty) (Old := []) (base := none) hu hi hd hd' n4 (n6 w.drew rfl) (by simp [Builtin.firstCells]) hle hroom
        obtain ⟨V, ρ', w', f1, f2, f3, f4⟩ := grow_rel (P := P) hz hzl he hr1.drew hf1 n5 n3 newCap (by omega)
        refine ⟨V, ρ', w', ?_, f2, (goes_drew hr1 _).trans (Nat.le_refl _) f2 f3, f4⟩
        rw [c2]
        simp only [Nat.zero_add] at f1 ⊢
        exact f1
      · obtain ⟨ob, h2, hl, he⟩ := bind_some he
        obtain ⟨l1, l2, l3⟩ := look_some hl
        cases ob with
        | map => exact (fail_some he).elim
        | iter => exact (fail_some he).elim
        | cells c ee op =>
          simp only at he
          by_cases hle2 : off + len * ti.size ≤ c.length
          case neg => rw [if_neg hle2] at he; exact (fail_some he).elim
          rw [if_pos hle2] at he
          simp only [VRel] at hs; obtain ⟨B, q, r1, rfl⟩ := hs
          obtain ⟨B', q', L1, L2, r2, r3, r4, _⟩ := hr1.row l1
          rw [r1] at r2; cases r2
          have hold : (Builtin.firstCells ti.size len (.slice (some ⟨B, off, none⟩) len cap)).run P w.drew = .ok ((L1.drop off).take (len * ti.size)).toArray w.drew := by
            have hrun := run_cells (P := P) (w := w.drew) r3 (off := off) (n := len * ti.size) (by simp [r4.length]; omega)
            rw [take_append_of_le (by rw [r4.length]; exact hle2)] at hrun
            simpa [Builtin.firstCells] using hrun
          obtain ⟨newCap, c1, c2⟩ := append_out (P := P) (w := w) (ty := ty) (base := some ⟨B, off, none⟩) hu hi hd hd' n4 (n6 w.drew rfl) hold hle hroom
          have hr2 : HRel ρ h2.get w.drew := by rw [l3]; exact hr1.drew
          have hf2 : Free ρ h2.next h'.next := by rw [l2]; exact hf1
          have hlen2 : (sub c off (len * ti.size) ++ news).length = (len + n) * ti.size := by
            simp [sub, n3, Nat.add_mul]; omega
          obtain ⟨V, ρ', w', f1, f2, f3, f4⟩ := grow_rel (P := P) hz hzl he hr2 hf2 ((r4.sub off (len * ti.size)).append n5) hlen2 newCap c1
          refine ⟨V, ρ', w', by rw [c2]; exact f1, by omega, ?_, f4⟩
          rw [l2] at f2 f3
          rw [l3] at f3
          exact (goes_drew hr1 _).trans (Nat.le_refl _) f2 f3
  · rename_i k len
    unfold appendOpen at he
    obtain ⟨ob, h2, hl, he⟩ := bind_some he
    obtain ⟨l1, l2, l3⟩ := look_some hl
    cases ob with
    | map => exact (fail_some he).elim
    | iter => exact (fail_some he).elim
    | cells c ee op =>
      cases op with
      | none => exact (fail_some he).elim
      | some z =>
        simp only at he
        by_cases hcond : roomA ti.bytes (len + n) = true ∧ z = ti.size ∧ ee = e ∧ len * ti.size ≤ c.length ∧ news.all AVal.oneCell = true
        case neg => rw [if_neg hcond] at he; exact (fail_some he).elim
        rw [if_pos hcond] at he
        obtain ⟨c1, rfl, rfl, c4, c5⟩ := hcond
        obtain ⟨u, h3, hk3, he⟩ := bind_some he
        obtain ⟨k1, k2⟩ := kill_some hk3
        simp only [VRel] at hs
        obtain ⟨B, q, r1, r2, rfl⟩ := hs
        simp only [Nat.add_zero, Nat.sub_zero] at r2 ⊢
        obtain ⟨B', q', L1, L2, r3, r4, r5, r6⟩ := hr1.row l1
        rw [r1] at r3; cases r3
        simp only [Fits] at r6
        have hlen2 : (sub c 0 (len * ti.size) ++ news).length = (len + n) * ti.size := by
          simp [sub, n3, Nat.add_mul]; omega
        by_cases hle : len + n ≤ q
        · -- in place: the block goes on under a new number
          unfold growA at he
          obtain ⟨kk, h4, ha, he⟩ := bind_some he
          obtain ⟨rfl, rfl⟩ := pure_some he
          obtain ⟨rfl, a1, a2⟩ := alloc_some ha
          have hfree : ρ h3.next = none := hf1 _ (by omega) (by omega)
          have hNlen : News.length = n * ti.size := by rw [n5.length, n3]
          have hLlen : L1.length = c.length := r5.length
          have hmul : (len + n) * ti.size ≤ q * ti.size := Nat.mul_le_mul_right _ hle
          rw [Nat.add_mul] at hmul
          have hrun := run_storeCells_at (P := P) B (len * ti.size) ee News 0 (L1 ++ L2).toArray w r4 (by simp; omega) (n5.oneCell c5)
          rw [setRow_eq w B _ ee _ r4] at hrun
          simp only [Nat.add_zero] at hrun
          have htake : (L1 ++ L2).take (len * ti.size) = L1.take (len * ti.size) := List.take_append_of_le_length (by omega)
          have hgo := goes_move hr1 (n := h3.next) (k := k) (q := q) (o' := .cells (sub c 0 (len * ti.size) ++ news) ee (some ti.size)) (X := .cells ((L1.take (len * ti.size) ++ News) ++ (L1 ++ L2).drop (len * ti.size + News.length)).toArray ee (0, 0)) l1 r1 hfree
            ⟨L1.take (len * ti.size) ++ News, (L1 ++ L2).drop (len * ti.size + News.length), by
              have := (r5.sub 0 (len * ti.size)).append n5
              simpa using this, rfl, by
              simp only [Fits]
              simp
              omega⟩
          have hcells : ((L1 ++ L2).toArray.toList.take (len * ti.size) ++ News ++ (L1 ++ L2).toArray.toList.drop (len * ti.size + News.length)).toArray = ((L1.take (len * ti.size) ++ News) ++ (L1 ++ L2).drop (len * ti.size + News.length)).toArray := by
            simp only [htake]
          rw [hcells] at hrun
          refine ⟨.slice (some ⟨B, 0, none⟩) (len + n) q, ρ.set h3.next (B, q), putBlock w B (.cells ((L1.take (len * ti.size) ++ News) ++ (L1 ++ L2).drop (len * ti.size + News.length)).toArray ee (0, 0)), ?_, by omega, ?_, ?_⟩
          · rw [append_in hu hi hd hd' n4 (n6 w rfl) hle]
            simp only [add_at, Nat.zero_add, hrun, Result.andThen_ok]
          · have e3 : h3.next = h1.next := by omega
            rw [a1, a2, k2, l3, e3]
            rw [e3] at hgo
            exact hgo
          · simp only [VRel]
            exact ⟨B, q, by simp [Ren.set], by omega, by simp⟩
        · have hold : (Builtin.firstCells ti.size len (.slice (some ⟨B, 0, none⟩) len q)).run P w.drew = .ok ((L1.drop 0).take (len * ti.size)).toArray w.drew := by
            have hrun := run_cells (P := P) (w := w.drew) r4 (off := 0) (n := len * ti.size) (by simp [r5.length]; omega)
            rw [take_append_of_le (by rw [r5.length]; simpa using c4)] at hrun
            simpa [Builtin.firstCells] using hrun
          obtain ⟨newCap, d1, d2⟩ := append_out (P := P) (w := w) (ty := ty) (base := some ⟨B, 0, none⟩) hu hi hd hd' n4 (n6 w.drew rfl) hold hle c1
          have hk := goes_kill hr1.drew h1.next k
          have hr3 : HRel ρ h3.get w.drew := by rw [k2, l3]; exact hk.rel
          have hf3 : Free ρ h3.next h'.next := by rw [k1, l2]; exact hf1
          obtain ⟨V, ρ', w', f1, f2, f3, f4⟩ := grow_rel (P := P) hz hzl he hr3 hf3 ((r5.sub 0 (len * ti.size)).append n5) hlen2 newCap d1
          refine ⟨V, ρ', w', by rw [d2]; exact f1, by omega, ?_, f4⟩
          rw [k1, l2] at f2 f3
          rw [k2, l3] at f3
          exact ((goes_drew hr1 _).trans (Nat.le_refl _) (Nat.le_refl _) hk).trans (Nat.le_refl _) f2 f3
  · exact (fail_some he).elim

end
end Go.Hv
