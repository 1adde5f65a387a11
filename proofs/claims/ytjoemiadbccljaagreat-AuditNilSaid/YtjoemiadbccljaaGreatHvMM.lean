/- A long run in pieces: what a table with remembered calls gives, the table gives. -/
import Derived.Test.YtjoemiadbccljaaGreatHvL1
namespace Go.Hv
open Go

/-- What the one gives, the other gives. -/
def Le {α : Type} (m m' : M α) : Prop := ∀ h r, m h = some r → m' h = some r

section
variable {α β : Type}

theorem Le.refl (m : M α) : Le m m := fun _ _ h => h
theorem Le.trans {a b c : M α} (h1 : Le a b) (h2 : Le b c) : Le a c := fun h r e => h2 h r (h1 h r e)

theorem Le.bind {m m' : M α} {f f' : α → M β} (hm : Le m m') (hf : ∀ a, Le (f a) (f' a)) : Le (m >>= f) (m' >>= f') := by
  intro h r e
  change M.bind m f h = some r at e
  change M.bind m' f' h = some r
  unfold M.bind at e ⊢
  cases hmh : m h with
  | none => rw [hmh] at e; cases e
  | some p =>
    rw [hmh] at e
    rw [hm h p hmh]
    exact hf _ _ _ e

theorem Le.apart {m m' : M α} (hm : Le m m') : Le (apart m) (apart m') := by
  intro h r e
  unfold Hv.apart at e ⊢
  cases hmh : m { h with rd := 0, wr := 0 } with
  | none => rw [hmh] at e; cases e
  | some p =>
    rw [hmh] at e
    rw [hm _ p hmh]
    exact e

theorem Le.ite {c : Prop} [Decidable c] {a a' b b' : M α} (h1 : Le a a') (h2 : Le b b') : Le (if c then a else b) (if c then a' else b') := by
  by_cases h : c <;> simp only [h, if_true, if_false] <;> assumption
end

def LeC (call call' : Caller) : Prop := ∀ f args, Le (call f args) (call' f args)

variable [Env]

theorem Le.ev {call call' : Caller} (hc : LeC call call') (ts : List AVal) (i : IOp) : Le (i.ev call ts) (i.ev call' ts) := by
  cases i
  case call f args => exact hc f _
  case callV f args =>
    simp only [IOp.ev, callVA]
    split
    · exact hc _ _
    · exact Le.refl _
  all_goals exact Le.refl _

theorem Le.step {call call' : Caller} (hc : LeC call call') (o : IOper) (ts : List AVal) : Le (o.step call ts) (o.step call' ts) := by
  unfold IOper.step
  exact Le.ite (Le.bind (Le.ev hc ts o.op) fun _ => Le.refl _) (Le.refl _)

theorem Le.region {call call' : Caller} (hc : LeC call call') : ∀ (l : List IOper) (ts : List AVal), Le (regionA call l ts) (regionA call' l ts)
  | [], _ => Le.refl _
  | o :: r, ts => by
    unfold regionA
    exact Le.bind (Le.step hc o ts) fun ts => Le.region hc r ts

theorem Le.draw {call call' : Caller} (hc : LeC call call') : ∀ (l : List (IOper × List Nat)) (i : Nat) (seen : List (Nat × Nat × Nat)) (ts : List AVal), Le (drawA call l i seen ts) (drawA call' l i seen ts)
  | [], _, _, _ => Le.refl _
  | (o, before) :: r, i, seen, ts => by
    unfold drawA
    refine Le.bind (Le.apart (Le.step hc o ts)) fun p => ?_
    exact Le.ite (Le.refl _) (Le.draw hc r _ _ _)

/-- What the one run gives, the other one gives. -/
def LeR (run run' : ICode → List AVal → M (Ex × List AVal)) : Prop := ∀ c ts, Le (run c ts) (run' c ts)

omit [Env] in
theorem Le.enterCode {run run' : ICode → List AVal → M (Ex × List AVal)} (hr : LeR run run') (c : IFunc) (args : List AVal) :
    Le (do
      let (e, ts) ← run c.body (args ++ List.replicate (c.ntmps - args.length) aundef)
      match e with
      | .exit _ => M.fail
      | _ => do let vs ← resultsA ts c.results; pure (tupled vs))
      (do
      let (e, ts) ← run' c.body (args ++ List.replicate (c.ntmps - args.length) aundef)
      match e with
      | .exit _ => M.fail
      | _ => do let vs ← resultsA ts c.results; pure (tupled vs)) :=
  Le.bind (hr _ _) fun _ => Le.refl _

theorem Le.codeStep {tab tab' : Tab} {n m : Nat} (hr : LeR (codeA tab n) (codeA tab' m)) (he : LeC (enterA tab (codeA tab n)) (enterA tab' (codeA tab' m))) : LeR (codeA tab (n + 1)) (codeA tab' (m + 1)) := by
  intro c ts
  cases c with
  | skip => exact Le.refl _
  | region ops => exact Le.bind (Le.region he ops ts) fun _ => Le.refl _
  | draw ops => exact Le.bind (Le.draw he ops 0 [] ts) fun _ => Le.refl _
  | seq a b =>
    refine Le.bind (hr a ts) fun p => ?_
    obtain ⟨e, ts⟩ := p
    cases e with
    | normal => exact hr b ts
    | ret => exact Le.refl _
    | exit i => exact Le.refl _
  | cond x a b =>
    simp only [codeA]
    split
    · exact hr a ts
    · exact hr b ts
    · exact Le.refl _
  | block id a => exact Le.bind (hr a ts) fun p => Le.refl _
  | loop a =>
    refine Le.bind (hr a ts) fun p => ?_
    obtain ⟨e, ts⟩ := p
    cases e with
    | normal => exact hr (.loop a) ts
    | ret => exact Le.refl _
    | exit i => exact Le.refl _
  | exit id => exact Le.refl _
  | ret => exact Le.refl _
  | bad => exact Le.refl _

omit [Env] in
theorem Le.enterSame {tab : Tab} {run run' : ICode → List AVal → M (Ex × List AVal)} (hr : LeR run run') : LeC (enterA tab run) (enterA tab run') := by
  intro f args
  unfold enterA
  cases tab f with
  | none => exact Le.refl _
  | some e =>
    cases e with
    | prim m => exact Le.refl _
    | code c => exact Le.enterCode hr c args

theorem Le.fuel1 (tab : Tab) : ∀ n, LeR (codeA tab n) (codeA tab (n + 1))
  | 0 => fun c ts h r e => by simp [codeA, M.fail] at e
  | n + 1 => Le.codeStep (Le.fuel1 tab n) (Le.enterSame (Le.fuel1 tab n))

theorem Le.fuel (tab : Tab) (n : Nat) : ∀ k, LeR (codeA tab n) (codeA tab (n + k))
  | 0 => fun _ _ => Le.refl _
  | k + 1 => fun c ts => (Le.fuel tab n k c ts).trans (Le.fuel1 tab (n + k) c ts)

/-- The remembered calls. -/
structure Memo where
  args : List AVal
  was : Heap
  v : AVal
  now : Heap

/-! Are two the same? (n: how deep it is looked.) -/
def eqFn : Fn → Fn → Bool
  | .func a, .func b => a == b
  | _, _ => false

def eqList (p : AVal → AVal → Bool) : List AVal → List AVal → Bool
  | [], [] => true
  | x :: r, y :: s => p x y && eqList p r s
  | _, _ => false

def eqV : Nat → AVal → AVal → Bool
  | 0, _, _ => false
  | n + 1, x, y =>
    match x, y with
    | .bool a, .bool b => a == b
    | .int k a, .int k' b => decide (k = k') && decide (a = b)
    | .str a, .str b => decide (a = b)
    | .ptr a, .ptr b => decide (a = b)
    | .slice a l c o, .slice a' l' c' o' => decide (a = a') && decide (l = l') && decide (c = c') && o == o'
    | .eslice, .eslice => true
    | .map a, .map b => decide (a = b)
    | .func f a b, .func g c d => eqFn f g && eqList (eqV n) a c && eqList (eqV n) b d
    | .nilFunc, .nilFunc => true
    | .iface t v, .iface u w => decide (t = u) && eqV n v w
    | .nilIface, .nilIface => true
    | .agg a, .agg b => eqList (eqV n) a b
    | .tuple a, .tuple b => eqList (eqV n) a b
    | .tok a, .tok b => decide (a = b)
    | _, _ => false

omit [Env] in
theorem eqFn_eq {f g : Fn} (h : eqFn f g = true) : f = g := by
  unfold eqFn at h
  split at h
  · rw [beq_iff_eq] at h; rw [h]
  · cases h

omit [Env] in
theorem eqList_eq {p : AVal → AVal → Bool} (hp : ∀ x y, p x y = true → x = y) : ∀ {a b : List AVal}, eqList p a b = true → a = b
  | [], [], _ => rfl
  | [], _ :: _, h => by simp [eqList] at h
  | _ :: _, [], h => by simp [eqList] at h
  | x :: r, y :: s, h => by
    simp only [eqList, Bool.and_eq_true] at h
    rw [hp x y h.1, eqList_eq hp h.2]

omit [Env] in
theorem eqV_eq : ∀ (n : Nat) (x y : AVal), eqV n x y = true → x = y
  | 0, _, _, h => by simp [eqV] at h
  | n + 1, x, y, h => by
    have ih := eqV_eq n
    unfold eqV at h
    split at h
    all_goals try simp only [Bool.and_eq_true, decide_eq_true_eq, beq_iff_eq, Bool.false_eq_true] at h
    · rw [h]
    · rw [h.1, h.2]
    · rw [h]
    · rw [h]
    · obtain ⟨⟨⟨h1, h2⟩, h3⟩, h4⟩ := h; rw [h1, h2, h3, h4]
    · rfl
    · rw [h]
    · obtain ⟨⟨h1, h2⟩, h3⟩ := h; rw [eqFn_eq h1, eqList_eq ih h2, eqList_eq ih h3]
    · rfl
    · rw [h.1, ih _ _ h.2]
    · rfl
    · rw [eqList_eq ih h]
    · rw [eqList_eq ih h]
    · rw [h]

def eqPairs (n : Nat) : List (AVal × AVal) → List (AVal × AVal) → Bool
  | [], [] => true
  | (a, b) :: r, (c, d) :: s => eqV n a c && eqV n b d && eqPairs n r s
  | _, _ => false

omit [Env] in
theorem eqPairs_eq {n : Nat} : ∀ {a b : List (AVal × AVal)}, eqPairs n a b = true → a = b
  | [], [], _ => rfl
  | [], _ :: _, h => by simp [eqPairs] at h
  | _ :: _, [], h => by simp [eqPairs] at h
  | (a, b) :: r, (c, d) :: s, h => by
    simp only [eqPairs, Bool.and_eq_true] at h
    rw [eqV_eq n _ _ h.1.1, eqV_eq n _ _ h.1.2, eqPairs_eq h.2]

def eqO (n : Nat) : Option AObj → Option AObj → Bool
  | none, none => true
  | some (.cells c e o), some (.cells c' e' o') => eqList (eqV n) c c' && decide (e = e') && decide (o = o')
  | some (.map es bs k), some (.map es' bs' k') => eqPairs n es es' && decide (bs = bs') && decide (k = k')
  | some (.iter m s l k), some (.iter m' s' l' k') => decide (m = m') && decide (s = s') && decide (l = l') && decide (k = k')
  | _, _ => false

omit [Env] in
theorem eqO_eq {n : Nat} {x y : Option AObj} (h : eqO n x y = true) : x = y := by
  unfold eqO at h
  split at h
  all_goals simp only [Bool.and_eq_true, decide_eq_true_eq, Bool.false_eq_true] at h
  · rfl
  · obtain ⟨⟨h1, h2⟩, h3⟩ := h; rw [eqList_eq (eqV_eq n) h1, h2, h3]
  · obtain ⟨⟨h1, h2⟩, h3⟩ := h; rw [eqPairs_eq h1, h2, h3]
  · obtain ⟨⟨⟨h1, h2⟩, h3⟩, h4⟩ := h; rw [h1, h2, h3, h4]

def eqT (n : Nat) : Tree → Tree → Bool
  | .nil, .nil => true
  | .node v l r, .node v' l' r' => eqO n v v' && eqT n l l' && eqT n r r'
  | _, _ => false

omit [Env] in
theorem eqT_eq {n : Nat} : ∀ {x y : Tree}, eqT n x y = true → x = y
  | .nil, .nil, _ => rfl
  | .nil, .node .., h => by simp [eqT] at h
  | .node .., .nil, h => by simp [eqT] at h
  | .node v l r, .node v' l' r', h => by
    simp only [eqT, Bool.and_eq_true] at h
    rw [eqO_eq h.1.1, eqT_eq h.1.2, eqT_eq h.2]

def eqH (x y : Heap) : Bool := decide (x.next = y.next) && decide (x.rd = y.rd) && decide (x.wr = y.wr) && eqT 10 x.tree y.tree

omit [Env] in
theorem eqH_eq {x y : Heap} (h : eqH x y = true) : x = y := by
  obtain ⟨a, b, c, d⟩ := x
  obtain ⟨a', b', c', d'⟩ := y
  simp only [eqH, Bool.and_eq_true, decide_eq_true_eq] at h
  obtain ⟨⟨⟨h1, h2⟩, h3⟩, h4⟩ := h
  rw [h1, h2, h3, eqT_eq h4]

/-- A call that was carried out: remembered. -/
def memoPrim : List Memo → Prim
  | [], _ => M.fail
  | e :: r, args => fun h => if eqList (eqV 10) args e.args && eqH h e.was then some (e.v, e.now) else memoPrim r args h

def Memo.Ok (tab : Tab) (N : Nat) (f : FuncId) (e : Memo) : Prop := funcA tab N f e.args e.was = some (e.v, e.now)

/-- Did a run come to that? -/
def okMemo (r : Option (AVal × Heap)) (v : AVal) (h : Heap) : Bool :=
  match r with
  | some (v', h') => eqV 10 v' v && eqH h' h
  | none => false

omit [Env] in
theorem okMemo_eq {r : Option (AVal × Heap)} {v : AVal} {h : Heap} (hr : okMemo r v h = true) : r = some (v, h) := by
  unfold okMemo at hr
  split at hr
  · simp only [Bool.and_eq_true] at hr
    rw [eqV_eq 10 _ _ hr.1, eqH_eq hr.2]
  · cases hr

def Memos (tab : Tab) (N : Nat) (f : FuncId) : List Memo → Prop
  | [] => True
  | e :: r => e.Ok tab N f ∧ Memos tab N f r

theorem memoPrim_ok {tab : Tab} {N : Nat} {f : FuncId} : ∀ {es : List Memo}, Memos tab N f es → ∀ args, Le (memoPrim es args) (funcA tab N f args)
  | [], _, _, h, r, e => by simp [memoPrim, M.fail] at e
  | e :: r, ⟨h1, h2⟩, args, h, x, he => by
    rw [memoPrim] at he
    replace he : (if (eqList (eqV 10) args e.args && eqH h e.was) = true then some (e.v, e.now) else memoPrim r args h) = some x := he
    split at he
    · rename_i hc
      simp only [Bool.and_eq_true] at hc
      rw [eqList_eq (eqV_eq 10) hc.1, eqH_eq hc.2, h1]
      exact he
    · exact memoPrim_ok h2 args h x he

def MemoTab (tab : Tab) (N : Nat) : List (Nat × Prim) → Prop
  | [] => True
  | (f, m) :: r => (∀ args, Le (m args) (funcA tab N f args)) ∧ MemoTab tab N r

omit [Env] in
theorem primOf_append {ms ps : List (Nat × Prim)} {f : Nat} : primOf (ms ++ ps) f = match primOf ms f with | some m => some m | none => primOf ps f := by
  induction ms with
  | nil => rfl
  | cons x r ih =>
    obtain ⟨i, m⟩ := x
    rw [List.cons_append, primOf, primOf]
    by_cases h : i = f <;> simp only [h, if_true, if_false]
    exact ih

theorem MemoTab.mem {tab : Tab} {N : Nat} : ∀ {ms : List (Nat × Prim)}, MemoTab tab N ms → ∀ {f m}, (f, m) ∈ ms → ∀ args, Le (m args) (funcA tab N f args)
  | [], _, _, _, h => by simp at h
  | (i, m0) :: r, ⟨h1, h2⟩, f, m, h => by
    rcases List.mem_cons.1 h with e | h
    · cases e; exact h1
    · exact MemoTab.mem h2 h

theorem Le.memo {t : BT} {ps ms : List (Nat × Prim)} {N : Nat} (hm : MemoTab (tabOf t ps) N ms) : ∀ n, LeR (codeA (tabOf t (ms ++ ps)) n) (codeA (tabOf t ps) (n + N)) := by
  have enter : ∀ n, LeR (codeA (tabOf t (ms ++ ps)) n) (codeA (tabOf t ps) (n + N)) → LeC (enterA (tabOf t (ms ++ ps)) (codeA (tabOf t (ms ++ ps)) n)) (enterA (tabOf t ps) (codeA (tabOf t ps) (n + N))) := by
    intro n hr f args
    cases h1 : primOf ms f with
    | some m =>
      have e1 : tabOf t (ms ++ ps) f = some (.prim m) := by unfold tabOf; rw [primOf_append, h1]
      have h2 := hm.mem (primOf_mem h1) args
      have h3 : Le (funcA (tabOf t ps) N f args) (enterA (tabOf t ps) (codeA (tabOf t ps) (n + N)) f args) := by
        have := Le.enterSame (tab := tabOf t ps) (Le.fuel (tabOf t ps) N n) f args
        rw [Nat.add_comm N n] at this
        exact this
      have h4 : enterA (tabOf t (ms ++ ps)) (codeA (tabOf t (ms ++ ps)) n) f args = m args := by unfold enterA; rw [e1]
      rw [h4]
      exact h2.trans h3
    | none =>
      have e1 : tabOf t (ms ++ ps) f = tabOf t ps f := by unfold tabOf; rw [primOf_append, h1]
      unfold enterA
      rw [e1]
      cases tabOf t ps f with
      | none => exact Le.refl _
      | some e =>
        cases e with
        | prim m => exact Le.refl _
        | code c => exact Le.enterCode hr c args
  intro n
  induction n with
  | zero => intro c ts h r e; simp [codeA, M.fail] at e
  | succ n ih =>
    have := Le.codeStep ih (enter n ih)
    rw [Nat.add_right_comm] at this
    exact this

/-- What comes of a run with remembered calls comes of the run. -/
theorem memo_run {t : BT} {ps ms : List (Nat × Prim)} {N : Nat} (hm : MemoTab (tabOf t ps) N ms) {n : Nat} {f : FuncId} {args : List AVal} {h : Heap} {r : AVal × Heap}
    (he : funcA (tabOf t (ms ++ ps)) n f args h = some r) : funcA (tabOf t ps) (n + 1 + N) f args h = some r := by
  have hr := Le.memo hm n
  unfold funcA at he ⊢
  cases h1 : primOf ms f with
  | some m =>
    have e1 : tabOf t (ms ++ ps) f = some (.prim m) := by unfold tabOf; rw [primOf_append, h1]
    have h2 := hm.mem (primOf_mem h1) args
    have h4 : enterA (tabOf t (ms ++ ps)) (codeA (tabOf t (ms ++ ps)) n) f args = m args := by unfold enterA; rw [e1]
    rw [h4] at he
    have h5 := Le.enterSame (tab := tabOf t ps) (Le.fuel (tabOf t ps) N (n + 1)) f args
    rw [Nat.add_comm N (n + 1)] at h5
    exact h5 h r (h2 h r he)
  | none =>
    have e1 : tabOf t (ms ++ ps) f = tabOf t ps f := by unfold tabOf; rw [primOf_append, h1]
    have hr2 : LeR (codeA (tabOf t (ms ++ ps)) n) (codeA (tabOf t ps) (n + 1 + N)) := fun c ts => (hr c ts).trans (by
      have := Le.fuel1 (tabOf t ps) (n + N) c ts
      rw [Nat.add_right_comm] at this
      exact this)
    unfold enterA at he ⊢
    rw [e1] at he
    cases h2 : tabOf t ps f with
    | none => rw [h2] at he; exact he
    | some e =>
      rw [h2] at he
      cases e with
      | prim m => exact he
      | code c => exact Le.enterCode hr2 c args h r he

omit [Env] in
theorem okRun_le {m m' : Option (AVal × Heap)} (h : ∀ r, m = some r → m' = some r) (ho : okRun m = true) : okRun m' = true := by
  obtain ⟨h', e⟩ := okRun_iff ho
  rw [h _ e]
  rfl

/-- Blocks that are put, one behind the other. -/
def Heap.with (h : Heap) (next rd wr : Nat) (d : List (Nat × Option AObj)) : Heap := ⟨next, rd, wr, d.foldl (fun t x => Tree.put (depth + 1) t x.1 x.2) h.tree⟩

end Go.Hv
