/- What a step and a config are that are handed in: their cells, each of its own type. -/
import Derived.Test.YtjoemiadbccljaaGreatRows
import Derived.WalkKit
import Derived.ProofKit
import Derived.OpenShut
import Derived.ShutString
import Derived.ChangeOld
import Derived.Carry
import Derived.Below
import Derived.Lib.SmallJoins
import Derived.JoinedOf
namespace Go.Proofs.YtjoemiadbccljaaGreat
set_option maxRecDepth 100000
open Go Go.ChangeShapes Go.WideShapes Go.ChangeAt Go.RowKit Go.Joins

section
variable {P : Program} {w : World} {r : Reach} {b0 : Nat}

theorem cells_open {t : TypeId} {fs : Array Field} {ts : List TypeId} {v : Value} (hs : P.underlying t = some (.struct fs)) (ht : P.cellTypes P.depth t = some ts)
    (hv : Value.okWide P w r b0 t v) : ∃ cs, v = .agg cs ∧ cs.size = P.cellsOf t ∧ ∀ (i : Nat) (x : Value), cs[i]? = some x → ∃ u, ts[i % ts.length]? = some u ∧ Cell.okWide P w r b0 u x := by
  unfold Value.okWide at hv
  rw [hs] at hv
  obtain ⟨cs, rfl, hn, ts', h1, _, h3⟩ := hv
  rw [ht] at h1
  cases h1
  exact ⟨cs, rfl, hn, h3⟩

theorem cell_int {u : TypeId} {k : IntKind} {x : Value} (hu : P.underlying u = some (.int k)) (h : Cell.okWide P w r b0 u x) : ∃ n, x = .int k n :=
  okWide_int (r := r) (base := b0) (w := w) hu (by unfold Value.okWide; rw [hu]; exact h)
theorem cell_string {u : TypeId} {x : Value} (hu : P.underlying u = some .string) (h : Cell.okWide P w r b0 u x) : ∃ s, x = .string s :=
  okWide_string (r := r) (base := b0) (w := w) hu (by unfold Value.okWide; rw [hu]; exact h)
theorem cell_slice {u e : TypeId} {x : Value} (hu : P.underlying u = some (.slice e)) (h : Cell.okWide P w r b0 u x) : ∃ a len cap, x = .slice a len cap :=
  okWide_slice (r := r) (base := b0) (w := w) hu (by unfold Value.okWide; rw [hu]; exact h)
end

theorem step_form {w : World} {r : Reach} {b0 : Nat} {v : Value} (hv : Value.okWide Tryz.prog w r b0 29 v) :
    ∃ (k s n o : Int) (s1 s2 : ByteArray) (m : Int) (a : Option Addr) (len cap : Nat), v = .agg #[.int .i64 k, .int .i64 s, .int .i64 n, .int .i64 o, .string s1, .string s2, .int .u64 m, .slice a len cap] := by
  obtain ⟨cs, rfl, hn, hc⟩ := cells_open (P := Tryz.prog) (w := w) (r := r) (b0 := b0) (ts := [3, 3, 3, 3, 9, 9, 24, 27]) Tryz.underlying29 (by kernel_rfl) hv
  have hn8 : cs.size = 8 := hn.trans (by kernel_rfl)
  obtain ⟨l⟩ := cs
  match l, hn8 with
  | [c0, c1, c2, c3, c4, c5, c6, c7], _ =>
    obtain ⟨u0, e0, g0⟩ := hc 0 c0 rfl
    obtain ⟨u1, e1, g1⟩ := hc 1 c1 rfl
    obtain ⟨u2, e2, g2⟩ := hc 2 c2 rfl
    obtain ⟨u3, e3, g3⟩ := hc 3 c3 rfl
    obtain ⟨u4, e4, g4⟩ := hc 4 c4 rfl
    obtain ⟨u5, e5, g5⟩ := hc 5 c5 rfl
    obtain ⟨u6, e6, g6⟩ := hc 6 c6 rfl
    obtain ⟨u7, e7, g7⟩ := hc 7 c7 rfl
    cases e0; cases e1; cases e2; cases e3; cases e4; cases e5; cases e6; cases e7
    obtain ⟨x0, rfl⟩ := cell_int Tryz.underlying3 g0
    obtain ⟨x1, rfl⟩ := cell_int Tryz.underlying3 g1
    obtain ⟨x2, rfl⟩ := cell_int Tryz.underlying3 g2
    obtain ⟨x3, rfl⟩ := cell_int Tryz.underlying3 g3
    obtain ⟨x4, rfl⟩ := cell_string Tryz.underlying9 g4
    obtain ⟨x5, rfl⟩ := cell_string Tryz.underlying9 g5
    obtain ⟨x6, rfl⟩ := cell_int Tryz.underlying24 g6
    obtain ⟨x7, l7, c7, rfl⟩ := cell_slice Tryz.underlying27 g7
    exact ⟨x0, x1, x2, x3, x4, x5, x6, x7, l7, c7, rfl⟩

theorem config_form {w : World} {r : Reach} {b0 : Nat} {v : Value} (hv : Value.okWide Tryz.prog w r b0 23 v) :
    ∃ (b f s k p n : Int), v = .agg #[.int .i64 b, .int .i64 f, .int .i64 s, .int .i64 k, .int .i64 p, .int .i64 n] := by
  obtain ⟨cs, rfl, hn, hc⟩ := cells_open (P := Tryz.prog) (w := w) (r := r) (b0 := b0) (ts := [3, 3, 3, 3, 3, 3]) Tryz.underlying23 (by kernel_rfl) hv
  have hn6 : cs.size = 6 := hn.trans (by kernel_rfl)
  obtain ⟨l⟩ := cs
  match l, hn6 with
  | [c0, c1, c2, c3, c4, c5], _ =>
    obtain ⟨u0, e0, g0⟩ := hc 0 c0 rfl
    obtain ⟨u1, e1, g1⟩ := hc 1 c1 rfl
    obtain ⟨u2, e2, g2⟩ := hc 2 c2 rfl
    obtain ⟨u3, e3, g3⟩ := hc 3 c3 rfl
    obtain ⟨u4, e4, g4⟩ := hc 4 c4 rfl
    obtain ⟨u5, e5, g5⟩ := hc 5 c5 rfl
    cases e0; cases e1; cases e2; cases e3; cases e4; cases e5
    obtain ⟨x0, rfl⟩ := cell_int Tryz.underlying3 g0
    obtain ⟨x1, rfl⟩ := cell_int Tryz.underlying3 g1
    obtain ⟨x2, rfl⟩ := cell_int Tryz.underlying3 g2
    obtain ⟨x3, rfl⟩ := cell_int Tryz.underlying3 g3
    obtain ⟨x4, rfl⟩ := cell_int Tryz.underlying3 g4
    obtain ⟨x5, rfl⟩ := cell_int Tryz.underlying3 g5
    exact ⟨x0, x1, x2, x3, x4, x5, rfl⟩

theorem own : ownKnob Tryz.prog.godebug = none := by kernel_rfl
theorem laidOut : laidOutB Tryz.prog = true := by kernel_rfl
theorem mapsOk : mapsRowed Tryz.prog = true := by kernel_rfl

end Go.Proofs.YtjoemiadbccljaaGreat
