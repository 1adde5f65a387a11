/- The library's functions do what the primitives say: of a Builder's text. -/
import Derived.Test.YtjoemiadbccljaaGreatHvP2
import Derived.Shelf.Strings.Builder1
import Derived.Shelf.RegionOpenPlain
import Derived.WalkKit
namespace Go.Hv
open Go Go.RowKit Go.Shelf Go.Proofs
variable {P : Program} {ρ : Shelf.Ren}

theorem checks_of (L : Lays.n240 P ρ) (X : Builder.X72 P ρ) : Checks P (ρ.f 240) (ρ.t 72) :=
  ⟨fun b w h => Any.Builder_copyCheck_used L X b w h, fun b w h1 h2 h3 => Any.Builder_copyCheck_fresh L X b w h1 h2 h3⟩

set_option maxHeartbeats 1000000 in
set_option maxRecDepth 100000 in
theorem texts_of (L : Lays.n169 P ρ) (X : Builder.Extra P ρ) : Texts P (ρ.f 169) (ρ.t 72) (ρ.t 5) := by
  intro w b g n cap p cur l hbk hg hnc hcs hcell hln h0 hn
  subst hln
  have h0l : l ≠ [] := by intro e; subst e; simp at h0
  have c1 : w.drew.cell? ⟨b, 1, none⟩ = some (.slice (some ⟨g, 0, none⟩) l.length cap) := by
    have : w.drew.heap[b]? = some (.cells #[p, .slice (some ⟨g, 0, none⟩) l.length cap] (ρ.t 72) (0, 0)) := hbk
    rw [Lib.cell_of_heap this]; rfl
  have hSD : (Builtin.unsafeSliceData_ #[(ρ.t 37)] (ρ.t 127) #[.slice (some ⟨g, 0, none⟩) l.length cap]).run P w.drew = .ok (.pointer (some ⟨g, 0, none⟩)) w.drew :=
    Lib.run_unsafeSliceData_row _ _ _ _ _ _ (by omega)
  have hUS : (Builtin.unsafeString_ #[(ρ.t 127), (ρ.t 3)] (ρ.t 9) #[.pointer (some ⟨g, 0, none⟩), .int .i64 l.length]).run P w.drew = .ok (.string ⟨l.toArray⟩) (w.drew.freeze ⟨g, 0, none⟩ l.length) := by
    refine Lib.run_unsafeString_row w.drew (ρ.t 127) (ρ.t 3) (ρ.t 9) (ρ.t 5) L.t127 X.cellsByte g cur.size (by have hg' : w.drew.heap[g]? = some (.cells cur (ρ.t 5) (0, 0)) := hg; simp [World.shape?, hg']) l h0l (by omega) (by omega) ?_
    intro j x hx
    have hh : w.drew.heap[g]? = some (.cells cur (ρ.t 5) (0, 0)) := hg
    have hc2 := hcell j x hx
    show w.drew.cell? ((⟨g, 0, none⟩ : Addr).add j) = _
    rcases j with _ | j <;> simp [World.cell?, Addr.add, hh, hc2]
  have mixed := L.mixed
  have t72 := L.t72; have a72 := L.a72; have z72 := L.z72; have v72 := L.v72; have u72 := run_underlying L.t72
  have t70 := L.t70; have a70 := L.a70; have z70 := L.z70; have v70 := L.v70; have u70 := run_underlying L.t70
  have t37 := L.t37; have a37 := L.a37; have z37 := L.z37; have v37 := L.v37; have u37 := run_underlying L.t37
  have t127 := L.t127; have a127 := L.a127; have z127 := L.z127; have v127 := L.v127; have u127 := run_underlying L.t127
  have t3 := L.t3; have a3 := L.a3; have z3 := L.z3; have v3 := L.v3; have u3 := run_underlying L.t3
  have t9 := L.t9; have a9 := L.a9; have z9 := L.z9; have v9 := L.v9; have u9 := run_underlying L.t9
  have t5 := X.t5; have a5 := X.a5; have z5 := X.z5; have v5 := X.v5; have u5 := run_underlying X.t5
  have hfr : (w.drew.freeze ⟨g, 0, none⟩ l.length).heap.size = w.heap.size ∧ (∀ j, j ≠ g → (w.drew.freeze ⟨g, 0, none⟩ l.length).heap[j]? = w.heap[j]?) ∧ (w.drew.freeze ⟨g, 0, none⟩ l.length).os = w.os ∧ (w.drew.freeze ⟨g, 0, none⟩ l.length).tape = w.tape ∧ (w.drew.freeze ⟨g, 0, none⟩ l.length).output = w.output := by
    unfold World.freeze
    split
    · exact ⟨rfl, fun _ _ => rfl, rfl, rfl, rfl⟩
    · have hd : w.drew.heap = w.heap := rfl
      refine ⟨by simp [hd], fun j hj => ?_, rfl, rfl, rfl⟩
      simp only [hd, Array.getElem?_modify]
      rw [if_neg (by omega)]
  go_enter L.f169, Body.n169_ntmps ρ
  go_wp2
  go_region_o
  all_goals (go_wp2; go_ret; exact ⟨rfl, hfr⟩)

end Go.Hv
