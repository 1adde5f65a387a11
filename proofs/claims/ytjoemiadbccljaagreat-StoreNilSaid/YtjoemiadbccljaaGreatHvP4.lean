/- The library's functions do what the primitives say: what is gathered from an empty map. -/
import Derived.Test.YtjoemiadbccljaaGreatHvP2
import Derived.Shelf.SlIterI.Nil
namespace Go.Hv
open Go Go.RowKit Go.Shelf Go.Proofs Go.Maps
variable {P : Program} {ρ : Shelf.Ren}

theorem gathers_of (L : SlLaysZI.n11 P ρ) (K : SlLaysZI.n10 P ρ) : GathersNone P (ρ.f 11) (ρ.f 10) := by
  intro w B hB hm
  have eg : ∀ args w, (callFunc (ρ.f 10) args).run P w = .ok (.enter (ρ.f 10) args) w := K.f10.enters rfl
  have hseq : SeqGives Fence.wide 2 P (ρ.f 10) #[.pointer (some ⟨B, 0, none⟩)] encZ (fun ss => ss = []) 0 w := by
    rcases hm with hm | ⟨b, clk, hm, hb⟩
    · exact AnyZI.keys_gives_nil K Fence.wide 2 trivial rfl B w hB hm
    · have hown : w.ownsMap P (ρ.t 26) (H := Unit) (fun _ => none) b 0 (.map []) := ⟨#[], clk, hb, ⟨by simp [maxLen], ⟨by simp, by simp⟩, by simp⟩, by simp, rfl⟩
      have hk := AnyZI.keys_gives K Fence.wide 2 trivial rfl (by omega) B b 0 (.map []) w hB hm hown
      intro l J W hW hJ hY h0
      refine (hk l J W hW hJ (fun pre x W1 hj hl => by simp [Maps.size] at hl) h0).mono ?_
      rintro e W' ⟨hv, xs, hp, hj⟩
      exact ⟨hv, xs, by simpa [intKeys] using hp, hj⟩
  refine (callsIn_wide (n := 3)).1 ((AnyZI.appendSeq_in L Fence.wide 3 trivial rfl (by omega) (ρ.f 10) #[.pointer (some ⟨B, 0, none⟩)] trivial eg (fun ss => ss = []) 0 (by simp [maxLen]) (by omega) w hseq).mono ?_)
  rintro e w' ⟨v, ss, rfl, rfl, _, hnil, hb⟩
  exact ⟨by rw [hnil.2 rfl], hb⟩

end Go.Hv
