import Derived.Test.YtpamljjiglncmaaGreatN0
namespace Go.Fx
open Go Go.Proofs
def conTrue : Con
  | [] => .ret (.blit true, [])
  | _ => .fail
theorem conTrue_quiet : noBlks conTrue := by
  intro args r h
  unfold conTrue at h
  split at h
  · cases h; rfl
  · exact h.elim
theorem conTrue_valid {C : Cfg} (G : GoodCfg C) (n : Nat) {g : Nat} (he : entersB C.P g = true) (h : ∃ t, callC C n g [] = t ∧ Rez t (.blit true, [])) : ValidCon C.P g conTrue := by
  obtain ⟨t, h1, h2⟩ := h
  refine con_of (C := C) (n := n) G he fun args r hr => ?_
  unfold conTrue at hr
  split at hr
  · cases hr
    obtain ⟨v, k1, k2⟩ := h2
    exact ⟨[], v, .nil, k1, .of_eq h1 k2⟩
  · exact hr.elim
end Go.Fx
