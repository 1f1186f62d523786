/- The wire seat's laws: as many bytes as it needs; the same bytes only if the same. -/
import Derived.Test.YtinlnjoapcpmaaaW15
namespace Go.Fx
open Go Go.Proofs

/-! ### WireLong -/
def longN (o : Fu.Op) : Int := bif o.Kind == 0 then 7 else bif o.Kind == 2 then 3 else bif o.Kind == 4 then IntKind.i64.wrap (2 + o.D.length) else 5
theorem f5 (o : Fu.Op) : callC w33 100 5 [opAV o] = .asrt ((o.D.length : Int) < 9223372036854775807) (.ite (mayOp o) (.ret (.bool (((putB o).length : Int) == longN o), [])) (.ret (.blit true, []))) := by kernel_rfl
def good1 (args : List AV) : Prop := ∃ o : Fu.Op, args = [opAV o] ∧ (o.D.length : Int) < 17592186044416
theorem con5_valid : ValidCon w33.P 5 (lawCon good1) := lawCon_of (n := 100) w33_good (by kernel_rfl) fun args ⟨o, h1, h2⟩ => by
  subst h1
  refine ⟨_, f5 o, .asrt (by omega) (.ite (fun hm => .of ?_) fun _ => .yes)⟩
  have h4 := may_len hm
  rw [beq_iff_eq, putB_len]
  rcases may_kind hm with hk | hk | hk | hk | hk <;> simp only [longN, hk] <;> try rfl
  show 2 + (o.D.length : Int) = IntKind.i64.wrap (2 + (o.D.length : Int))
  exact (wrap_fits (by omega) (by omega)).symm

/-! ### WireOne -/
def noA : Tree (AV × List Blk) := .ret (.blit true, [])
theorem f4 (o p : Fu.Op) : callC w33 100 4 [opAV o, opAV p] =
    .asrt ((o.D.length : Int) < 9223372036854775807) (.ite (mayOp o)
      (.asrt ((p.D.length : Int) < 9223372036854775807) (.ite (mayOp p)
        (.asrt ((((putB o).length : Int) == 0) = false → (((putB p).length : Int) == 0) = false → 0 ≤ (0 : Int) ∧ 0 < ((putB o).length : Int))
         (.asrt ((((putB o).length : Int) == 0) = false → (((putB p).length : Int) == 0) = false → 0 ≤ (0 : Int) ∧ 0 < ((putB o).length : Int))
          (.ite (((putB o).length : Int) == 0 || (((putB p).length : Int) == 0 || (IntKind.i64.wrap (rd (.int .u8) (putB o) 0) != o.Kind || o.Kind == p.Kind && (o.Kind != 4 && ((putB o).length : Int) != (putB p).length)))) noT
            (.asrt (((putB o).length : Int) < 9223372036854775807) (.asrt ((o.D.length : Int) < 9223372036854775807) (.ret (.bool (decide (putB o = putB p) == decide (o = p)), []))))))) noA))
      (.asrt ((p.D.length : Int) < 9223372036854775807) (.ite (mayOp p) noA noA))) := by kernel_rfl
def good2 (args : List AV) : Prop := ∃ o p : Fu.Op, args = [opAV o, opAV p] ∧ (o.D.length : Int) < 17592186044416 ∧ (p.D.length : Int) < 17592186044416
theorem kind_of_put {o : Fu.Op} (hm : mayOp o = true) : IntKind.i64.wrap (rd (.int .u8) (putB o) 0) = o.Kind := by
  have : rd (.int .u8) (putB o) 0 = IntKind.u8.wrap o.Kind := by simp [rd, putB]
  rw [this]
  rcases may_kind hm with hk | hk | hk | hk | hk <;> rw [hk] <;> decide
theorem con4_valid : ValidCon w33.P 4 (lawCon good2) := lawCon_of (n := 100) w33_good (by kernel_rfl) fun args ⟨o, p, h1, h2, h3⟩ => by
  subst h1
  refine ⟨_, f4 o p, .asrt (by omega) (.ite (fun hm => .asrt (by omega) (.ite (fun hp => ?_) fun _ => .yes)) fun _ => .asrt (by omega) (.ite (fun _ => .yes) fun _ => .yes))⟩
  have hl := putB_len o
  have hl2 := putB_len p
  have h4 := may_len hm
  have hz : 0 < ((putB o).length : Int) := by rcases may_kind hm with hk | hk | hk | hk | hk <;> simp only [hk] at hl <;> simp at hl <;> omega
  have hz2 : 0 < ((putB p).length : Int) := by rcases may_kind hp with hk | hk | hk | hk | hk <;> simp only [hk] at hl2 <;> simp at hl2 <;> omega
  refine .asrt (fun _ _ => ⟨by omega, hz⟩) (.asrt (fun _ _ => ⟨by omega, hz⟩) (.ite (fun hb => ?_) fun _ => .asrt ?_ (.asrt (by omega) (.of ?_))))
  · exfalso
    simp only [Bool.or_eq_true, beq_iff_eq, bne_iff_ne, ne_eq, Bool.and_eq_true] at hb
    rcases hb with hb | hb | hb | ⟨hb, hc, hd⟩
    · omega
    · omega
    · exact hb (kind_of_put hm)
    · rw [← hb] at hl2
      refine hd ?_
      rw [hl, hl2]
      rcases may_kind hm with hk | hk | hk | hk | hk <;> simp [hk]
      exact absurd hk hc
  · rcases may_kind hm with hk | hk | hk | hk | hk <;> simp only [hk] at hl <;> simp at hl <;> omega
  · rw [beq_iff_eq, decide_eq_decide]
    constructor
    · intro e
      rw [← cand_put hm, ← cand_put hp, e]
    · intro e
      rw [e]

end Go.Fx
