/- Loops that count up to a bound that what they carry tells. -/
import Derived.Test.YtccfojgceohciaaFxZ
namespace Go.Fx
open Go

def boundB {X β : Type} (n0 : Nat) (f : St → St) (T : X × Int → St) (get : St → Option (X × Int)) (bnd : X → Int) (ok : X → Int → Prop) (nxt : X → Int → X) (brk : X → Int → Option β) (d : β) (R : β → Ex × St) (E : X → Ex × St) : LoopCon :=
  entry n0 f T get fun p =>
      .asrt (0 ≤ p.2 ∧ bnd p.1 ≤ maxI64 ∧ okI nxt brk ok (bnd p.1 - p.2).toNat p.1 p.2)
        (optT d (brkI nxt brk (bnd p.1 - p.2).toNat p.1 p.2) (fun b => .ret (R b)) (.ret (E (foldI nxt (bnd p.1 - p.2).toNat p.1 p.2))))
def boundF {X : Type} (n0 : Nat) (f : St → St) (T : X × Int → St) (get : St → Option (X × Int)) (bnd : X → Int) (ok : X → Int → Prop) (nxt : X → Int → X) (E : X → Ex × St) : LoopCon :=
  entry n0 f T get fun p =>
      .asrt (0 ≤ p.2 ∧ bnd p.1 ≤ maxI64 ∧ okI nxt (fun _ _ => (none : Option Unit)) ok (bnd p.1 - p.2).toNat p.1 p.2) (.ret (E (foldI nxt (bnd p.1 - p.2).toNat p.1 p.2)))
theorem bound_loop {C : Cfg} (G : GoodCfg C) {g l : Nat} (n n0 : Nat) (f e : St → St) (hf : ∀ σ, Weak n0 σ (f σ)) (he : ∀ σ, Weak n0 σ (e σ)) (hs : SubOf C.P g (.loop (loopAt C.P g l)))
    {X β : Type} (T : X × Int → St) (get : St → Option (X × Int)) (bnd : X → Int) (ok : X → Int → Prop) (nxt : X → Int → X) (brk : X → Int → Option β) (d : β) (R : β → Ex × St) (E : X → Ex × St)
    (hE : ∀ x, (E x).1 ≠ .normal) (hR : ∀ b, (R b).1 ≠ .normal) (hB : ∀ x i, bnd (nxt x i) = bnd x)
    (hround : ∀ x i, 0 ≤ i → i < bnd x → bnd x ≤ maxI64 → ok x i →
      Gets (roundN C n g (loopAt C.P g l) f e (T (x, i))) (match brk x i with | some b => R b | none => (.normal, T (nxt x i, i + 1))))
    (hend : ∀ x i, bnd x ≤ i → Gets (roundN C n g (loopAt C.P g l) f e (T (x, i))) (E x)) :
    SoundLoop C (loopAt C.P g l) (boundB n0 f T get bnd ok nxt brk d R E) := by
  refine loop_rule3 (C := C) (g := g) (l := l) G n n0 f e hf he hs T _ (fun p => (bnd p.1 - p.2).toNat) (fun p q h => ?_) entry_out
  obtain ⟨x, i⟩ := p
  obtain ⟨⟨h0, h2, h3⟩, h⟩ := Tree.out_asrt.1 h
  simp only at h0 h2 h3 h
  replace h := optT_out.1 h
  rcases Int.lt_or_le i (bnd x) with hlt | hle
  · have hk : (bnd x - i).toNat = (bnd x - (i + 1)).toNat + 1 := by omega
    rw [hk] at h h3
    have hg := hround x i h0 hlt h2 h3.1
    refine ⟨Tree.wp_of_out hg.out ?_⟩
    unfold brkI at h
    cases hb : brk x i with
    | some b =>
      simp only [hb] at h
      have h' : R b = q := h
      unfold Rnd
      split
      · rename_i hn; exact absurd hn (hR b)
      · rename_i ex hn; exact h'.symm
    | none =>
      simp only [hb] at h
      refine Rnd.go (m := fun p : X × Int => (bnd p.1 - p.2).toNat) (x := (x, i)) (nxt x i, i + 1) (by simp only [hB]; omega) ?_
      have h3' := h3.2 hb
      rw [← hB x i] at h h3' h2
      exact Tree.out_asrt.2 ⟨⟨(show 0 ≤ i + 1 by omega), h2, h3'⟩, optT_out.2 h⟩
  · have hk : (bnd x - i).toNat = 0 := by omega
    rw [hk] at h
    have h' : E x = q := h
    refine ⟨Tree.wp_of_out (hend x i hle).out ?_⟩
    unfold Rnd
    split
    · rename_i hn; exact absurd hn (hE x)
    · rename_i ex hn; exact h'.symm
theorem bound_fold {C : Cfg} (G : GoodCfg C) {g l : Nat} (n n0 : Nat) (f e : St → St) (hf : ∀ σ, Weak n0 σ (f σ)) (he : ∀ σ, Weak n0 σ (e σ)) (hs : SubOf C.P g (.loop (loopAt C.P g l)))
    {X : Type} (T : X × Int → St) (get : St → Option (X × Int)) (bnd : X → Int) (ok : X → Int → Prop) (nxt : X → Int → X) (E : X → Ex × St)
    (hE : ∀ x, (E x).1 ≠ .normal) (hB : ∀ x i, bnd (nxt x i) = bnd x)
    (hround : ∀ x i, 0 ≤ i → i < bnd x → bnd x ≤ maxI64 → ok x i → Gets (roundN C n g (loopAt C.P g l) f e (T (x, i))) (.normal, T (nxt x i, i + 1)))
    (hend : ∀ x i, bnd x ≤ i → Gets (roundN C n g (loopAt C.P g l) f e (T (x, i))) (E x)) :
    SoundLoop C (loopAt C.P g l) (boundF n0 f T get bnd ok nxt E) := by
  refine loop_rule3 (C := C) (g := g) (l := l) G n n0 f e hf he hs T _ (fun p => (bnd p.1 - p.2).toNat) (fun p q h => ?_) entry_out
  obtain ⟨x, i⟩ := p
  obtain ⟨⟨h0, h2, h3⟩, h⟩ := Tree.out_asrt.1 h
  simp only at h0 h2 h3 h
  rcases Int.lt_or_le i (bnd x) with hlt | hle
  · have hk : (bnd x - i).toNat = (bnd x - (i + 1)).toNat + 1 := by omega
    rw [hk] at h h3
    have hg := hround x i h0 hlt h2 h3.1
    refine ⟨Tree.wp_of_out hg.out ?_⟩
    refine Rnd.go (m := fun p : X × Int => (bnd p.1 - p.2).toNat) (x := (x, i)) (nxt x i, i + 1) (by simp only [hB]; omega) ?_
    have h3' := h3.2 rfl
    rw [← hB x i] at h h3' h2
    exact Tree.out_asrt.2 ⟨⟨(show 0 ≤ i + 1 by omega), h2, h3'⟩, h⟩
  · have hk : (bnd x - i).toNat = 0 := by omega
    rw [hk] at h
    have h' : E x = q := h
    refine ⟨Tree.wp_of_out (hend x i hle).out ?_⟩
    unfold Rnd
    split
    · rename_i hn; exact absurd hn (hE x)
    · rename_i ex hn; exact h'.symm

end Go.Fx
