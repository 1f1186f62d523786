/- Loops over lists, and counted ones. -/
import Derived.Test.YtccfojgceohciaaFxX
namespace Go.Fx
open Go Go.RowKit

/-! ### over a list: a value that goes on, ways out, conditions -/
section
variable {X ρ β : Type}
def foldX (nxt : X → ρ → X) : X → List ρ → X
  | x, [] => x
  | x, r :: l => foldX nxt (nxt x r) l
def brkX (nxt : X → ρ → X) (brk : X → ρ → Option β) : X → List ρ → Option β
  | _, [] => none
  | x, r :: l => match brk x r with | some b => some b | none => brkX nxt brk (nxt x r) l
/-- The conditions, up to the way out. -/
def okX (nxt : X → ρ → X) (brk : X → ρ → Option β) (ok : X → ρ → Prop) : X → List ρ → Prop
  | _, [] => True
  | x, r :: l => ok x r ∧ (brk x r = none → okX nxt brk ok (nxt x r) l)
end

def maxI64 : Int := 9223372036854775807


/-- The loops' contracts. -/
def rangeB {r : RTy} {X β : Type} (n0 : Nat) (f : St → St) (T : List r.carrier × X × Int → St) (get : St → Option (List r.carrier × X × Int)) (ok : X → r.carrier → Prop) (nxt : X → r.carrier → X) (brk : X → r.carrier → Option β) (d : β) (R : List r.carrier → β → Ex × St) (E : List r.carrier → X → Ex × St) : LoopCon :=
  entry n0 f T get fun p =>
      .asrt (0 ≤ p.2.2 ∧ (p.1.length : Int) < maxI64 ∧ okX nxt brk ok p.2.1 (p.1.drop p.2.2.toNat))
        (optT d (brkX nxt brk p.2.1 (p.1.drop p.2.2.toNat)) (fun b => .ret (R p.1 b)) (.ret (E p.1 (foldX nxt p.2.1 (p.1.drop p.2.2.toNat)))))
def rangeF {r : RTy} {X : Type} (n0 : Nat) (f : St → St) (T : List r.carrier × X × Int → St) (get : St → Option (List r.carrier × X × Int)) (ok : X → r.carrier → Prop) (nxt : X → r.carrier → X) (E : List r.carrier → X → Ex × St) : LoopCon :=
  entry n0 f T get fun p =>
      .asrt (0 ≤ p.2.2 ∧ (p.1.length : Int) < maxI64 ∧ okX nxt (fun _ _ => (none : Option Unit)) ok p.2.1 (p.1.drop p.2.2.toNat))
        (.ret (E p.1 (foldX nxt p.2.1 (p.1.drop p.2.2.toNat))))
theorem range_loop {C : Cfg} (G : GoodCfg C) {g l : Nat} (n n0 : Nat) (f e : St → St) (hf : ∀ σ, Weak n0 σ (f σ)) (he : ∀ σ, Weak n0 σ (e σ)) (hs : SubOf C.P g (.loop (loopAt C.P g l)))
    (r : RTy) {X β : Type} (T : List r.carrier × X × Int → St) (get : St → Option (List r.carrier × X × Int)) (ok : X → r.carrier → Prop) (nxt : X → r.carrier → X) (brk : X → r.carrier → Option β) (d : β) (R : List r.carrier → β → Ex × St) (E : List r.carrier → X → Ex × St)
    (hE : ∀ xs x, (E xs x).1 ≠ .normal) (hR : ∀ xs b, (R xs b).1 ≠ .normal)
    (hround : ∀ xs x i, 0 ≤ i → i < (xs.length : Int) → (xs.length : Int) < maxI64 → ok x (rd r xs i) →
      Gets (roundN C n g (loopAt C.P g l) f e (T (xs, x, i))) (match brk x (rd r xs i) with | some b => R xs b | none => (.normal, T (xs, nxt x (rd r xs i), i + 1))))
    (hend : ∀ xs x i, (xs.length : Int) ≤ i → Gets (roundN C n g (loopAt C.P g l) f e (T (xs, x, i))) (E xs x)) :
    SoundLoop C (loopAt C.P g l) (rangeB n0 f T get ok nxt brk d R E) := by
  refine loop_rule3 (C := C) (g := g) (l := l) G n n0 f e hf he hs T _ (fun p => p.1.length - p.2.2.toNat) (fun p q h => ?_) entry_out
  obtain ⟨xs, x, i⟩ := p
  obtain ⟨⟨h0, h2, h3⟩, h⟩ := Tree.out_asrt.1 h
  simp only at h0 h2 h3 h
  replace h := optT_out.1 h
  rcases Int.lt_or_le i (xs.length : Int) with hlt | heq
  · rw [drop_rd h0 hlt] at h h3
    have hg := hround xs x i h0 hlt h2 h3.1
    refine ⟨Tree.wp_of_out hg.out ?_⟩
    unfold brkX at h
    cases hb : brk x (rd r xs i) with
    | some b =>
      simp only [hb] at h
      have h' : R xs b = q := h
      unfold Rnd
      split
      · rename_i hn; exact absurd hn (hR xs b)
      · rename_i ex hn; exact h'.symm
    | none =>
      simp only [hb] at h
      refine Rnd.go (m := fun p : List r.carrier × X × Int => p.1.length - p.2.2.toNat) (x := (xs, x, i)) (xs, nxt x (rd r xs i), i + 1) (show xs.length - (i + 1).toNat < xs.length - i.toNat by omega) ?_
      exact Tree.out_asrt.2 ⟨⟨(show 0 ≤ i + 1 by omega), h2, h3.2 hb⟩, optT_out.2 h⟩
  · rw [drop_end (by omega)] at h
    have h' : E xs x = q := h
    refine ⟨Tree.wp_of_out (hend xs x i heq).out ?_⟩
    unfold Rnd
    split
    · rename_i hn; exact absurd hn (hE xs x)
    · rename_i ex hn; exact h'.symm

/-- So without a way out. -/
theorem range_fold {C : Cfg} (G : GoodCfg C) {g l : Nat} (n n0 : Nat) (f e : St → St) (hf : ∀ σ, Weak n0 σ (f σ)) (he : ∀ σ, Weak n0 σ (e σ)) (hs : SubOf C.P g (.loop (loopAt C.P g l)))
    (r : RTy) {X : Type} (T : List r.carrier × X × Int → St) (get : St → Option (List r.carrier × X × Int)) (ok : X → r.carrier → Prop) (nxt : X → r.carrier → X) (E : List r.carrier → X → Ex × St)
    (hE : ∀ xs x, (E xs x).1 ≠ .normal)
    (hround : ∀ xs x i, 0 ≤ i → i < (xs.length : Int) → (xs.length : Int) < maxI64 → ok x (rd r xs i) →
      Gets (roundN C n g (loopAt C.P g l) f e (T (xs, x, i))) (.normal, T (xs, nxt x (rd r xs i), i + 1)))
    (hend : ∀ xs x i, (xs.length : Int) ≤ i → Gets (roundN C n g (loopAt C.P g l) f e (T (xs, x, i))) (E xs x)) :
    SoundLoop C (loopAt C.P g l) (rangeF n0 f T get ok nxt E) := by
  refine loop_rule3 (C := C) (g := g) (l := l) G n n0 f e hf he hs T _ (fun p => p.1.length - p.2.2.toNat) (fun p q h => ?_) entry_out
  obtain ⟨xs, x, i⟩ := p
  obtain ⟨⟨h0, h2, h3⟩, h⟩ := Tree.out_asrt.1 h
  simp only at h0 h2 h3 h
  rcases Int.lt_or_le i (xs.length : Int) with hlt | heq
  · rw [drop_rd h0 hlt] at h h3
    have hg := hround xs x i h0 hlt h2 h3.1
    refine ⟨Tree.wp_of_out hg.out ?_⟩
    refine Rnd.go (m := fun p : List r.carrier × X × Int => p.1.length - p.2.2.toNat) (x := (xs, x, i)) (xs, nxt x (rd r xs i), i + 1) (show xs.length - (i + 1).toNat < xs.length - i.toNat by omega) ?_
    exact Tree.out_asrt.2 ⟨⟨(show 0 ≤ i + 1 by omega), h2, h3.2 rfl⟩, h⟩
  · rw [drop_end (by omega)] at h
    have h' : E xs x = q := h
    refine ⟨Tree.wp_of_out (hend xs x i heq).out ?_⟩
    unfold Rnd
    split
    · rename_i hn; exact absurd hn (hE xs x)
    · rename_i ex hn; exact h'.symm

/-! ### counted -/
section
variable {X β : Type}
def foldI (nxt : X → Int → X) : Nat → X → Int → X
  | 0, x, _ => x
  | k + 1, x, i => foldI nxt k (nxt x i) (i + 1)
def brkI (nxt : X → Int → X) (brk : X → Int → Option β) : Nat → X → Int → Option β
  | 0, _, _ => none
  | k + 1, x, i => match brk x i with | some b => some b | none => brkI nxt brk k (nxt x i) (i + 1)
def okI (nxt : X → Int → X) (brk : X → Int → Option β) (ok : X → Int → Prop) : Nat → X → Int → Prop
  | 0, _, _ => True
  | k + 1, x, i => ok x i ∧ (brk x i = none → okI nxt brk ok k (nxt x i) (i + 1))
end

def countB {X β : Type} (n0 : Nat) (f : St → St) (T : Int × X × Int → St) (get : St → Option (Int × X × Int)) (ok : X → Int → Prop) (nxt : X → Int → X) (brk : X → Int → Option β) (d : β) (R : β → Ex × St) (E : X → Ex × St) : LoopCon :=
  entry n0 f T get fun p =>
      .asrt (0 ≤ p.2.2 ∧ p.1 ≤ maxI64 ∧ okI nxt brk ok (p.1 - p.2.2).toNat p.2.1 p.2.2)
        (optT d (brkI nxt brk (p.1 - p.2.2).toNat p.2.1 p.2.2) (fun b => .ret (R b)) (.ret (E (foldI nxt (p.1 - p.2.2).toNat p.2.1 p.2.2))))
def countF {X : Type} (n0 : Nat) (f : St → St) (T : Int × X × Int → St) (get : St → Option (Int × X × Int)) (ok : X → Int → Prop) (nxt : X → Int → X) (E : X → Ex × St) : LoopCon :=
  entry n0 f T get fun p =>
      .asrt (0 ≤ p.2.2 ∧ p.1 ≤ maxI64 ∧ okI nxt (fun _ _ => (none : Option Unit)) ok (p.1 - p.2.2).toNat p.2.1 p.2.2) (.ret (E (foldI nxt (p.1 - p.2.2).toNat p.2.1 p.2.2)))
theorem count_loop {C : Cfg} (G : GoodCfg C) {g l : Nat} (n n0 : Nat) (f e : St → St) (hf : ∀ σ, Weak n0 σ (f σ)) (he : ∀ σ, Weak n0 σ (e σ)) (hs : SubOf C.P g (.loop (loopAt C.P g l)))
    {X β : Type} (T : Int × X × Int → St) (get : St → Option (Int × X × Int)) (ok : X → Int → Prop) (nxt : X → Int → X) (brk : X → Int → Option β) (d : β) (R : β → Ex × St) (E : X → Ex × St)
    (hE : ∀ x, (E x).1 ≠ .normal) (hR : ∀ b, (R b).1 ≠ .normal)
    (hround : ∀ N x i, 0 ≤ i → i < N → N ≤ maxI64 → ok x i →
      Gets (roundN C n g (loopAt C.P g l) f e (T (N, x, i))) (match brk x i with | some b => R b | none => (.normal, T (N, nxt x i, i + 1))))
    (hend : ∀ N x i, N ≤ i → Gets (roundN C n g (loopAt C.P g l) f e (T (N, x, i))) (E x)) :
    SoundLoop C (loopAt C.P g l) (countB n0 f T get ok nxt brk d R E) := by
  refine loop_rule3 (C := C) (g := g) (l := l) G n n0 f e hf he hs T _ (fun p => (p.1 - p.2.2).toNat) (fun p q h => ?_) entry_out
  obtain ⟨N, x, i⟩ := p
  obtain ⟨⟨h0, h2, h3⟩, h⟩ := Tree.out_asrt.1 h
  simp only at h0 h2 h3 h
  replace h := optT_out.1 h
  rcases Int.lt_or_le i N with hlt | hle
  · have hk : (N - i).toNat = (N - (i + 1)).toNat + 1 := by omega
    rw [hk] at h h3
    have hg := hround N x i h0 hlt h2 h3.1
    refine ⟨Tree.wp_of_out hg.out ?_⟩
    unfold brkI at h
    cases hb : brk x i with
    | some b =>
      simp only [hb] at h
      have h' : R b = q := h
      unfold Rnd
      split
      · rename_i hn; exact absurd hn (hR b)
      · rename_i ex hn; exact h'.symm
    | none =>
      simp only [hb] at h
      refine Rnd.go (m := fun p : Int × X × Int => (p.1 - p.2.2).toNat) (x := (N, x, i)) (N, nxt x i, i + 1) (show (N - (i + 1)).toNat < (N - i).toNat by omega) ?_
      exact Tree.out_asrt.2 ⟨⟨(show 0 ≤ i + 1 by omega), h2, h3.2 hb⟩, optT_out.2 h⟩
  · have hk : (N - i).toNat = 0 := by omega
    rw [hk] at h
    have h' : E x = q := h
    refine ⟨Tree.wp_of_out (hend N x i hle).out ?_⟩
    unfold Rnd
    split
    · rename_i hn; exact absurd hn (hE x)
    · rename_i ex hn; exact h'.symm
theorem count_fold {C : Cfg} (G : GoodCfg C) {g l : Nat} (n n0 : Nat) (f e : St → St) (hf : ∀ σ, Weak n0 σ (f σ)) (he : ∀ σ, Weak n0 σ (e σ)) (hs : SubOf C.P g (.loop (loopAt C.P g l)))
    {X : Type} (T : Int × X × Int → St) (get : St → Option (Int × X × Int)) (ok : X → Int → Prop) (nxt : X → Int → X) (E : X → Ex × St)
    (hE : ∀ x, (E x).1 ≠ .normal)
    (hround : ∀ N x i, 0 ≤ i → i < N → N ≤ maxI64 → ok x i → Gets (roundN C n g (loopAt C.P g l) f e (T (N, x, i))) (.normal, T (N, nxt x i, i + 1)))
    (hend : ∀ N x i, N ≤ i → Gets (roundN C n g (loopAt C.P g l) f e (T (N, x, i))) (E x)) :
    SoundLoop C (loopAt C.P g l) (countF n0 f T get ok nxt E) := by
  refine loop_rule3 (C := C) (g := g) (l := l) G n n0 f e hf he hs T _ (fun p => (p.1 - p.2.2).toNat) (fun p q h => ?_) entry_out
  obtain ⟨N, x, i⟩ := p
  obtain ⟨⟨h0, h2, h3⟩, h⟩ := Tree.out_asrt.1 h
  simp only at h0 h2 h3 h
  rcases Int.lt_or_le i N with hlt | hle
  · have hk : (N - i).toNat = (N - (i + 1)).toNat + 1 := by omega
    rw [hk] at h h3
    have hg := hround N x i h0 hlt h2 h3.1
    refine ⟨Tree.wp_of_out hg.out ?_⟩
    refine Rnd.go (m := fun p : Int × X × Int => (p.1 - p.2.2).toNat) (x := (N, x, i)) (N, nxt x i, i + 1) (show (N - (i + 1)).toNat < (N - i).toNat by omega) ?_
    exact Tree.out_asrt.2 ⟨⟨(show 0 ≤ i + 1 by omega), h2, h3.2 rfl⟩, h⟩
  · have hk : (N - i).toNat = 0 := by omega
    rw [hk] at h
    have h' : E x = q := h
    refine ⟨Tree.wp_of_out (hend N x i hle).out ?_⟩
    unfold Rnd
    split
    · rename_i hn; exact absurd hn (hE x)
    · rename_i ex hn; exact h'.symm

/-! ### each row of a list is written anew, in its place -/
section
variable {r : RTy} {π : Type} (f : π → r.carrier → r.carrier) (g : π → r.carrier → π) (okE : π → r.carrier → Prop)
def nxtM (x : List r.carrier × π) (i : Int) : List r.carrier × π := (upd r x.1 i (f x.2 (rd r x.1 i)), g x.2 (rd r x.1 i))
def okM (x : List r.carrier × π) (i : Int) : Prop := i < x.1.length ∧ okE x.2 (rd r x.1 i)
variable {f g okE}
theorem rd_mid {pre : List r.carrier} {y : r.carrier} {l : List r.carrier} : rd r (pre ++ y :: l) pre.length = y := by
  simp [rd]
theorem upd_mid {pre : List r.carrier} {y z : r.carrier} {l : List r.carrier} : upd r (pre ++ y :: l) pre.length z = pre ++ z :: l := by
  simp [upd]
theorem upd_len (xs : List r.carrier) (i : Int) (z : r.carrier) : (upd r xs i z).length = xs.length := by simp [upd]
theorem upd_self {xs : List r.carrier} {i : Int} (h0 : 0 ≤ i) (h1 : i < xs.length) : upd r xs i (rd r xs i) = xs := by
  have hlt : i.toNat < xs.length := by omega
  simp [upd, rd, hlt]
theorem foldM_all (hf : ∀ a y z, f (g a y) z = f a z) (ho : ∀ a y z, okE a z → okE (g a y) z) : ∀ (l pre : List r.carrier) (a : π), (∀ y ∈ l, okE a y) →
    foldI (nxtM f g) l.length (pre ++ l, a) pre.length = (pre ++ l.map (f a), l.foldl g a) ∧ okI (nxtM f g) (fun _ _ => (none : Option Unit)) (okM okE) l.length (pre ++ l, a) pre.length
  | [], pre, a, _ => ⟨by simp [foldI], trivial⟩
  | y :: l, pre, a, h => by
    have e : nxtM f g (pre ++ y :: l, a) pre.length = ((pre ++ [f a y]) ++ l, g a y) := by
      unfold nxtM
      simp only
      rw [rd_mid, upd_mid]
      simp
    have el : (pre.length : Int) + 1 = ((pre ++ [f a y]).length : Int) := by simp
    obtain ⟨h1, h2⟩ := foldM_all hf ho l (pre ++ [f a y]) (g a y) (fun z hz => ho a y z (h z (List.mem_cons_of_mem _ hz)))
    refine ⟨?_, ⟨?_, ?_⟩, fun _ => ?_⟩
    · show foldI (nxtM f g) l.length (nxtM f g (pre ++ y :: l, a) pre.length) (pre.length + 1) = _
      rw [e, el, h1]
      simp only [List.append_assoc, List.singleton_append, List.map_cons, List.foldl_cons, Prod.mk.injEq, and_true]
      congr 2
      exact List.map_congr_left fun z _ => hf a y z
    · show (pre.length : Int) < ((pre ++ y :: l).length : Int)
      simp
      omega
    · show okE a (rd r (pre ++ y :: l) pre.length)
      rw [rd_mid]
      exact h y (by simp)
    · show okI (nxtM f g) _ (okM okE) l.length (nxtM f g (pre ++ y :: l, a) pre.length) (pre.length + 1)
      rw [e, el]
      exact h2
theorem foldM (hf : ∀ a y z, f (g a y) z = f a z) (ho : ∀ a y z, okE a z → okE (g a y) z) (l : List r.carrier) (a : π) (h : ∀ y ∈ l, okE a y) :
    foldI (nxtM f g) l.length (l, a) 0 = (l.map (f a), l.foldl g a) ∧ okI (nxtM f g) (fun _ _ => (none : Option Unit)) (okM okE) l.length (l, a) 0 := by
  simpa using foldM_all hf ho l [] a h
end

end Go.Fx
