/- Loops that carry blocks of their own. -/
import Derived.Test.YtccfojgceohciaaFxW
namespace Go.Fx
open Go Go.RowKit

/-- Where a block's number stands that goes on. -/
inductive Loc where
  | tmp (d : Nat)
  | cell (b off : Nat)
def Loc.ids (σ : St) : Loc → List Nat
  | .tmp d => (nth σ.tmps d).ids
  | .cell b off => match σ.heap.get b with | some (.cells cs) => (nth cs off).ids | _ => []
theorem Weak.keep (n0 : Nat) (ids : List Nat) (σ : St) : Weak n0 σ { σ with heap := σ.heap.keep ids } :=
  fun _ _ _ _ φ _ _ _ h1 h2 => ⟨φ, ⟨h1.tmps, ⟨h1.mem.heap.sub fun b x hb => keep_get ids b x _ hb, h1.mem.inj, h1.mem.rng, h1.mem.below, h1.mem.sb⟩, h1.fresh, h1.defers⟩, h2⟩
/-- A state made ready for a loop: some slots of nil slices made own, blocks under fixed numbers, junk aside. -/
def norm2 (n0 : Nat) (ls : List Loc) (hs : List Nat) (ss : List Sh) (σ : St) : St :=
  let σ := canon n0 (ls.flatMap (Loc.ids σ)) σ
  ⟨gens ss σ.tmps, σ.heap.keep hs, σ.next⟩
theorem Weak.norm2 (n0 : Nat) (ls : List Loc) (hs : List Nat) (ss : List Sh) (σ : St) : Weak n0 σ (norm2 n0 ls hs ss σ) :=
  ((Weak.canon n0 (ls.flatMap (Loc.ids σ)) σ).trans (Weak.keep n0 hs _)).trans (Weak.gens n0 ss _)

/-- A round, by ways to make states ready. -/
def roundN (C : Cfg) (n g : Nat) (body : Code) (f e : St → St) (σ : St) : Tree (Ex × St) :=
  (exec C n g body σ).bind fun r => match r.1 with
    | .normal => .ret (.normal, f r.2)
    | x => .ret (x, e r.2)
theorem loop_rule3 {C : Cfg} (G : GoodCfg C) {g l : Nat} (n n0 : Nat) (f e : St → St) (hf : ∀ σ, Weak n0 σ (f σ)) (he : ∀ σ, Weak n0 σ (e σ)) (hs : SubOf C.P g (.loop (loopAt C.P g l))) {X : Type} (T : X → St) (Lx : X → Tree (Ex × St)) (m : X → Nat)
    (hstep : ∀ x r, (Lx x).Out r → Holds (roundN C n g (loopAt C.P g l) f e (T x)) (Rnd T m Lx x r))
    {L : LoopCon} (hL : ∀ σ r, (L σ).Out r → σ.next = n0 ∧ ∃ x, f σ = T x ∧ (Lx x).Out r) : SoundLoop C (loopAt C.P g l) L := by
  refine loop_rule G (subOf_of hs) T Lx m (n := n) (n0 := n0) (fun x r hr => ?_) (fun σ r hr => ?_)
  · have h := (hstep x r hr).wp
    unfold roundN at h
    rw [Tree.wp_bind] at h
    obtain ⟨r1, h1, h2⟩ := Tree.wp_out.1 h
    refine ⟨r1, h1, ?_⟩
    obtain ⟨x1, σ1⟩ := r1
    cases x1 with
    | normal =>
      obtain ⟨x', h3, h4, h5⟩ := h2
      exact ⟨x', h3 ▸ hf σ1, h4, h5⟩
    | _ => have h2' : r = _ := h2; subst h2'; exact ⟨rfl, he σ1⟩
  · obtain ⟨h1, x, h2, h3⟩ := hL σ r hr
    exact ⟨h1, x, h2 ▸ hf σ, h3⟩

/-- A loop's contract, from what stands in the slots at its head. -/
def entry {X : Type} (n0 : Nat) (f : St → St) (T : X → St) (get : St → Option X) (Lx : X → Tree (Ex × St)) : LoopCon := fun σ =>
  match get (f σ) with
  | some x => .asrt (σ.next = n0 ∧ f σ = T x) (Lx x)
  | none => .fail
theorem entry_out {X : Type} {n0 : Nat} {f : St → St} {T : X → St} {get : St → Option X} {Lx : X → Tree (Ex × St)} (σ : St) (r : Ex × St) (h : (entry n0 f T get Lx σ).Out r) : σ.next = n0 ∧ ∃ x, f σ = T x ∧ (Lx x).Out r := by
  unfold entry at h
  split at h
  · exact ⟨h.1.1, _, h.1.2, h.2⟩
  · exact h.elim

end Go.Fx
