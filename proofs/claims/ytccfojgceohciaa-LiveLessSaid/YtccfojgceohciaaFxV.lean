/- Loops by their rounds; configurations that grow. -/
import Derived.Test.YtccfojgceohciaaFxU
namespace Go.Fx
open Go Go.RowKit

/-! ### states that say less -/
/-- Where the one state stands for what is there, so does the other one. -/
def Weak (n0 : Nat) (σ σ' : St) : Prop :=
  ∀ w0 S we φe φ a w, (∀ id, n0 ≤ id → φe id = none) → RepS w0 S φ σ a w → After we S φe n0 σ.next w φ → ∃ φ', RepS w0 S φ' σ' a w ∧ After we S φe n0 σ'.next w φ'

theorem Weak.refl (n0 : Nat) (σ : St) : Weak n0 σ σ := fun _ _ _ _ φ _ _ _ h1 h2 => ⟨φ, h1, h2⟩
theorem Weak.trans {n0 : Nat} {σ σ' σ'' : St} (h : Weak n0 σ σ') (h' : Weak n0 σ' σ'') : Weak n0 σ σ'' := fun w0 S we φe φ a w hf h1 h2 =>
  let ⟨φ1, h3, h4⟩ := h w0 S we φe φ a w hf h1 h2
  h' w0 S we φe φ1 a w hf h3 h4

/-- How a slot may say less. -/
inductive Sh where
  | any
  | keep
  | int
  | bool
  | view (r : RTy)
def gen1 : Sh → AV → AV
  | .any, _ => .any
  | .keep, v => v
  | .int, .lit k n => .int k n
  | .int, v => v
  | .bool, .blit b => .bool b
  | .bool, v => v
  | .view r, .nils => .view r []
  | .view r, .lv n cs => match decRows r n cs with | some xs => .view r xs | none => .any
  | .view _, v => v
def gens : List Sh → List AV → List AV
  | s :: ss, v :: vs => gen1 s v :: gens ss vs
  | _, vs => vs

section
variable {w : World} {S : Nat → Prop} {φ : Env}
theorem gen1_reps (s : Sh) {a : AV} {v : Value} (h : Reps w S φ [a] [v]) : Reps w S φ [gen1 s a] [v] := by
  cases s with
  | any => exact .any _ .nil
  | keep => exact h
  | int => cases a <;> try exact h
           cases h; exact .int _ _ .nil
  | bool => cases a <;> try exact h
            cases h; exact .bool _ .nil
  | view r =>
    cases a <;> try exact h
    · cases h; exact .view0 _ _ rfl _ _ .nil
    · rename_i n cs
      simp only [gen1]
      cases hd : decRows r n cs with
      | none => exact .any _ .nil
      | some xs =>
        cases h with
        | lv0 a c =>
          unfold decRows at hd
          split at hd
          · cases hd; exact .view0 _ _ rfl _ _ .nil
          · cases hd
        | lv _ c h0 hs hc hr =>
          obtain ⟨h8, h9⟩ := decRows_reps hd hr
          subst h8
          exact .view _ _ _ h0 hs hc h9 .nil
theorem gens_reps : ∀ (ss : List Sh) {as : List AV} {vs : List Value}, Reps w S φ as vs → Reps w S φ (gens ss as) vs
  | [], as, vs, h => by cases as <;> exact h
  | s :: ss, [], vs, h => h
  | s :: ss, a :: as, vs, h => by
    obtain ⟨v, us, rfl, h1, h2⟩ := h.uncons
    exact Reps.cons (gen1_reps s h1) (gens_reps ss h2)
end

theorem Weak.gens (n0 : Nat) (ss : List Sh) (σ : St) : Weak n0 σ { σ with tmps := gens ss σ.tmps } :=
  fun _ _ _ _ φ _ _ _ h1 h2 => ⟨φ, ⟨gens_reps ss h1.tmps, h1.mem, h1.fresh, h1.defers⟩, h2⟩

/-- A block of cells says less. -/
def genBlk (b : Nat) (ss : List Sh) (σ : St) : St :=
  match σ.heap.get b with
  | some (.cells cs) => { σ with heap := σ.heap.put b (.cells (gens ss cs)) }
  | _ => σ
theorem Weak.genBlk (n0 b : Nat) (ss : List Sh) (σ : St) : Weak n0 σ (genBlk b ss σ) := by
  unfold Fx.genBlk
  split
  · rename_i cs hg
    intro w0 S we φe φ a w hf h1 h2
    refine ⟨φ, ⟨h1.tmps, ?_, h1.fresh, h1.defers⟩, h2⟩
    obtain ⟨B, cap, len, hb, B', us, e, rfl, h5, h6, h7⟩ := h1.mem.heap _ _ hg
    exact h1.mem.upd hb ⟨rfl, rfl, rfl, rfl, fun _ _ => rfl⟩ ⟨B', us, e, rfl, h5, h6, gens_reps ss h7⟩
  · exact Weak.refl _ _

/-- The nil slice in a slot is a slice of the call's own without elements. -/
def ownSlot (d : Nat) (r : RTy) (e : TypeId) (σ : St) : St :=
  match nth σ.tmps d with
  | .nils => { tmps := setNth σ.tmps d (.own σ.next), heap := σ.heap.ins σ.next (.rows r e []), next := σ.next + 1 }
  | _ => σ
theorem nil_own {w0 w : World} {S : Nat → Prop} {φ : Env} {h : Heap} (R : RepH w0 S φ h w) {g : Nat} (hg : φ g = none) (r : RTy) (e : TypeId) :
    RepH w0 S (movedE φ none g ⟨true, none, 0, 0⟩) (h.ins g (.rows r e [])) w ∧ Mono w S φ w S (movedE φ none g ⟨true, none, 0, 0⟩) := by
  have m : Moved w w φ none none := ⟨rfl, rfl, rfl, Nat.le_refl _, fun _ _ _ => rfl, fun _ h => by cases h⟩
  exact ⟨m.rep R hg ⟨rfl, [], ⟨by simp, .inl ⟨rfl, rfl⟩⟩, .nil, by simp⟩, m.mono hg⟩
theorem Weak.ownSlot (n0 d : Nat) (r : RTy) (e : TypeId) (σ : St) : Weak n0 σ (ownSlot d r e σ) := by
  unfold Fx.ownSlot
  split
  · rename_i hd
    intro w0 S we φe φ a w hf h1 h2
    have hg := h1.fresh σ.next (Nat.le_refl _)
    obtain ⟨R', m⟩ := nil_own h1.mem hg r e
    refine ⟨_, ⟨?_, R', fun id hid => movedE_none (by simp only at hid; omega) (h1.fresh id (by simp only at hid; omega)), h1.defers⟩, h2.trans ⟨m, fun id hid hnone => movedE_none (by omega) hnone, Nat.le_succ _⟩⟩
    obtain ⟨v, hv, hr⟩ := h1.tmps.get (nth_some hd (by simp))
    cases hr with
    | nils a0 =>
      have := (h1.tmps.mono m).setNth d (.own (b := σ.next) (v := .slice a0 0 0) ⟨_, updE_self _ _ _, ⟨a0, rfl⟩⟩ (.nil (w := w) (S := S)))
      have e' : a.tmps.toList.set d (.slice a0 0 0) = a.tmps.toList := by
        apply List.ext_getElem?
        intro j
        rw [List.getElem?_set]
        split
        · rename_i e; subst e; split
          · exact hv.symm
          · rename_i hlt; rw [List.getElem?_eq_none (by omega)]
        · rfl
      rwa [e'] at this
  · exact Weak.refl _ _
/-- So in a block of cells. -/
def ownCell (b d : Nat) (r : RTy) (e : TypeId) (σ : St) : St :=
  match σ.heap.get b with
  | some (.cells cs) => match nth cs d with
    | .nils => { σ with heap := (σ.heap.put b (.cells (setNth cs d (.own σ.next)))).ins σ.next (.rows r e []), next := σ.next + 1 }
    | _ => σ
  | _ => σ
theorem Weak.ownCell (n0 b d : Nat) (r : RTy) (e : TypeId) (σ : St) : Weak n0 σ (ownCell b d r e σ) := by
  unfold Fx.ownCell
  split
  · rename_i cs hg0
    split
    · rename_i hd
      intro w0 S we φe φ a w hf h1 h2
      have hg := h1.fresh σ.next (Nat.le_refl _)
      obtain ⟨R', m⟩ := nil_own h1.mem hg r e
      have hbne : b ≠ σ.next := by
        rintro rfl
        obtain ⟨_, _, _, h3, _⟩ := h1.mem.heap _ _ hg0
        rw [hg] at h3
        cases h3
      have hget : (σ.heap.ins σ.next (.rows r e [])).get b = some (.cells cs) := by rw [Heap.get_ins_ne _ hbne]; exact hg0
      refine ⟨_, ⟨h1.tmps.mono m, ?_, fun id hid => movedE_none (by simp only at hid; omega) (h1.fresh id (by simp only at hid; omega)), h1.defers⟩, h2.trans ⟨m, fun id hid hnone => movedE_none (by omega) hnone, Nat.le_succ _⟩⟩
      obtain ⟨B, cap, len, hb, B', us, e', rfl, h5, h6, h7⟩ := R'.heap _ _ hget
      have key := R'.upd hb (w' := w) (blk := .cells (setNth cs d (.own σ.next))) ⟨rfl, rfl, rfl, rfl, fun _ _ => rfl⟩ ⟨B', us, e', rfl, h5, h6, by
        obtain ⟨v, hv, hr⟩ := h7.get (nth_some hd (by simp))
        cases hr with
        | nils a0 =>
          have := h7.setNth d (.own (b := σ.next) (v := .slice a0 0 0) ⟨_, updE_self _ _ _, ⟨a0, rfl⟩⟩ (.nil (w := w) (S := S)))
          have e2 : us.toList.set d (.slice a0 0 0) = us.toList := by
            apply List.ext_getElem?
            intro j
            rw [List.getElem?_set]
            split
            · rename_i e; subst e; split
              · exact hv.symm
              · rename_i hlt; rw [List.getElem?_eq_none (by omega)]
            · rfl
          rwa [e2] at this⟩
      rwa [put_ins (Ne.symm hbne) _ _ _ (by rw [hg0]; rfl)] at key
    · exact Weak.refl _ _
  · exact Weak.refl _ _

/-! ### blocks that go on, under fixed numbers -/
def backF (n0 : Nat) (ks : List Nat) (b : Nat) : Option Nat :=
  match idxOf b ks with
  | some i => some (n0 + i)
  | none => bif Nat.blt b n0 then some b else none
def nodupN : List Nat → Bool
  | [] => true
  | k :: l => !(memNat k l) && nodupN l
def canon (n0 : Nat) (ks : List Nat) (σ : St) : St :=
  if nodupN ks && Nat.ble n0 σ.next then { tmps := AV.renL (backF n0 ks) σ.tmps, heap := σ.heap.ren (backF n0 ks), next := n0 + ks.length } else σ

theorem nodup_idx : ∀ {ks : List Nat} {i b : Nat}, nodupN ks = true → ks[i]? = some b → idxOf b ks = some i
  | [], _, _, _, h => by simp at h
  | k :: ks, i, b, hn, h => by
    simp only [nodupN, Bool.and_eq_true, Bool.not_eq_true'] at hn
    unfold idxOf
    cases i with
    | zero => simp at h; subst h; rw [beq_self]; rfl
    | succ i =>
      have h' : ks[i]? = some b := by simpa using h
      have hne : k ≠ b := by
        rintro rfl
        rw [(memNat_iff _ _).2 (List.mem_of_getElem? h')] at hn
        cases hn.1
      rw [beq_false hne, nodup_idx hn.2 h']
      rfl

theorem Weak.canon (n0 : Nat) (ks : List Nat) (σ : St) : Weak n0 σ (canon n0 ks σ) := by
  unfold Fx.canon
  split
  · rename_i hc
    simp only [Bool.and_eq_true, Nat.ble_eq] at hc
    obtain ⟨hnd, hle⟩ := hc
    intro w0 S we φe φ a w hf h1 h2
    let φ2 : Env := fun c => if c < n0 then (match idxOf c ks with | some _ => (φ c).map Slot.kill | none => φ c) else (ks[c - n0]?).bind φ
    have hd : ∀ b c, backF n0 ks b = some c → φ2 c = φ b := by
      intro b c hb
      unfold backF at hb
      split at hb
      · rename_i i hi
        cases hb
        have : ¬ n0 + i < n0 := by omega
        simp only [φ2, this, if_false, Nat.add_sub_cancel_left, idxOf_spec hi]
        rfl
      · rename_i hi
        rw [blt_iff] at hb
        by_cases hlt : b < n0
        · simp [hlt] at hb
          subst hb
          simp [φ2, hlt, hi]
        · simp [hlt] at hb
    have ho : ∀ c s, φ2 c = some s → s.alive = true → ∃ b, backF n0 ks b = some c := by
      intro c s hc hal
      simp only [φ2] at hc
      split at hc
      · rename_i hlt
        split at hc
        · cases hp : φ c with
          | none => simp [hp] at hc
          | some s' => simp [hp, Slot.kill] at hc; subst hc; cases hal
        · rename_i hi
          exact ⟨c, by simp [backF, hi, blt_iff, hlt]⟩
      · rename_i hlt
        cases hk : ks[c - n0]? with
        | none => simp [hk] at hc
        | some b =>
          refine ⟨b, ?_⟩
          unfold backF
          rw [nodup_idx hnd hk]
          simp only [Option.some.injEq]
          omega
    obtain ⟨R', hst⟩ := h1.mem.ren hd ho
    refine ⟨φ2, ⟨ren_reps hd hst h1.tmps, R', fun id hid => ?_, h1.defers⟩, ⟨⟨fun b s hb => ?_, fun B hB => ?_⟩, fun id hid hnone => ?_, Nat.le_add_right _ _⟩⟩
    · simp only at hid
      have h3 : ¬ id < n0 := by omega
      have h4 : ks[id - n0]? = none := List.getElem?_eq_none (by omega)
      simp [φ2, h3, h4]
    · have hlt : b < n0 := by
        rcases Nat.lt_or_ge b n0 with h3 | h3
        · exact h3
        · rw [hf b h3] at hb; cases hb
      simp only [φ2, hlt, if_true]
      split
      · rcases h2.mono.dom b s hb with h3 | h3
        · right; simp [h3]
        · right; simp [h3, Slot.kill]
      · exact h2.mono.dom b s hb
    · obtain ⟨h3, h4⟩ := h2.mono.stab B hB
      exact ⟨hst B h3, h4⟩
    · have h3 := h2.old id hid hnone
      simp only [φ2, hid, if_true]
      split
      · simp [h3]
      · exact h3
  · exact Weak.refl _ _

/-! ### loops -/
theorem loopN_le {P : Program} {c : Code} {Q : Exit → Act → World → Prop} : ∀ {n m : Nat} {a : Act} {w : World}, n ≤ m → LoopN P c Q n a w → LoopN P c Q m a w
  | 0, _, _, _, _, h => h.elim
  | n + 1, 0, _, _, hle, _ => absurd hle (by omega)
  | n + 1, m + 1, a, w, hle, h => wp_mono h fun e a' w' he => by
    cases e with
    | normal => exact loopN_le (by omega) he
    | _ => exact he

theorem loop_rule {C : Cfg} (G : GoodCfg C) {g n n0 : Nat} {body : Code} (hsub : SubOf C.P g body) {X : Type} (T : X → St) (Lx : X → Tree (Ex × St)) (m : X → Nat)
    (hstep : ∀ x r, (Lx x).Out r → ∃ r1, (exec C n g body (T x)).Out r1 ∧ match r1.1 with
      | .normal => ∃ x', Weak n0 r1.2 (T x') ∧ m x' < m x ∧ (Lx x').Out r
      | e => r.1 = e ∧ Weak n0 r1.2 r.2)
    {L : LoopCon} (hL : ∀ σ r, (L σ).Out r → σ.next = n0 ∧ ∃ x, Weak n0 σ (T x) ∧ (Lx x).Out r) : SoundLoop C body L := by
  intro w0 S φ σ a w Q RS h
  obtain ⟨r, hr, hF⟩ := Tree.wp_out.1 h
  obtain ⟨hn, x, hw, hx⟩ := hL σ r hr
  have hfr : ∀ id, n0 ≤ id → φ id = none := fun id hid => RS.fresh id (by omega)
  have start : After w S φ n0 σ.next w φ := by rw [hn]; exact After.refl _ _ _ _
  obtain ⟨φ1, RS1, A1⟩ := hw w0 S w φ φ a w hfr RS start
  have key : ∀ k x φ1 a1 w1, m x ≤ k → RepS w0 S φ1 (T x) a1 w1 → After w S φ n0 (T x).next w1 φ1 → (Lx x).Out r → LoopN C.P body Q (m x + 1) a1 w1 := by
    intro k
    induction k with
    | zero =>
      intro x φ1 a1 w1 hk RS1 A1 hx
      obtain ⟨r1, h1, h2⟩ := hstep x r hx
      refine (exec_sound G n).1 g body w0 S φ1 (T x) a1 w1 _ hsub RS1 (Tree.wp_of_out h1 fun a' w' φ' RS' A' => ?_)
      obtain ⟨e, σ1⟩ := r1
      cases e with
      | normal => obtain ⟨x', _, h4, _⟩ := h2; omega
      | _ =>
        obtain ⟨h3, h4⟩ := h2
        obtain ⟨φ2, RS2, A2⟩ := h4 w0 S w φ φ' a' w' hfr RS' (A1.trans A')
        have := hF a' w' φ2 RS2 (by rw [hn]; exact A2)
        rw [h3] at this
        exact this
    | succ k ih =>
      intro x φ1 a1 w1 hk RS1 A1 hx
      obtain ⟨r1, h1, h2⟩ := hstep x r hx
      refine (exec_sound G n).1 g body w0 S φ1 (T x) a1 w1 _ hsub RS1 (Tree.wp_of_out h1 fun a' w' φ' RS' A' => ?_)
      obtain ⟨e, σ1⟩ := r1
      cases e with
      | normal =>
        obtain ⟨x', h3, h4, h5⟩ := h2
        obtain ⟨φ2, RS2, A2⟩ := h3 w0 S w φ φ' a' w' hfr RS' (A1.trans A')
        exact loopN_le (by omega) (ih x' φ2 a' w' (by omega) RS2 A2 h5)
      | _ =>
        obtain ⟨h3, h4⟩ := h2
        obtain ⟨φ2, RS2, A2⟩ := h4 w0 S w φ φ' a' w' hfr RS' (A1.trans A')
        have := hF a' w' φ2 RS2 (by rw [hn]; exact A2)
        rw [h3] at this
        exact this
  exact loopN_sound (key _ x φ1 a w (Nat.le_refl _) RS1 A1 hx)

/-! ### where a loop stands -/
def loopsOf : Code → List Code
  | .seq a b => loopsOf a ++ loopsOf b
  | .cond _ a b => loopsOf a ++ loopsOf b
  | .block _ a => loopsOf a
  | .loop a => a :: loopsOf a
  | _ => []
theorem sub_loops {c b : Code} (h : Sub (.loop b) c) : b ∈ loopsOf c := by
  generalize hd : Code.loop b = d at h
  induction h with
  | refl => subst hd; simp [loopsOf]
  | seqL _ _ ih => simp [loopsOf, ih]
  | seqR _ _ ih => simp [loopsOf, ih]
  | condL _ _ _ ih => simp [loopsOf, ih]
  | condR _ _ _ ih => simp [loopsOf, ih]
  | block _ _ ih => simp [loopsOf, ih]
  | loop _ ih => simp [loopsOf, ih]
def bodyOf (P : Program) (g : Nat) : Code := match P.funcs[g]? with | some fn => fn.body.getD .skip | none => .skip
def loopAt (P : Program) (g l : Nat) : Code := ((loopsOf (bodyOf P g)).filter fun b => Nat.beq (firstRegion b) l).headD .skip
/-- The loop is the only one there. -/
def OneLoop (P : Program) (g l : Nat) : Prop := (loopsOf (bodyOf P g)).filter (fun b => Nat.beq (firstRegion b) l) = [loopAt P g l]
theorem loop_is {P : Program} {g l : Nat} (h : OneLoop P g l) {body : Code} (hs : SubOf P g (.loop body)) (hf : firstRegion body = l) : body = loopAt P g l := by
  obtain ⟨fn, b, h1, h2, h3⟩ := hs
  have hm : body ∈ (loopsOf (bodyOf P g)).filter fun b => Nat.beq (firstRegion b) l := by
    rw [List.mem_filter]
    refine ⟨?_, by simp [hf]⟩
    have : bodyOf P g = b := by simp [bodyOf, h1, h2]
    rw [this]
    exact sub_loops h3
  rw [h] at hm
  simpa using hm

/-! ### configurations -/
def Cfg.addCon (C : Cfg) (g : Nat) (c : Con) : Cfg := { C with con := (g, c) :: C.con }
def Cfg.addPcon (C : Cfg) (g : Nat) (f : List AV → Option AV) : Cfg := { C with pcon := (g, f) :: C.pcon }
def Cfg.addLoop (C : Cfg) (g l : Nat) (L : LoopCon) : Cfg := { C with loops := ((g, l), L) :: C.loops }
def noBlks (c : Con) : Prop := ∀ args r, (c args).Leaf r → r.2 = []
def Cfg.addQuiet (C : Cfg) (g : Nat) (c : Con) : Cfg := { C with con := (g, c) :: C.con, quiet := g :: C.quiet }

theorem GoodCfg.base {C : Cfg} (hm : C.P.follows .mixedOrders = true) (h1 : C.con = []) (h2 : C.pcon = []) (h3 : C.quiet = []) (h4 : C.loops = []) : GoodCfg C :=
  ⟨⟨hm, by rw [h1]; simp, by rw [h2]; simp⟩, ⟨by rw [h3]; intro f hf; cases hf⟩, by rw [h4]; intro g l L h; cases h⟩
theorem GoodCfg.addLoop {C : Cfg} (G : GoodCfg C) {g l : Nat} {L : LoopCon} (ho : OneLoop C.P g l) (h : SubOf C.P g (.loop (loopAt C.P g l)) → SoundLoop C (loopAt C.P g l) L) : GoodCfg (C.addLoop g l L) := by
  refine ⟨⟨G.ok.mixed, G.ok.con, G.ok.pcon⟩, ⟨G.quiet.quiet⟩, fun g' l' L' hf body hs hb => ?_⟩
  unfold Cfg.addLoop at hf
  simp only [findLoop] at hf
  by_cases hg : g = g'
  · by_cases hl : l = l'
    · subst hg hl
      simp at hf
      subst hf
      have := loop_is ho hs hb
      subst this
      exact h hs
    · rw [hg, beq_self, beq_false hl] at hf
      exact G.loops g' l' L' hf body hs hb
  · rw [beq_false hg] at hf
    exact G.loops g' l' L' hf body hs hb
theorem GoodCfg.addQuiet {C : Cfg} (G : GoodCfg C) {g : Nat} {c : Con} (h : ValidCon C.P g c) (hq : noBlks c) : GoodCfg (C.addQuiet g c) := by
  refine ⟨⟨G.ok.mixed, ?_, G.ok.pcon⟩, ⟨?_⟩, G.loops⟩
  · intro g' c' hm
    rcases List.mem_cons.1 hm with e | hm
    · cases e; exact h
    · exact G.ok.con g' c' hm
  · intro f hf
    simp only [Cfg.addQuiet, memNat, Bool.or_eq_true] at hf
    by_cases hg : g = f
    · subst hg
      exact .inr ⟨c, by simp [Cfg.addQuiet, findCon], hq⟩
    · rcases hf with hf | hf
      · simp at hf; exact absurd hf.symm hg
      · rcases G.quiet.quiet f hf with h1 | ⟨con, h1, h2⟩
        · exact .inl h1
        · exact .inr ⟨con, by simp only [Cfg.addQuiet, findCon, beq_false hg, cond_false]; exact h1, h2⟩
theorem GoodCfg.addCon {C : Cfg} (G : GoodCfg C) {g : Nat} {c : Con} (h : ValidCon C.P g c) (hq : memNat g C.quiet = false) : GoodCfg (C.addCon g c) := by
  refine ⟨⟨G.ok.mixed, ?_, G.ok.pcon⟩, ⟨?_⟩, G.loops⟩
  · intro g' c' hm
    rcases List.mem_cons.1 hm with e | hm
    · cases e; exact h
    · exact G.ok.con g' c' hm
  · intro f hf
    have hne : g ≠ f := by rintro rfl; simp only [Cfg.addCon] at hf; rw [hq] at hf; cases hf
    rcases G.quiet.quiet f hf with h1 | ⟨con, h1, h2⟩
    · exact .inl h1
    · exact .inr ⟨con, by simp only [Cfg.addCon, findCon, beq_false hne, cond_false]; exact h1, h2⟩
theorem GoodCfg.addPcon {C : Cfg} (G : GoodCfg C) {g : Nat} {f : List AV → Option AV} (h : ValidPcon C.P g f) : GoodCfg (C.addPcon g f) := by
  refine ⟨⟨G.ok.mixed, G.ok.con, ?_⟩, ⟨?_⟩, G.loops⟩
  · intro g' c' hm
    rcases List.mem_cons.1 hm with e | hm
    · cases e; exact h
    · exact G.ok.pcon g' c' hm
  · intro f' hf
    rcases G.quiet.quiet f' hf with h1 | h1
    · refine .inl ?_
      simp only [Cfg.addPcon, findPcon]
      by_cases hg : g = f'
      · subst hg; simp
      · rw [beq_false hg]; exact h1
    · exact .inr h1

end Go.Fx
