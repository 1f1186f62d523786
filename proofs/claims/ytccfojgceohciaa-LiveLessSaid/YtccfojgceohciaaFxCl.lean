/- slices.Clone: the one function that asks of a slice whether it is nil. -/
import Derived.Test.YtccfojgceohciaaFxY
namespace Go.Fx
open Go Go.RowKit

section
variable {C : Cfg} {w0 w : World} {S : Nat → Prop} {φ : Env}

/-- Two operations: a slice is taken, and asked whether it is nil. -/
theorem nil_region {tq : Nat} {m q : Oper} {t tm t' : TypeId} {σ : St} {a : Act} {Q : Exit → Act → World → Prop} {r : RTy} {xs : List r.carrier} {rest : List AV}
    (hm : m.op = .move (.tmp 0)) (hmd : m.dst = some 3) (hmg : m.guard = none) (hq : q.op = .binOp .eql t (.tmp 3) (.const (.slice none 0 0)) t') (hqd : q.dst = some 4) (hqg : q.guard = none)
    (ht : C.P.underlying t = some (.slice tm)) (RS : RepS w0 S φ σ a w) (hσ : σ.tmps = .view r xs :: rest) (h3 : 3 < σ.tmps.length)
    (h : ∀ b v, Reps w S φ [.view r xs] [v] → (b = true → ∃ c, v = .slice none 0 c ∧ xs = []) → Q .normal ((a.put (some 3) v).put (some 4) (.bool b)) w) : (Code.region tq #[m, q] false).wp C.P Q a w := by
  refine wp_region ?_
  have e0 := RS.tmps
  rw [hσ] at e0
  obtain ⟨v, us, hv, hr, hus⟩ := e0.uncons
  have hv0 : a.tmps[0]? = some v := by
    rw [← Array.getElem?_toList, hv]; rfl
  have hlen : σ.tmps.length = a.tmps.size := by
    have := RS.tmps.len; simpa using this
  have hev0 : a.eval (.tmp 0) = v := by simp [Act.eval, hv0]
  show wpOps C.P #[m, q] Q [0, 1] a w
  rw [wpOps_cons]
  unfold wpOp
  have hi0 : (#[m, q] : Array Oper)[0]? = some m := rfl
  have hw0 : ∀ y, Region.wanted m y = true := fun y => by simp [Region.wanted, hmg]
  simp only [hi0, hw0, if_true]
  refine .inl ?_
  have e1 : execOp a.eval m = pure (.value v) := by simp [execOp, hm, hev0]
  unfold Oper.wp
  rw [e1]
  simp only [Sem.run_pure, Oper.upon_value, hmd]
  rw [wpOps_cons]
  unfold wpOp
  have hi1 : (#[m, q] : Array Oper)[1]? = some q := rfl
  have hw1 : ∀ y, Region.wanted q y = true := fun y => by simp [Region.wanted, hqg]
  simp only [hi1, hw1, if_true]
  refine .inl ?_
  have hev3 : (a.put (some 3) v).eval (.tmp 3) = v := by
    have : 3 < a.tmps.size := by omega
    simp [Act.eval, Act.put, this]
  have hevc : (a.put (some 3) v).eval (.const (.slice none 0 0)) = .slice none 0 0 := rfl
  obtain ⟨ad, len, cap, rfl⟩ : ∃ ad len cap, v = .slice ad len cap := by
    cases hr with
    | view0 => exact ⟨_, _, _, rfl⟩
    | view => exact ⟨_, _, _, rfl⟩
  have hg : (eqGuard .eql t (.tmp 3) (.const (.slice none 0 0)) (.slice ad len cap) (.slice none 0 0)).run C.P w = .ok () w := by simp [eqGuard]
  have hb : (Go.binOp .eql t (.slice ad len cap) (.slice none 0 0)).run C.P w = .ok (.bool ad.isNone) w := by
    have key : ∀ m, (Op.equalIn (m + 1) t (.slice ad len cap) (.slice none 0 0)).run C.P w = .ok ad.isNone w := by
      intro m
      cases ad <;> simp [Op.equalIn, und_run ht]
    have k2 := key 9999
    simp only [Go.binOp, Op.equal, Op.maxDepth]
    rw [Sem.run_bind, k2]
    simp
  have e2 : execOp (a.put (some 3) (.slice ad len cap)).eval q = (do pure (.value (← binSem .eql t (.tmp 3) (.const (.slice none 0 0)) (.slice ad len cap) (.slice none 0 0)))) := by
    simp [execOp, hq, binSem, hev3, hevc]
  have e3 : (binSem .eql t (.tmp 3) (.const (.slice none 0 0)) (.slice ad len cap) (.slice none 0 0)).run C.P w = .ok (.bool ad.isNone) w := by
    unfold binSem
    rw [Sem.run_bind, hg]
    simp only [Result.andThen_ok, hb]
  unfold Oper.wp
  rw [e2, Sem.run_bind, e3]
  simp only [Result.andThen_ok, Sem.run_pure, Oper.upon_value, hqd]
  refine h _ _ hr fun hnil => ?_
  cases hr with
  | view0 _ _ hx _ _ _ => cases ad with
    | none => exact ⟨_, rfl, hx⟩
    | some x => simp at hnil
  | view => simp at hnil
end

/-- The function's code. -/
def cloneBody (o0 : Array Oper) (m q : Oper) (o2 o3 : Array Oper) : Code :=
  (Code.region 0 o0 false).seq (((Code.region 1 #[m, q] false).seq (.cond (.tmp 4) ((Code.region 2 o2 false).seq .ret) .skip)).seq ((Code.region 3 o3 false).seq .ret))
/-- States on the way: the slice, what is handed on, the copy, the question's answer. -/
def cl0 (r : RTy) (xs : List r.carrier) : List AV := [.view r xs, .any, .any, .any, .any, .any, .any, .any]
def cl1 (r : RTy) (xs : List r.carrier) : List AV := [.view r xs, .any, .nils, .any, .any, .any, .any, .any]
def cl2 (r : RTy) (xs : List r.carrier) (b : Bool) : List AV := [.view r xs, .any, .nils, .view r xs, .blit b, .any, .any, .any]
/-- What it comes to: a copy of the call's own. -/
def clEnd (r : RTy) (e : TypeId) (xs : List r.carrier) : St := ⟨[.any, .any, .own 0, .any, .any, .any, .any, .any], [(0, .rows r e xs)], 1⟩
def cloneRun (g : Nat) (body : Code) (r : RTy) (e : TypeId) (bound : List r.carrier → Prop) : Run := fun g' c σ =>
  match castView r (nth σ.tmps 0) with
  | some xs => .asrt (g' = g ∧ c = body ∧ σ = ⟨cl0 r xs, [], 0⟩ ∧ bound xs) (.ret (.ret, clEnd r e xs))
  | none => .fail

theorem cloneRun_sound {C : Cfg} (G : GoodCfg C) {g n : Nat} {o0 : Array Oper} {m q : Oper} {o2 o3 : Array Oper} {t tm t' e : TypeId} {r : RTy} {bound : List r.carrier → Prop}
    (hm : m.op = .move (.tmp 0)) (hmd : m.dst = some 3) (hmg : m.guard = none) (hq : q.op = .binOp .eql t (.tmp 3) (.const (.slice none 0 0)) t') (hqd : q.dst = some 4) (hqg : q.guard = none)
    (ht : C.P.underlying t = some (.slice tm))
    (h0 : ∀ xs, Gets (exec C n g (Code.region 0 o0 false) ⟨cl0 r xs, [], 0⟩) (.normal, ⟨cl1 r xs, [], 0⟩))
    (h2 : ∀ xs, ∃ σ, Gets (exec C n g ((Code.region 2 o2 false).seq .ret) ⟨cl2 r xs true, [], 0⟩) (.ret, σ) ∧ (xs = [] → Weak 0 σ (clEnd r e xs)))
    (h3 : ∀ xs, bound xs → ∃ σ, Gets (exec C n g ((Code.region 3 o3 false).seq .ret) ⟨cl2 r xs false, [], 0⟩) (.ret, σ) ∧ Weak 0 σ (clEnd r e xs)) :
    SoundRun C (cloneRun g (cloneBody o0 m q o2 o3) r e bound) := by
  intro g' c w0 S φ σ a w Q hsub RS h
  unfold cloneRun at h
  split at h
  · rename_i xs hxs
    obtain ⟨⟨rfl, rfl, rfl, hbd⟩, h⟩ := h
    have hf0 : ∀ id, 0 ≤ id → φ id = none := fun id hid => RS.fresh id hid
    have s0 : SubOf C.P g' (Code.region 0 o0 false) := hsub.sub (.seqL _ (.refl _))
    have s2 : SubOf C.P g' ((Code.region 2 o2 false).seq .ret) := hsub.sub (.seqR _ (.seqL _ (.seqR _ (.condL _ _ (.refl _)))))
    have s3 : SubOf C.P g' ((Code.region 3 o3 false).seq .ret) := hsub.sub (.seqR _ (.seqR _ (.refl _)))
    have fin : ∀ {σ' : St} {a' : Act} {w' : World} {φ' : Env}, Weak 0 σ' (clEnd r e xs) → RepS w0 S φ' σ' a' w' → After w S φ 0 σ'.next w' φ' → Q .ret a' w' := by
      intro σ' a' w' φ' hw RS' A'
      obtain ⟨φ2, RS2, A2⟩ := hw w0 S w φ φ' a' w' hf0 RS' A'
      exact h a' w' φ2 RS2 A2
    refine wp_seq ((exec_sound G n).1 g' _ w0 S φ _ a w _ s0 RS (Tree.wp_of_out (h0 xs).out fun a1 w1 φ1 RS1 A1 => ?_))
    refine wp_seq (wp_seq (nil_region hm hmd hmg hq hqd hqg ht RS1 (r := r) (xs := xs) rfl (by simp [cl1]) fun b v hv hb => ?_))
    have hlen1 : a1.tmps.size = 8 := by have := RS1.tmps.len; simpa [cl1] using this.symm
    have RS2 : RepS w0 S φ1 ⟨cl2 r xs b, [], 0⟩ ((a1.put (some 3) v).put (some 4) (.bool b)) w1 := by
      refine ⟨?_, RS1.mem, RS1.fresh, put_defers (put_defers RS1.defers _ _) _ _⟩
      exact putT_reps (ts := setNth (cl1 r xs) 3 (.view r xs)) (putT_reps RS1.tmps (some 3) hv) (some 4) (.blit b .nil)
    have he : ((a1.put (some 3) v).put (some 4) (.bool b)).eval (.tmp 4) = .bool b := by
      simp [Act.eval, Act.put, hlen1]
    cases b with
    | true =>
      obtain ⟨_, _, hx⟩ := hb rfl
      obtain ⟨σ', k1, k2⟩ := h2 xs
      refine wp_cond_true he ((exec_sound G n).1 g' _ w0 S φ1 _ _ w1 _ s2 RS2 (Tree.wp_of_out k1.out fun a2 w2 φ2 RS3 A2 => ?_))
      exact fin (k2 hx) RS3 (A1.trans A2)
    | false =>
      obtain ⟨σ', k1, k2⟩ := h3 xs hbd
      refine wp_cond_false he (wp_skip ?_)
      exact (exec_sound G n).1 g' _ w0 S φ1 _ _ w1 _ s3 RS2 (Tree.wp_of_out k1.out fun a2 w2 φ2 RS3 A2 => fin k2 RS3 (A1.trans A2))
  · exact h.elim

/-- The contract: a copy. -/
theorem clone_valid {C : Cfg} {g : Nat} {body : Code} {r : RTy} {e : TypeId} {bound : List r.carrier → Prop} (hs : SoundRun C (cloneRun g body r e bound)) (he : entersB C.P g = true)
    (h : ∀ xs, bound xs → Gets (callR C (cloneRun g body r e bound) g [.view r xs]) (.own 0, [.rows r e xs])) : ValidCon C.P g (resCon (d1 (dView r)) bound fun xs => (.own 0, [.rows r e xs])) := by
  refine con_of_run hs (enters_of he) fun args r' hr => ?_
  unfold resCon at hr
  split at hr
  · rename_i xs hxs
    obtain ⟨h1, h2⟩ := hr
    cases h2
    exact ⟨_, (h xs h1).out, fun w S φ vals hv => ((d1 (dView r)).ok _ _ hxs).reps hv⟩
  · exact hr.elim

/-! the parts of the function's code -/
def seqL : Code → Code
  | .seq a _ => a
  | c => c
def seqR : Code → Code
  | .seq _ b => b
  | c => c
def condL : Code → Code
  | .cond _ a _ => a
  | c => c
def regOps : Code → Array Oper
  | .region _ ops _ => ops
  | _ => #[]
def opNo (ops : Array Oper) (i : Nat) : Oper := (ops.toList.drop i).headD { dst := none, op := .move (.tmp 0), type := 0, pos := "", after := #[], guard := none }
def clO0 (b : Code) : Array Oper := regOps (seqL b)
def clO1 (b : Code) : Array Oper := regOps (seqL (seqL (seqR b)))
def clO2 (b : Code) : Array Oper := regOps (seqL (condL (seqR (seqL (seqR b)))))
def clO3 (b : Code) : Array Oper := regOps (seqL (seqR (seqR b)))
def clB (b : Code) : Code := cloneBody (clO0 b) (opNo (clO1 b) 0) (opNo (clO1 b) 1) (clO2 b) (clO3 b)

/-- Code that returns, its last state made ready. -/
theorem round_ret {C : Cfg} {n g n0 : Nat} {c : Code} {f e : St → St} {σ σ' : St} {p : Prop} (hw : ∀ σ, Weak n0 σ (e σ)) (h : roundN C n g c f e σ = .asrt p (.ret (.ret, σ'))) (hp : p) : ∃ σ1, Gets (exec C n g c σ) (.ret, σ1) ∧ Weak n0 σ1 σ' := by
  have ho : (roundN C n g c f e σ).wp (fun x => x = (Ex.ret, σ')) := by rw [h]; exact ⟨hp, rfl⟩
  unfold roundN at ho
  rw [Tree.wp_bind] at ho
  obtain ⟨⟨x, σ1⟩, k1, k2⟩ := Tree.wp_out.1 ho
  cases x with
  | ret =>
    have k3 : (Ex.ret, e σ1) = (Ex.ret, σ') := k2
    refine ⟨σ1, ⟨k1⟩, ?_⟩
    have k4 : e σ1 = σ' := congrArg Prod.snd k3
    rw [← k4]
    exact hw σ1
  | normal => have k3 := congrArg Prod.fst (k2 : (Ex.normal, _) = (Ex.ret, _)); cases k3
  | exit i => have k3 := congrArg Prod.fst (k2 : (Ex.exit i, _) = (Ex.ret, _)); cases k3
  | goto i => have k3 := congrArg Prod.fst (k2 : (Ex.goto i, _) = (Ex.ret, _)); cases k3

end Go.Fx
