import Derived.Test.YtgefkgmfbmdooaaGreatFx4
import Derived.ChangeOld
import Derived.ProofKit
import Derived.OpenShut
import Derived.ShutString
import Derived.Below
import Derived.SizedLaws
import Derived.RangeFuncFrom
import Derived.RangeFuncLeaves
namespace Go.Fx
open Go Go.RowKit
def Weak (n0:Nat) (σ σ':St):Prop :=
  ∀ w0 S we φe φ a w,(∀ id,n0≤id→φe id = none)→RepS w0 S φ σ a w→After we S φe n0 σ.next w φ→∃ φ',RepS w0 S φ' σ' a w∧After we S φe n0 σ'.next w φ'
theorem Weak.refl (n0:Nat) (σ:St):Weak n0 σ σ:=fun _ _ _ _ φ _ _ _ h1 h2=>⟨φ,h1,h2⟩
theorem Weak.trans {n0:Nat} {σ σ' σ'':St} (h:Weak n0 σ σ') (h':Weak n0 σ' σ''):Weak n0 σ σ'':=fun w0 S we φe φ a w hf h1 h2 =>
  let ⟨φ1,h3,h4⟩:=h w0 S we φe φ a w hf h1 h2
  h' w0 S we φe φ1 a w hf h3 h4
inductive Sh where
  | any
  | keep
  | int
  | bool
  | view (r:RTy)
def gen1:Sh→AV→AV
  | .any,_=>.any
  | .keep,v=>v
  | .int,.lit k n=>.int k n
  | .int,v=>v
  | .bool,.blit b=>.bool b
  | .bool,v=>v
  | .view r,.nils=>.view r []
  | .view r,.lv n cs=>match decRows r n cs with | some xs=>.view r xs | none=>.any
  | .view _,v=>v
def gens:List Sh→List AV→List AV
  | s :: ss,v :: vs=>gen1 s v :: gens ss vs
  | _,vs=>vs
section
variable {w:World} {S:Nat→Prop} {φ:Env}
theorem gen1_reps (s:Sh) {a:AV} {v:Value} (h:Reps w S φ [a] [v]):Reps w S φ [gen1 s a] [v]:=by
  cases s with
  | any=>exact .any _ .nil
  | keep=>exact h
  | int => cases a <;> try exact h
           cases h; exact .int _ _ .nil
  | bool => cases a <;> try exact h
            cases h; exact .bool _ .nil
  | view r =>
    cases a <;> try exact h
    · cases h; exact .view0 _ _ rfl _ _ .nil
    · rename_i n cs
      simp only [gen1]
      cases hd:decRows r n cs with
      | none=>exact .any _ .nil
      | some xs =>
        cases h with
        | lv0 a c =>
          unfold decRows at hd
          split at hd
          · cases hd; exact .view0 _ _ rfl _ _ .nil
          · cases hd
        | lv _ c h0 hs hc hr =>
          obtain ⟨h8,h9⟩:=decRows_reps hd hr
          subst h8
          exact .view _ _ _ h0 hs hc h9 .nil
theorem gens_reps:∀ (ss:List Sh) {as:List AV} {vs:List Value},Reps w S φ as vs→Reps w S φ (gens ss as) vs
  | [],as,vs,h=>by cases as <;> exact h
  | s :: ss,[],vs,h=>h
  | s :: ss,a :: as,vs,h=>by
    obtain ⟨v,us,rfl,h1,h2⟩:=h.uncons
    exact Reps.cons (gen1_reps s h1) (gens_reps ss h2)
end
theorem Weak.gens (n0:Nat) (ss:List Sh) (σ:St):Weak n0 σ { σ with tmps:=gens ss σ.tmps } :=
  fun _ _ _ _ φ _ _ _ h1 h2=>⟨φ,⟨gens_reps ss h1.tmps,h1.mem,h1.fresh,h1.defers⟩,h2⟩
def genBlk (b:Nat) (ss:List Sh) (σ:St):St :=
  match σ.heap.get b with
  | some (.cells cs)=>{ σ with heap:=σ.heap.put b (.cells (gens ss cs)) }
  | _=>σ
theorem Weak.genBlk (n0 b:Nat) (ss:List Sh) (σ:St):Weak n0 σ (genBlk b ss σ):=by
  unfold Fx.genBlk
  split
  · rename_i cs hg
    intro w0 S we φe φ a w hf h1 h2
    refine ⟨φ,⟨h1.tmps,?_,h1.fresh,h1.defers⟩,h2⟩
    obtain ⟨B,cap,len,hb,B',us,e,rfl,h5,h6,h7⟩:=h1.mem.heap _ _ hg
    exact h1.mem.upd hb ⟨rfl,rfl,rfl,rfl,fun _ _=>rfl⟩ ⟨B',us,e,rfl,h5,h6,gens_reps ss h7⟩
  · exact Weak.refl _ _
def ownSlot (d:Nat) (r:RTy) (e:TypeId) (σ:St):St :=
  match nth σ.tmps d with
  | .nils=>{ tmps:=setNth σ.tmps d (.own σ.next),heap:=σ.heap.ins σ.next (.rows r e []),next:=σ.next + 1 }
  | _=>σ
theorem nil_own {w0 w : World} {S : Nat → Prop} {φ : Env} {h : Heap} (R : RepH w0 S φ h w) {g : Nat} (hg : φ g = none) (r : RTy) (e : TypeId) :
    RepH w0 S (movedE φ none g ⟨true,none,0,0⟩) (h.ins g (.rows r e [])) w∧Mono w S φ w S (movedE φ none g ⟨true,none,0,0⟩):=by
  have m:Moved w w φ none none:=⟨rfl,rfl,rfl,fun _ _ _ _=>rfl,fun _ h=>by cases h⟩
  exact ⟨m.rep R hg ⟨rfl,[],⟨by simp,.inl ⟨rfl,rfl⟩⟩,.nil,by simp⟩,m.mono hg⟩
theorem Weak.ownSlot (n0 d:Nat) (r:RTy) (e:TypeId) (σ:St):Weak n0 σ (ownSlot d r e σ):=by
  unfold Fx.ownSlot
  split
  · rename_i hd
    intro w0 S we φe φ a w hf h1 h2
    have hg:=h1.fresh σ.next (Nat.le_refl _)
    obtain ⟨R',m⟩:=nil_own h1.mem hg r e
    refine ⟨_,⟨?_,R',fun id hid=>movedE_none (by simp only at hid; omega) (h1.fresh id (by simp only at hid; omega)),h1.defers⟩,h2.trans ⟨m,fun id hid hnone=>movedE_none (by omega) hnone,Nat.le_succ _⟩⟩
    obtain ⟨v,hv,hr⟩:=h1.tmps.get (nth_some hd (by simp))
    cases hr with
    | nils a0 =>
      have:=(h1.tmps.mono m).setNth d (.own (b:=σ.next) (v:=.slice a0 0 0) ⟨_,updE_self _ _ _,⟨a0,rfl⟩⟩ (.nil (w:=w) (S:=S)))
      have e':a.tmps.toList.set d (.slice a0 0 0) = a.tmps.toList:=by
        apply List.ext_getElem?
        intro j
        rw [List.getElem?_set]
        split
        · rename_i e; subst e; split
          · exact hv.symm
          · rename_i hlt; rw [List.getElem?_eq_none (by omega)]
        · rfl
      rwa [e'] at this
  · exact Weak.refl _ _
def backF (n0:Nat) (ks:List Nat) (b:Nat):Option Nat :=
  match idxOf b ks with
  | some i=>some (n0 + i)
  | none=>bif Nat.blt b n0 then some b else none
def nodupN:List Nat→Bool
  | []=>true
  | k :: l=>!(memNat k l) && nodupN l
def canon (n0:Nat) (ks:List Nat) (σ:St):St :=
  if nodupN ks && Nat.ble n0 σ.next then { tmps:=AV.renL (backF n0 ks) σ.tmps,heap:=σ.heap.ren (backF n0 ks),next:=n0 + ks.length } else σ
theorem nodup_idx:∀ {ks:List Nat} {i b:Nat},nodupN ks = true→ks[i]? = some b→idxOf b ks = some i
  | [],_,_,_,h=>by simp at h
  | k :: ks,i,b,hn,h=>by
    simp only [nodupN,Bool.and_eq_true,Bool.not_eq_true'] at hn
    unfold idxOf
    cases i with
    | zero=>simp at h; subst h; rw [beq_self]; rfl
    | succ i =>
      have h':ks[i]? = some b:=by simpa using h
      have hne:k≠b:=by
        rintro rfl
        rw [(memNat_iff _ _).2 (List.mem_of_getElem? h')] at hn
        cases hn.1
      rw [beq_false hne,nodup_idx hn.2 h']
      rfl
theorem Weak.canon (n0:Nat) (ks:List Nat) (σ:St):Weak n0 σ (canon n0 ks σ):=by
  unfold Fx.canon
  split
  · rename_i hc
    simp only [Bool.and_eq_true,Nat.ble_eq] at hc
    obtain ⟨hnd,hle⟩:=hc
    intro w0 S we φe φ a w hf h1 h2
    let φ2:Env:=fun c=>if c < n0 then (match idxOf c ks with | some _=>(φ c).map Slot.kill | none=>φ c) else (ks[c - n0]?).bind φ
    have hd:∀ b c,backF n0 ks b = some c→φ2 c = φ b:=by
      intro b c hb
      unfold backF at hb
      split at hb
      · rename_i i hi
        cases hb
        have:¬ n0 + i < n0:=by omega
        simp only [φ2,this,if_false,Nat.add_sub_cancel_left,idxOf_spec hi]
        rfl
      · rename_i hi
        rw [blt_iff] at hb
        by_cases hlt:b < n0
        · simp [hlt] at hb
          subst hb
          simp [φ2,hlt,hi]
        · simp [hlt] at hb
    have ho:∀ c s,φ2 c = some s→s.alive = true→∃ b,backF n0 ks b = some c:=by
      intro c s hc hal
      simp only [φ2] at hc
      split at hc
      · rename_i hlt
        split at hc
        · cases hp:φ c with
          | none=>simp [hp] at hc
          | some s'=>simp [hp,Slot.kill] at hc; subst hc; cases hal
        · rename_i hi
          exact ⟨c,by simp [backF,hi,blt_iff,hlt]⟩
      · rename_i hlt
        cases hk:ks[c - n0]? with
        | none=>simp [hk] at hc
        | some b =>
          refine ⟨b,?_⟩
          unfold backF
          rw [nodup_idx hnd hk]
          simp only [Option.some.injEq]
          omega
    obtain ⟨R',hst⟩:=h1.mem.ren hd ho
    refine ⟨φ2,⟨ren_reps hd hst h1.tmps,R',fun id hid=>?_,h1.defers⟩,⟨⟨fun b s hb=>?_,fun B hB=>?_⟩,fun id hid hnone=>?_,Nat.le_add_right _ _⟩⟩
    · simp only at hid
      have h3:¬ id < n0:=by omega
      have h4:ks[id - n0]? = none:=List.getElem?_eq_none (by omega)
      simp [φ2,h3,h4]
    · have hlt:b < n0:=by
        rcases Nat.lt_or_ge b n0 with h3 | h3
        · exact h3
        · rw [hf b h3] at hb; cases hb
      simp only [φ2,hlt,if_true]
      split
      · rcases h2.mono.dom b s hb with h3 | h3
        · right; simp [h3]
        · right; simp [h3,Slot.kill]
      · exact h2.mono.dom b s hb
    · obtain ⟨h3,h4⟩:=h2.mono.stab B hB
      exact ⟨hst B h3,h4⟩
    · have h3:=h2.old id hid hnone
      simp only [φ2,hid,if_true]
      split
      · simp [h3]
      · exact h3
  · exact Weak.refl _ _
theorem loopN_le {P:Program} {c:Code} {Q:Exit→Act→World→Prop}:∀ {n m:Nat} {a:Act} {w:World},n≤m→LoopN P c Q n a w→LoopN P c Q m a w
  | 0,_,_,_,_,h=>h.elim
  | n + 1,0,_,_,hle,_=>absurd hle (by omega)
  | n + 1,m + 1,a,w,hle,h=>wp_mono h fun e a' w' he=>by
    cases e with
    | normal=>exact loopN_le (by omega) he
    | _=>exact he
theorem loop_rule {C : Cfg} (G : GoodCfg C) {g n n0 : Nat} {body : Code} (hsub : SubOf C.P g body) {X : Type} (T : X → St) (Lx : X → Tree (Ex × St)) (m : X → Nat)
    (hstep:∀ x r,(Lx x).Out r→∃ r1,(exec C n g body (T x)).Out r1∧match r1.1 with
      | .normal=>∃ x',Weak n0 r1.2 (T x')∧m x' < m x∧(Lx x').Out r
      | e=>r.1 = e∧Weak n0 r1.2 r.2)
    {L:LoopCon} (hL:∀ σ r,(L σ).Out r→σ.next = n0∧∃ x,Weak n0 σ (T x)∧(Lx x).Out r):SoundLoop C body L:=by
  intro w0 S φ σ a w Q RS h
  obtain ⟨r,hr,hF⟩:=Tree.wp_out.1 h
  obtain ⟨hn,x,hw,hx⟩:=hL σ r hr
  have hfr:∀ id,n0≤id→φ id = none:=fun id hid=>RS.fresh id (by omega)
  have start:After w S φ n0 σ.next w φ:=by rw [hn]; exact After.refl _ _ _ _
  obtain ⟨φ1,RS1,A1⟩:=hw w0 S w φ φ a w hfr RS start
  have key:∀ k x φ1 a1 w1,m x≤k→RepS w0 S φ1 (T x) a1 w1→After w S φ n0 (T x).next w1 φ1→(Lx x).Out r→LoopN C.P body Q (m x + 1) a1 w1:=by
    intro k
    induction k with
    | zero =>
      intro x φ1 a1 w1 hk RS1 A1 hx
      obtain ⟨r1,h1,h2⟩:=hstep x r hx
      refine (exec_sound G n).1 g body w0 S φ1 (T x) a1 w1 _ hsub RS1 (Tree.wp_of_out h1 fun a' w' φ' RS' A'=>?_)
      obtain ⟨e,σ1⟩:=r1
      cases e with
      | normal=>obtain ⟨x',_,h4,_⟩:=h2; omega
      | _ =>
        obtain ⟨h3,h4⟩:=h2
        obtain ⟨φ2,RS2,A2⟩:=h4 w0 S w φ φ' a' w' hfr RS' (A1.trans A')
        have:=hF a' w' φ2 RS2 (by rw [hn]; exact A2)
        rw [h3] at this
        exact this
    | succ k ih =>
      intro x φ1 a1 w1 hk RS1 A1 hx
      obtain ⟨r1,h1,h2⟩:=hstep x r hx
      refine (exec_sound G n).1 g body w0 S φ1 (T x) a1 w1 _ hsub RS1 (Tree.wp_of_out h1 fun a' w' φ' RS' A'=>?_)
      obtain ⟨e,σ1⟩:=r1
      cases e with
      | normal =>
        obtain ⟨x',h3,h4,h5⟩:=h2
        obtain ⟨φ2,RS2,A2⟩:=h3 w0 S w φ φ' a' w' hfr RS' (A1.trans A')
        exact loopN_le (by omega) (ih x' φ2 a' w' (by omega) RS2 A2 h5)
      | _ =>
        obtain ⟨h3,h4⟩:=h2
        obtain ⟨φ2,RS2,A2⟩:=h4 w0 S w φ φ' a' w' hfr RS' (A1.trans A')
        have:=hF a' w' φ2 RS2 (by rw [hn]; exact A2)
        rw [h3] at this
        exact this
  exact loopN_sound (key _ x φ1 a w (Nat.le_refl _) RS1 A1 hx)
theorem jumpN_le {P:Program} {c:Code} {l:Nat} {Q:Exit→Act→World→Prop}:∀ {n m:Nat} {a:Act} {w:World},n≤m→JumpN P c l Q n a w→JumpN P c l Q m a w
  | 0,_,_,_,_,h=>h.elim
  | n + 1,0,_,_,hle,_=>absurd hle (by omega)
  | n + 1,m + 1,a,w,hle,h=>wp_mono h fun e a' w' he=>by
    cases e with
    | goto l'=>exact ⟨he.1,jumpN_le (by omega) he.2⟩
    | _=>exact he
theorem jump_rule {C : Cfg} (G : GoodCfg C) {g n n0 l : Nat} {body : Code} (hsub : SubOf C.P g body) {X : Type} (T : X → St) (Lx : X → Tree (Ex × St)) (m : X → Nat)
    (hstep:∀ x r,(Lx x).Out r→∃ r1,(exec C n g body (T x)).Out r1∧match r1.1 with
      | .goto l'=>l' = l∧∃ x',Weak n0 r1.2 (T x')∧m x' < m x∧(Lx x').Out r
      | e=>r.1 = e∧Weak n0 r1.2 r.2)
    {L:LoopCon} (hL:∀ σ r,(L σ).Out r→σ.next = n0∧∃ x,Weak n0 σ (T x)∧(Lx x).Out r):SoundJump C body l L:=by
  intro w0 S φ σ a w Q RS h
  obtain ⟨r,hr,hF⟩:=Tree.wp_out.1 h
  obtain ⟨hn,x,hw,hx⟩:=hL σ r hr
  have hfr:∀ id,n0≤id→φ id = none:=fun id hid=>RS.fresh id (by omega)
  have start:After w S φ n0 σ.next w φ:=by rw [hn]; exact After.refl _ _ _ _
  obtain ⟨φ1,RS1,A1⟩:=hw w0 S w φ φ a w hfr RS start
  have key:∀ k x φ1 a1 w1,m x≤k→RepS w0 S φ1 (T x) a1 w1→After w S φ n0 (T x).next w1 φ1→(Lx x).Out r→JumpN C.P body l Q (m x + 1) a1 w1:=by
    intro k
    induction k with
    | zero =>
      intro x φ1 a1 w1 hk RS1 A1 hx
      obtain ⟨r1,h1,h2⟩:=hstep x r hx
      refine (exec_sound G n).1 g body w0 S φ1 (T x) a1 w1 _ hsub RS1 (Tree.wp_of_out h1 fun a' w' φ' RS' A'=>?_)
      obtain ⟨e,σ1⟩:=r1
      cases e with
      | goto l'=>obtain ⟨_,x',_,h4,_⟩:=h2; omega
      | _ =>
        obtain ⟨h3,h4⟩:=h2
        obtain ⟨φ2,RS2,A2⟩:=h4 w0 S w φ φ' a' w' hfr RS' (A1.trans A')
        have:=hF a' w' φ2 RS2 (by rw [hn]; exact A2)
        rw [h3] at this
        exact this
    | succ k ih =>
      intro x φ1 a1 w1 hk RS1 A1 hx
      obtain ⟨r1,h1,h2⟩:=hstep x r hx
      refine (exec_sound G n).1 g body w0 S φ1 (T x) a1 w1 _ hsub RS1 (Tree.wp_of_out h1 fun a' w' φ' RS' A'=>?_)
      obtain ⟨e,σ1⟩:=r1
      cases e with
      | goto l' =>
        obtain ⟨he,x',h3,h4,h5⟩:=h2
        obtain ⟨φ2,RS2,A2⟩:=h3 w0 S w φ φ' a' w' hfr RS' (A1.trans A')
        exact ⟨he,jumpN_le (by omega) (ih x' φ2 a' w' (by omega) RS2 A2 h5)⟩
      | _ =>
        obtain ⟨h3,h4⟩:=h2
        obtain ⟨φ2,RS2,A2⟩:=h4 w0 S w φ φ' a' w' hfr RS' (A1.trans A')
        have:=hF a' w' φ2 RS2 (by rw [hn]; exact A2)
        rw [h3] at this
        exact this
  exact ⟨_,key _ x φ1 a w (Nat.le_refl _) RS1 A1 hx⟩
def loopsOf:Code→List Code
  | .seq a b=>loopsOf a ++ loopsOf b
  | .cond _ a b=>loopsOf a ++ loopsOf b
  | .block _ a=>loopsOf a
  | .loop a=>a :: loopsOf a
  | .scope a=>loopsOf a
  | _=>[]
theorem label_loops:∀ {a:Code} {l:Nat} {r:Code},findLabel a l = some r→∀ b ∈ loopsOf r,b ∈ loopsOf a
  | .seq x y,l,r,h,b,hb=>by
    unfold findLabel at h
    split at h
    · rename_i rest hx
      cases h
      simp only [loopsOf,List.mem_append] at hb ⊢
      rcases hb with hb | hb
      · exact .inl (label_loops hx b hb)
      · exact .inr hb
    · simp only [loopsOf,List.mem_append]
      exact .inr (label_loops h b hb)
  | .label l',l,r,h,b,hb=>by
    unfold findLabel at h
    split at h
    · cases h; simp [loopsOf] at hb
    · cases h
  | .skip,_,_,h,_,_=>by cases h
  | .region _ _ _,_,_,h,_,_=>by cases h
  | .cond _ _ _,_,_,h,_,_=>by cases h
  | .block _ _,_,_,h,_,_=>by cases h
  | .loop _,_,_,h,_,_=>by cases h
  | .exit _,_,_,h,_,_=>by cases h
  | .ret,_,_,h,_,_=>by cases h
  | .goto _,_,_,h,_,_=>by cases h
  | .scope _,_,_,h,_,_=>by cases h
  | .rangeFunc _ _ _ _,_,_,h,_,_=>by cases h
theorem sub_loops {c b:Code} (h:Sub (.loop b) c):b ∈ loopsOf c:=by
  generalize hd:Code.loop b = d at h
  induction h with
  | refl=>subst hd; simp [loopsOf]
  | seqL _ _ ih=>simp [loopsOf,ih]
  | seqR _ _ ih=>simp [loopsOf,ih]
  | condL _ _ _ ih=>simp [loopsOf,ih]
  | condR _ _ _ ih=>simp [loopsOf,ih]
  | block _ _ ih=>simp [loopsOf,ih]
  | loop _ ih=>simp [loopsOf,ih]
  | scope _ ih=>simp [loopsOf,ih]
  | jump l hf _ ih=>exact label_loops hf _ ih
def bodyOf (P:Program) (g:Nat):Code:=match P.funcs[g]? with | some fn=>fn.body.getD .skip | none=>.skip
def loopAt (P:Program) (g l:Nat):Code:=((loopsOf (bodyOf P g)).filter fun b=>Nat.beq (firstRegion b) l).headD .skip
def OneLoop (P:Program) (g l:Nat):Prop:=(loopsOf (bodyOf P g)).filter (fun b=>Nat.beq (firstRegion b) l) = [loopAt P g l]
theorem loop_is {P:Program} {g l:Nat} (h:OneLoop P g l) {body:Code} (hs:SubOf P g (.loop body)) (hf:firstRegion body = l):body = loopAt P g l:=by
  obtain ⟨fn,b,h1,h2,h3⟩:=hs
  have hm:body ∈ (loopsOf (bodyOf P g)).filter fun b=>Nat.beq (firstRegion b) l:=by
    rw [List.mem_filter]
    refine ⟨?_,by simp [hf]⟩
    have:bodyOf P g = b:=by simp [bodyOf,h1,h2]
    rw [this]
    exact sub_loops h3
  rw [h] at hm
  simpa using hm
def Cfg.addCon (C:Cfg) (g:Nat) (c:Con):Cfg:={ C with con:=(g,c) :: C.con }
def Cfg.addPcon (C:Cfg) (g:Nat) (f:List AV→Option AV):Cfg:={ C with pcon:=(g,f) :: C.pcon }
def Cfg.addLoop (C:Cfg) (g l:Nat) (L:LoopCon):Cfg:={ C with loops:=((g,l),L) :: C.loops }
def noBlks (c:Con):Prop:=∀ args r,(c args).Leaf r→r.2 = []
def Cfg.addQuiet (C:Cfg) (g:Nat) (c:Con):Cfg:={ C with con:=(g,c) :: C.con,quiet:=g :: C.quiet }
theorem GoodCfg.base {C:Cfg} (hm:C.P.follows .mixedOrders = true) (h1:C.con = []) (h2:C.pcon = []) (h3:C.quiet = []) (h4:C.loops = []) (h5:C.jumps = []) (h6:C.eat = []):GoodCfg C :=
  ⟨⟨hm,by rw [h1]; simp,by rw [h2]; simp⟩,⟨by rw [h3]; intro f hf; cases hf⟩,(by rw [h5]; intro g l L h; cases h),(by rw [h4]; intro g l L h; cases h),by unfold EatOK; rw [h6]; intro g E h; cases h⟩
theorem GoodCfg.addLoop {C:Cfg} (G:GoodCfg C) {g l:Nat} {L:LoopCon} (ho:OneLoop C.P g l) (h:SubOf C.P g (.loop (loopAt C.P g l))→SoundLoop C (loopAt C.P g l) L):GoodCfg (C.addLoop g l L):=by
  refine ⟨⟨G.ok.mixed,G.ok.con,G.ok.pcon⟩,⟨G.quiet.quiet⟩,G.jumps,fun g' l' L' hf body hs hb=>?_,G.eat⟩
  unfold Cfg.addLoop at hf
  simp only [findLoop] at hf
  by_cases hg:g = g'
  · by_cases hl:l = l'
    · subst hg hl
      simp at hf
      subst hf
      have:=loop_is ho hs hb
      subst this
      exact h hs
    · rw [hg,beq_self,beq_false hl] at hf
      exact G.loops g' l' L' hf body hs hb
  · rw [beq_false hg] at hf
    exact G.loops g' l' L' hf body hs hb
def Cfg.addJump (C:Cfg) (g l:Nat) (L:LoopCon):Cfg:={ C with jumps:=((g,l),L) :: C.jumps }
def scopesOf:Code→List Code
  | .seq a b=>scopesOf a ++ scopesOf b
  | .cond _ a b=>scopesOf a ++ scopesOf b
  | .block _ a=>scopesOf a
  | .loop a=>scopesOf a
  | .scope a=>a :: scopesOf a
  | _=>[]
theorem label_scopes:∀ {a:Code} {l:Nat} {r:Code},findLabel a l = some r→∀ b ∈ scopesOf r,b ∈ scopesOf a
  | .seq x y,l,r,h,b,hb=>by
    unfold findLabel at h
    split at h
    · rename_i rest hx
      cases h
      simp only [scopesOf,List.mem_append] at hb ⊢
      rcases hb with hb | hb
      · exact .inl (label_scopes hx b hb)
      · exact .inr hb
    · simp only [scopesOf,List.mem_append]
      exact .inr (label_scopes h b hb)
  | .label l',l,r,h,b,hb=>by
    unfold findLabel at h
    split at h
    · cases h; simp [scopesOf] at hb
    · cases h
  | .skip,_,_,h,_,_=>by cases h
  | .region _ _ _,_,_,h,_,_=>by cases h
  | .cond _ _ _,_,_,h,_,_=>by cases h
  | .block _ _,_,_,h,_,_=>by cases h
  | .loop _,_,_,h,_,_=>by cases h
  | .exit _,_,_,h,_,_=>by cases h
  | .ret,_,_,h,_,_=>by cases h
  | .goto _,_,_,h,_,_=>by cases h
  | .scope _,_,_,h,_,_=>by cases h
  | .rangeFunc _ _ _ _,_,_,h,_,_=>by cases h
theorem sub_scopes {c b:Code} (h:Sub (.scope b) c):b ∈ scopesOf c:=by
  generalize hd:Code.scope b = d at h
  induction h with
  | refl=>subst hd; simp [scopesOf]
  | seqL _ _ ih=>simp [scopesOf,ih]
  | seqR _ _ ih=>simp [scopesOf,ih]
  | condL _ _ _ ih=>simp [scopesOf,ih]
  | condR _ _ _ ih=>simp [scopesOf,ih]
  | block _ _ ih=>simp [scopesOf,ih]
  | loop _ ih=>simp [scopesOf,ih]
  | scope _ ih=>simp [scopesOf,ih]
  | jump l hf _ ih=>exact List.mem_cons_of_mem _ (label_scopes hf _ ih)
theorem scopes_sub:∀ {c b:Code},b ∈ scopesOf c→Sub (.scope b) c
  | .seq x y,b,h=>by
    simp only [scopesOf,List.mem_append] at h
    rcases h with h | h
    · exact .seqL _ (scopes_sub h)
    · exact .seqR _ (scopes_sub h)
  | .cond _ x y,b,h=>by
    simp only [scopesOf,List.mem_append] at h
    rcases h with h | h
    · exact .condL _ _ (scopes_sub h)
    · exact .condR _ _ (scopes_sub h)
  | .block _ x,b,h=>.block _ (scopes_sub (by simpa [scopesOf] using h))
  | .loop x,b,h=>.loop (scopes_sub (by simpa [scopesOf] using h))
  | .scope x,b,h=>by
    simp only [scopesOf,List.mem_cons] at h
    rcases h with h | h
    · subst h; exact .refl _
    · exact .scope (scopes_sub h)
  | .skip,_,h=>by cases h
  | .region _ _ _,_,h=>by cases h
  | .exit _,_,h=>by cases h
  | .ret,_,h=>by cases h
  | .goto _,_,h=>by cases h
  | .label _,_,h=>by cases h
  | .rangeFunc _ _ _ _,_,h=>by cases h
def scopeOf (P:Program) (g:Nat):Code:=(scopesOf (bodyOf P g)).headD .skip
def restAt (P:Program) (g l:Nat):Code:=(findLabel (scopeOf P g) l).getD .skip
def OneScope (P:Program) (g l:Nat):Prop:=scopesOf (bodyOf P g) = [scopeOf P g]∧findLabel (scopeOf P g) l = some (restAt P g l)
theorem rest_sub {P:Program} {g l:Nat} (ho:OneScope P g l) (he:∃ fn body,P.funcs[g]? = some fn∧fn.body = some body):SubOf P g (restAt P g l):=by
  obtain ⟨fn,body,h1,h2⟩:=he
  have hb:bodyOf P g = body:=by simp [bodyOf,h1,h2]
  refine ⟨fn,body,h1,h2,?_⟩
  rw [← hb]
  have hm:scopeOf P g ∈ scopesOf (bodyOf P g):=by rw [ho.1]; simp
  exact (Sub.jump l ho.2 (.refl _)).trans (scopes_sub hm)
theorem GoodCfg.addJump {C:Cfg} (G:GoodCfg C) {g l:Nat} {L:LoopCon} (ho:OneScope C.P g l) (h:SubOf C.P g (restAt C.P g l)→SoundJump C (restAt C.P g l) l L):GoodCfg (C.addJump g l L):=by
  refine ⟨⟨G.ok.mixed,G.ok.con,G.ok.pcon⟩,⟨G.quiet.quiet⟩,fun g' l' L' hf c rest hs hr=>?_,G.loops,G.eat⟩
  unfold Cfg.addJump at hf
  simp only [findLoop] at hf
  by_cases hg:g = g'
  · by_cases hl:l = l'
    · subst hg hl
      simp at hf
      subst hf
      obtain ⟨fn,b,h1,h2,h3⟩:=hs
      have h1':C.P.funcs[g]? = some fn:=h1
      have hb:bodyOf C.P g = b:=by simp [bodyOf,h1',h2]
      have hm:=sub_scopes h3
      rw [← hb,ho.1] at hm
      have hc:c = scopeOf C.P g:=by simpa using hm
      subst hc
      have h4:=ho.2
      rw [hr] at h4
      cases h4
      exact h (rest_sub ho ⟨fn,b,h1,h2⟩)
    · rw [hg,beq_self,beq_false hl] at hf
      exact G.jumps g' l' L' hf c rest hs hr
  · rw [beq_false hg] at hf
    exact G.jumps g' l' L' hf c rest hs hr
theorem GoodCfg.addQuiet {C:Cfg} (G:GoodCfg C) {g:Nat} {c:Con} (h:ValidCon C.P g c) (hq:noBlks c):GoodCfg (C.addQuiet g c):=by
  refine ⟨⟨G.ok.mixed,?_,G.ok.pcon⟩,⟨?_⟩,G.jumps,G.loops,G.eat⟩
  · intro g' c' hm
    rcases List.mem_cons.1 hm with e | hm
    · cases e; exact h
    · exact G.ok.con g' c' hm
  · intro f hf
    simp only [Cfg.addQuiet,memNat,Bool.or_eq_true] at hf
    by_cases hg:g = f
    · subst hg
      exact .inr ⟨c,by simp [Cfg.addQuiet,findCon],hq⟩
    · rcases hf with hf | hf
      · simp at hf; exact absurd hf.symm hg
      · rcases G.quiet.quiet f hf with h1 | ⟨con,h1,h2⟩
        · exact .inl h1
        · exact .inr ⟨con,by simp only [Cfg.addQuiet,findCon,beq_false hg,cond_false]; exact h1,h2⟩
theorem GoodCfg.addCon {C:Cfg} (G:GoodCfg C) {g:Nat} {c:Con} (h:ValidCon C.P g c) (hq:memNat g C.quiet = false):GoodCfg (C.addCon g c):=by
  refine ⟨⟨G.ok.mixed,?_,G.ok.pcon⟩,⟨?_⟩,G.jumps,G.loops,G.eat⟩
  · intro g' c' hm
    rcases List.mem_cons.1 hm with e | hm
    · cases e; exact h
    · exact G.ok.con g' c' hm
  · intro f hf
    have hne:g≠f:=by rintro rfl; simp only [Cfg.addCon] at hf; rw [hq] at hf; cases hf
    rcases G.quiet.quiet f hf with h1 | ⟨con,h1,h2⟩
    · exact .inl h1
    · exact .inr ⟨con,by simp only [Cfg.addCon,findCon,beq_false hne,cond_false]; exact h1,h2⟩
def Cfg.addCuts (C:Cfg) (l:List TypeId):Cfg:={ C with cuts:=l }
theorem GoodCfg.addCuts {C:Cfg} (G:GoodCfg C) (l:List TypeId):GoodCfg (C.addCuts l):=⟨⟨G.ok.mixed,G.ok.con,G.ok.pcon⟩,⟨G.quiet.quiet⟩,G.jumps,G.loops,G.eat⟩
theorem GoodCfg.addPcon {C:Cfg} (G:GoodCfg C) {g:Nat} {f:List AV→Option AV} (h:ValidPcon C.P g f):GoodCfg (C.addPcon g f):=by
  refine ⟨⟨G.ok.mixed,G.ok.con,?_⟩,⟨?_⟩,G.jumps,G.loops,G.eat⟩
  · intro g' c' hm
    rcases List.mem_cons.1 hm with e | hm
    · cases e; exact h
    · exact G.ok.pcon g' c' hm
  · intro f' hf
    rcases G.quiet.quiet f' hf with h1 | h1
    · refine .inl ?_
      simp only [Cfg.addPcon,findPcon]
      by_cases hg:g = f'
      · subst hg; simp
      · rw [beq_false hg]; exact h1
    · exact .inr h1
end Go.Fx
namespace Go.Fx
open Go Go.RowKit
def entersB (P:Program) (g:Nat):Bool :=
  match P.funcs[g]? with
  | some fn => !(fn.name == "runtime.NumGoroutine") && !fn.body.isNone
  | none=>false
theorem enters_of {P:Program} {g:Nat} (h:entersB P g = true):Enters P g:=by
  unfold entersB at h
  split at h
  · rename_i fn hfn
    simp only [Bool.and_eq_true,Bool.not_eq_true'] at h
    exact ⟨fn,hfn,h.1,h.2⟩
  · cases h
section
variable {w:World} {S:Nat→Prop} {φ:Env}
structure Holds {α:Type} (t:Tree α) (Q:α→Prop):Prop where
  wp:t.wp Q
structure Gets {α:Type} (t:Tree α) (x:α):Prop where
  out:t.Out x
theorem Holds.of_eq {α:Type} {t t':Tree α} {Q:α→Prop} (h:t = t') (h':t'.wp Q):Holds t Q:=⟨h ▸ h'⟩
theorem Gets.of_eq {α:Type} {t t':Tree α} {x:α} (h:t = t') (h':t'.Out x):Gets t x:=⟨h ▸ h'⟩
structure AsArg (a a':AV):Prop where
  reps:∀ {w:World} {S:Nat→Prop} {φ:Env} {v:Value},Reps w S φ [a] [v]→Reps w S φ [a'] [v]
theorem AsArg.refl (a:AV):AsArg a a:=⟨fun h=>h⟩
theorem AsArg.i {a:AV} {n:Int} (h:a.i = some n):AsArg a (.int .i64 n):=⟨fun hr=>by
  cases asIntK_inv h hr
  exact .int _ _ .nil⟩
theorem AsArg.ik {k:IntKind} {a:AV} {n:Int} (h:a.asIntK k = some n):AsArg a (.int k n):=⟨fun hr=>by
  cases asIntK_inv h hr
  exact .int _ _ .nil⟩
theorem AsArg.view {a:AV} {r:RTy} {xs:List r.carrier} (h:a.asView r = some xs):AsArg a (.view r xs):=⟨fun hr=>by
  unfold AV.asView at h
  split at h
  · rename_i n cs
    cases hr with
    | lv0 a c =>
      unfold decRows at h
      split at h
      · cases h; exact .view0 _ _ rfl _ _ .nil
      · cases h
    | lv _ c h0 hs hc hr =>
      obtain ⟨h8,h9⟩:=decRows_reps h hr
      subst h8
      exact .view _ _ _ h0 hs hc h9 .nil
  · unfold castView at h
    split at h
    · obtain ⟨rfl,rfl⟩:=castL_inv h
      exact hr
    · cases h
      cases hr with
      | nils a=>exact .view0 _ _ rfl _ _ .nil
    · cases h⟩
inductive AsArgs:List AV→List AV→Prop
  | nil:AsArgs [] []
  | cons {a a' as as'} (h:AsArg a a') (t:AsArgs as as'):AsArgs (a :: as) (a' :: as')
theorem AsArgs.reps {as as':List AV} (h:AsArgs as as') {vs:List Value} (hr:Reps w S φ as vs):Reps w S φ as' vs:=by
  induction h generalizing vs with
  | nil=>exact hr
  | cons h _ ih =>
    obtain ⟨v,us,rfl,h1,h2⟩:=hr.uncons
    exact Reps.cons (h.reps h1) (ih h2)
end
theorem AsArg.blit {b c:Bool} (h:b = c):AsArg (.blit b) (.bool c):=⟨fun hr=>by subst h; cases hr; exact .bool _ .nil⟩
theorem AsArg.lit {k:IntKind} {n m:Int} (h:n = m):AsArg (.lit k n) (.int k m):=⟨fun hr=>by subst h; cases hr; exact .int _ _ .nil⟩
theorem AsArg.eq {a b:AV} (h:a = b):AsArg a b:=h ▸ AsArg.refl a
theorem AsArg.bool {a:AV} {b:Bool} (h:a.b = some b):AsArg a (.bool b):=⟨fun hr=>by
  cases a <;> simp only [AV.b,Option.some.injEq,reduceCtorEq] at h
  · subst h; cases hr; exact .bool _ .nil
  · subst h; exact hr⟩
theorem AsArg.tup {as bs:List AV} (h:AsArgs as bs):AsArg (.tup as) (.tup bs):=⟨fun hr=>by
  cases hr with
  | tup hr=>exact .tup (h.reps hr) .nil⟩
theorem AsArg.agg {as bs:List AV} (h:AsArgs as bs):AsArg (.agg as) (.agg bs):=⟨fun hr=>by
  cases hr with
  | agg hr=>exact .agg (h.reps hr) .nil⟩
theorem AsArgs.refl:∀ as:List AV,AsArgs as as
  | []=>.nil
  | a :: as=>.cons (.refl a) (AsArgs.refl as)
theorem con_of {C:Cfg} (G:GoodCfg C) {g n:Nat} {con:Con} (he:entersB C.P g = true) (h:∀ args r,(con args).Out r→∃ args' v,AsArgs args args'∧AsArg v r.1∧Gets (callC C n g args') (v,r.2)):ValidCon C.P g con:=by
  have V:ValidCon C.P g (callC C n g):=con_of_call G (enters_of he) fun args r hr=>⟨args,hr,fun _ _ _ _ hv=>hv⟩
  refine ⟨enters_of he,fun args r hr w S vals hS hv=>?_⟩
  obtain ⟨args',v,h1,h2,h3⟩:=h args r hr
  refine (V.2 args' (v,r.2) h3.out w S vals hS (h1.reps hv)).mono ?_
  rintro e w' ⟨x,ψ,rfl,hp⟩
  exact ⟨x,ψ,rfl,⟨hp.ext,h2.reps hp.val,hp.blks⟩⟩
theorem subOf_of {P:Program} {g l:Nat} (h:SubOf P g (.loop (loopAt P g l))):SubOf P g (loopAt P g l):=h.sub (.loop (.refl _))
theorem wrap_fits {n:Int} (h1:-9223372036854775808≤n) (h2:n≤9223372036854775807):IntKind.i64.wrap n = n:=by
  have e:IntKind.i64.wrap n = if 9223372036854775808≤n % 18446744073709551616 then n % 18446744073709551616 - 18446744073709551616 else n % 18446744073709551616:=by
    simp [IntKind.wrap,IntKind.bits,IntKind.signed]
  rw [e]
  split <;> omega
def optT {α β:Type} (d:β) (o:Option β) (f:β→Tree α) (t:Tree α):Tree α:=.ite o.isSome (f (o.getD d)) t
theorem optT_out {α β:Type} {d:β} {o:Option β} {f:β→Tree α} {t:Tree α} {r:α}:(optT d o f t).Out r↔(match o with | some x=>(f x).Out r | none=>t.Out r):=by
  cases o <;> simp [optT,Tree.Out]
def Rnd {X:Type} (T:X→St) (m:X→Nat) (Lx:X→Tree (Ex × St)) (x:X) (r r1:Ex × St):Prop :=
  match r1.1 with
  | .normal=>∃ x',r1.2 = T x'∧m x' < m x∧(Lx x').Out r
  | e=>r = (e,r1.2)
theorem Rnd.go {X:Type} {T:X→St} {m:X→Nat} {Lx:X→Tree (Ex × St)} {x:X} {r:Ex × St} (x':X) (hm:m x' < m x) (h:(Lx x').Out r):Rnd T m Lx x r (.normal,T x'):=⟨x',rfl,hm,h⟩
theorem Rnd.out {X:Type} {T:X→St} {m:X→Nat} {Lx:X→Tree (Ex × St)} {x:X} {r:Ex × St} {id:Nat} {σ:St} (h:(.exit id,σ) = r):Rnd T m Lx x r (.exit id,σ):=h.symm
theorem Rnd.ret {X:Type} {T:X→St} {m:X→Nat} {Lx:X→Tree (Ex × St)} {x:X} {r:Ex × St} {σ:St} (h:(.ret,σ) = r):Rnd T m Lx x r (.ret,σ):=h.symm
def J (n:Nat):List AV:=List.replicate n .any
def puts:List AV→List (Nat × AV)→List AV
  | ts,[]=>ts
  | ts,(d,v) :: l=>puts (setNth ts d v) l
def Js (n:Nat):List Sh:=List.replicate n .any
def sets:List Sh→List (Nat × Sh)→List Sh
  | ts,[]=>ts
  | ts,(d,v) :: l=>sets (ts.set d v) l
theorem Tree.out_asrt {α:Type} {p:Prop} {t:Tree α} {x:α}:(Tree.asrt p t).Out x↔p∧t.Out x:=Iff.rfl
theorem Tree.wp_ite {α:Type} {c:Bool} {t e:Tree α} {Q:α→Prop}:(Tree.ite c t e).wp Q↔(c = true→t.wp Q)∧(c = false→e.wp Q):=Iff.rfl
theorem drop_rd {r:RTy} {xs:List r.carrier} {i:Int} (h0:0≤i) (h1:i < xs.length):xs.drop i.toNat = rd r xs i :: xs.drop (i + 1).toNat:=by
  have hlt:i.toNat < xs.length:=by omega
  have hr:rd r xs i = xs[i.toNat]:=by simp [rd,hlt]
  rw [hr,show (i + 1).toNat = i.toNat + 1 by omega,List.getElem_cons_drop]
theorem drop_end {α:Type} {xs:List α} {i:Int} (h1:(xs.length:Int)≤i):xs.drop i.toNat = []:=List.drop_eq_nil_of_le (by omega)
theorem Tree.out_ite {α:Type} {c:Bool} {t e:Tree α} {x:α}:(Tree.ite c t e).Out x↔(if c = true then t.Out x else e.Out x):=Iff.rfl
theorem Tree.out_ite_true {α:Type} {c:Bool} {t e:Tree α} {x:α} (h:c = true):(Tree.ite c t e).Out x↔t.Out x:=by rw [Tree.out_ite,if_pos h]
theorem Tree.out_ite_false {α:Type} {c:Bool} {t e:Tree α} {x:α} (h:c = false):(Tree.ite c t e).Out x↔e.Out x:=by rw [Tree.out_ite,if_neg (by rw [h]; decide)]
def ptrCon (f:Nat→Nat):List AV→Option AV
  | [.ptr b off]=>some (.ptr b (f off))
  | _=>none
theorem pcon_of {C:Cfg} (G:GoodCfg C) {g n:Nat} (he:entersB C.P g = true) {f:Nat→Nat} (h:∀ b off,∃ q,Gets (inlineX C (exec C n) g [.ptr b off] [] (b + 1)) (.ptr b (f off),q)):ValidPcon C.P g (ptrCon f):=by
  refine ⟨enters_of he,fun args r hr w S φ vals hv=>?_⟩
  unfold ptrCon at hr
  split at hr
  · rename_i b off
    cases hr
    obtain ⟨v,rfl,hv⟩:=hv.one_inv
    cases hv with
    | ptr hp =>
      obtain ⟨s,B,h1,h2,rfl⟩:=hp
      obtain ⟨q,hq⟩:=h b off
      let φb:Env:=fun id=>if id = b then some s.kill else none
      have hb:φb b = some s.kill:=by simp [φb]
      have dead:∀ id B c n,φb id = some ⟨true,some B,c,n⟩→False:=by
        intro id B c n hid
        simp only [φb] at hid
        split at hid
        · simp [Slot.kill] at hid
        · cases hid
      have R:RepH w (fun _=>False) φb [] w :=
        { heap:=fun _ _ h=>nomatch h
          inj:=fun _ _ _ _ _ _ _ h=>(dead _ _ _ _ h).elim
          rng:=fun _ ⟨_,_,_,h⟩=>(dead _ _ _ _ h).elim
          below:=Below.refl _ _
          sb:=fun _ h=>h.elim }
      refine (inlineX_sound (exec_sound G n).1 R (fun id hid=>by simp only [φb]; rw [if_neg (by omega)]) (vals:=[_]) (.ptr ⟨s.kill,B,hb,h2,rfl⟩ .nil) (T:=fun e w'=>∃ x,e = .returned x∧Below w.heap.size w w'∧Reps w' S φ [.ptr b (f off)] [x]) (Tree.wp_of_out hq.out fun x w' φ' hp=>?_)).2
      refine ⟨x,rfl,hp.mem.below,?_⟩
      have hval:=hp.val
      cases hval with
      | ptr hp' =>
        obtain ⟨s',B',h3,h4,rfl⟩:=hp'
        have hs:s'.blk = s.blk:=by
          rcases hp.after.mono.dom b _ hb with h5 | h5 <;> (rw [h5] at h3; cases h3; rfl)
        rw [hs,h2] at h4
        cases h4
        exact .ptr ⟨s,B,h1,h2,rfl⟩ .nil
  · cases hr
end Go.Fx
namespace Go.Fx
open Go Go.RowKit
inductive Loc where
  | tmp (d:Nat)
  | cell (b off:Nat)
def Loc.ids (σ:St):Loc→List Nat
  | .tmp d=>(nth σ.tmps d).ids
  | .cell b off=>match σ.heap.get b with | some (.cells cs)=>(nth cs off).ids | _=>[]
theorem Weak.keep (n0:Nat) (ids:List Nat) (σ:St):Weak n0 σ { σ with heap:=σ.heap.keep ids } :=
  fun _ _ _ _ φ _ _ _ h1 h2=>⟨φ,⟨h1.tmps,⟨h1.mem.heap.sub fun b x hb=>keep_get ids b x _ hb,h1.mem.inj,h1.mem.rng,h1.mem.below,h1.mem.sb⟩,h1.fresh,h1.defers⟩,h2⟩
def norm2 (n0:Nat) (ls:List Loc) (hs:List Nat) (ss:List Sh) (σ:St):St :=
  let σ:=canon n0 (ls.flatMap (Loc.ids σ)) σ
  ⟨gens ss σ.tmps,σ.heap.keep hs,σ.next⟩
theorem Weak.norm2 (n0:Nat) (ls:List Loc) (hs:List Nat) (ss:List Sh) (σ:St):Weak n0 σ (norm2 n0 ls hs ss σ) :=
  ((Weak.canon n0 (ls.flatMap (Loc.ids σ)) σ).trans (Weak.keep n0 hs _)).trans (Weak.gens n0 ss _)
def roundN (C:Cfg) (n g:Nat) (body:Code) (f e:St→St) (σ:St):Tree (Ex × St) :=
  (exec C n g body σ).bind fun r=>match r.1 with
    | .normal=>.ret (.normal,f r.2)
    | x=>.ret (x,e r.2)
theorem loop_rule3 {C : Cfg} (G : GoodCfg C) {g l : Nat} (n n0 : Nat) (f e : St → St) (hf : ∀ σ, Weak n0 σ (f σ)) (he : ∀ σ, Weak n0 σ (e σ)) (hs : SubOf C.P g (.loop (loopAt C.P g l))) {X : Type} (T : X → St) (Lx : X → Tree (Ex × St)) (m : X → Nat)
    (hstep:∀ x r,(Lx x).Out r→Holds (roundN C n g (loopAt C.P g l) f e (T x)) (Rnd T m Lx x r))
    {L:LoopCon} (hL:∀ σ r,(L σ).Out r→σ.next = n0∧∃ x,f σ = T x∧(Lx x).Out r):SoundLoop C (loopAt C.P g l) L:=by
  refine loop_rule G (subOf_of hs) T Lx m (n:=n) (n0:=n0) (fun x r hr=>?_) (fun σ r hr=>?_)
  · have h:=(hstep x r hr).wp
    unfold roundN at h
    rw [Tree.wp_bind] at h
    obtain ⟨r1,h1,h2⟩:=Tree.wp_out.1 h
    refine ⟨r1,h1,?_⟩
    obtain ⟨x1,σ1⟩:=r1
    cases x1 with
    | normal =>
      obtain ⟨x',h3,h4,h5⟩:=h2
      exact ⟨x',h3 ▸ hf σ1,h4,h5⟩
    | _=>have h2':r = _:=h2; subst h2'; exact ⟨rfl,he σ1⟩
  · obtain ⟨h1,x,h2,h3⟩:=hL σ r hr
    exact ⟨h1,x,h2 ▸ hf σ,h3⟩
def entry {X:Type} (n0:Nat) (f:St→St) (T:X→St) (get:St→Option X) (Lx:X→Tree (Ex × St)):LoopCon:=fun σ =>
  match get (f σ) with
  | some x=>.asrt (σ.next = n0∧f σ = T x) (Lx x)
  | none=>.fail
theorem entry_out {X:Type} {n0:Nat} {f:St→St} {T:X→St} {get:St→Option X} {Lx:X→Tree (Ex × St)} (σ:St) (r:Ex × St) (h:(entry n0 f T get Lx σ).Out r):σ.next = n0∧∃ x,f σ = T x∧(Lx x).Out r:=by
  unfold entry at h
  split at h
  · exact ⟨h.1.1,_,h.1.2,h.2⟩
  · exact h.elim
end Go.Fx
namespace Go.Fx
open Go Go.RowKit
section
variable {X ρ β:Type}
end
def maxI64:Int:=9223372036854775807
section
variable {X β:Type}
def foldI (nxt:X→Int→X):Nat→X→Int→X
  | 0,x,_=>x
  | k + 1,x,i=>foldI nxt k (nxt x i) (i + 1)
def brkI (nxt:X→Int→X) (brk:X→Int→Option β):Nat→X→Int→Option β
  | 0,_,_=>none
  | k + 1,x,i=>match brk x i with | some b=>some b | none=>brkI nxt brk k (nxt x i) (i + 1)
def okI (nxt:X→Int→X) (brk:X→Int→Option β) (ok:X→Int→Prop):Nat→X→Int→Prop
  | 0,_,_=>True
  | k + 1,x,i=>ok x i∧(brk x i = none→okI nxt brk ok k (nxt x i) (i + 1))
end
def countB {X β:Type} (n0:Nat) (f:St→St) (T:Int × X × Int→St) (get:St→Option (Int × X × Int)) (ok:X→Int→Prop) (nxt:X→Int→X) (brk:X→Int→Option β) (d:β) (R:β→Ex × St) (E:X→Ex × St):LoopCon :=
  entry n0 f T get fun p =>
      .asrt (0≤p.2.2∧p.1≤maxI64∧okI nxt brk ok (p.1 - p.2.2).toNat p.2.1 p.2.2)
        (optT d (brkI nxt brk (p.1 - p.2.2).toNat p.2.1 p.2.2) (fun b=>.ret (R b)) (.ret (E (foldI nxt (p.1 - p.2.2).toNat p.2.1 p.2.2))))
def countF {X:Type} (n0:Nat) (f:St→St) (T:Int × X × Int→St) (get:St→Option (Int × X × Int)) (ok:X→Int→Prop) (nxt:X→Int→X) (E:X→Ex × St):LoopCon :=
  entry n0 f T get fun p =>
      .asrt (0≤p.2.2∧p.1≤maxI64∧okI nxt (fun _ _=>(none:Option Unit)) ok (p.1 - p.2.2).toNat p.2.1 p.2.2) (.ret (E (foldI nxt (p.1 - p.2.2).toNat p.2.1 p.2.2)))
theorem count_loop {C : Cfg} (G : GoodCfg C) {g l : Nat} (n n0 : Nat) (f e : St → St) (hf : ∀ σ, Weak n0 σ (f σ)) (he : ∀ σ, Weak n0 σ (e σ)) (hs : SubOf C.P g (.loop (loopAt C.P g l)))
    {X β:Type} (T:Int × X × Int→St) (get:St→Option (Int × X × Int)) (ok:X→Int→Prop) (nxt:X→Int→X) (brk:X→Int→Option β) (d:β) (R:β→Ex × St) (E:X→Ex × St)
    (hE:∀ x,(E x).1≠.normal) (hR:∀ b,(R b).1≠.normal)
    (hround:∀ N x i,0≤i→i < N→N≤maxI64→ok x i →
      Gets (roundN C n g (loopAt C.P g l) f e (T (N,x,i))) (match brk x i with | some b=>R b | none=>(.normal,T (N,nxt x i,i + 1))))
    (hend:∀ N x i,N≤i→Gets (roundN C n g (loopAt C.P g l) f e (T (N,x,i))) (E x)) :
    SoundLoop C (loopAt C.P g l) (countB n0 f T get ok nxt brk d R E):=by
  refine loop_rule3 (C:=C) (g:=g) (l:=l) G n n0 f e hf he hs T _ (fun p=>(p.1 - p.2.2).toNat) (fun p q h=>?_) entry_out
  obtain ⟨N,x,i⟩:=p
  obtain ⟨⟨h0,h2,h3⟩,h⟩:=Tree.out_asrt.1 h
  simp only at h0 h2 h3 h
  replace h:=optT_out.1 h
  rcases Int.lt_or_le i N with hlt | hle
  · have hk:(N - i).toNat = (N - (i + 1)).toNat + 1:=by omega
    rw [hk] at h h3
    have hg:=hround N x i h0 hlt h2 h3.1
    refine ⟨Tree.wp_of_out hg.out ?_⟩
    unfold brkI at h
    cases hb:brk x i with
    | some b =>
      simp only [hb] at h
      have h':R b = q:=h
      unfold Rnd
      split
      · rename_i hn; exact absurd hn (hR b)
      · rename_i ex hn; exact h'.symm
    | none =>
      simp only [hb] at h
      refine Rnd.go (m:=fun p:Int × X × Int=>(p.1 - p.2.2).toNat) (x:=(N,x,i)) (N,nxt x i,i + 1) (show (N - (i + 1)).toNat < (N - i).toNat by omega) ?_
      exact Tree.out_asrt.2 ⟨⟨(show 0≤i + 1 by omega),h2,h3.2 hb⟩,optT_out.2 h⟩
  · have hk:(N - i).toNat = 0:=by omega
    rw [hk] at h
    have h':E x = q:=h
    refine ⟨Tree.wp_of_out (hend N x i hle).out ?_⟩
    unfold Rnd
    split
    · rename_i hn; exact absurd hn (hE x)
    · rename_i ex hn; exact h'.symm
theorem count_fold {C : Cfg} (G : GoodCfg C) {g l : Nat} (n n0 : Nat) (f e : St → St) (hf : ∀ σ, Weak n0 σ (f σ)) (he : ∀ σ, Weak n0 σ (e σ)) (hs : SubOf C.P g (.loop (loopAt C.P g l)))
    {X:Type} (T:Int × X × Int→St) (get:St→Option (Int × X × Int)) (ok:X→Int→Prop) (nxt:X→Int→X) (E:X→Ex × St)
    (hE:∀ x,(E x).1≠.normal)
    (hround:∀ N x i,0≤i→i < N→N≤maxI64→ok x i→Gets (roundN C n g (loopAt C.P g l) f e (T (N,x,i))) (.normal,T (N,nxt x i,i + 1)))
    (hend:∀ N x i,N≤i→Gets (roundN C n g (loopAt C.P g l) f e (T (N,x,i))) (E x)) :
    SoundLoop C (loopAt C.P g l) (countF n0 f T get ok nxt E):=by
  refine loop_rule3 (C:=C) (g:=g) (l:=l) G n n0 f e hf he hs T _ (fun p=>(p.1 - p.2.2).toNat) (fun p q h=>?_) entry_out
  obtain ⟨N,x,i⟩:=p
  obtain ⟨⟨h0,h2,h3⟩,h⟩:=Tree.out_asrt.1 h
  simp only at h0 h2 h3 h
  rcases Int.lt_or_le i N with hlt | hle
  · have hk:(N - i).toNat = (N - (i + 1)).toNat + 1:=by omega
    rw [hk] at h h3
    have hg:=hround N x i h0 hlt h2 h3.1
    refine ⟨Tree.wp_of_out hg.out ?_⟩
    refine Rnd.go (m:=fun p:Int × X × Int=>(p.1 - p.2.2).toNat) (x:=(N,x,i)) (N,nxt x i,i + 1) (show (N - (i + 1)).toNat < (N - i).toNat by omega) ?_
    exact Tree.out_asrt.2 ⟨⟨(show 0≤i + 1 by omega),h2,h3.2 rfl⟩,h⟩
  · have hk:(N - i).toNat = 0:=by omega
    rw [hk] at h
    have h':E x = q:=h
    refine ⟨Tree.wp_of_out (hend N x i hle).out ?_⟩
    unfold Rnd
    split
    · rename_i hn; exact absurd hn (hE x)
    · rename_i ex hn; exact h'.symm
section
variable {r:RTy} {π:Type} (f:π→r.carrier→r.carrier) (g:π→r.carrier→π) (okE:π→r.carrier→Prop)
def nxtM (x:List r.carrier × π) (i:Int):List r.carrier × π:=(upd r x.1 i (f x.2 (rd r x.1 i)),g x.2 (rd r x.1 i))
def okM (x:List r.carrier × π) (i:Int):Prop:=i < x.1.length∧okE x.2 (rd r x.1 i)
variable {f g okE}
theorem rd_mid {pre:List r.carrier} {y:r.carrier} {l:List r.carrier}:rd r (pre ++ y :: l) pre.length = y:=by
  simp [rd]
theorem upd_mid {pre:List r.carrier} {y z:r.carrier} {l:List r.carrier}:upd r (pre ++ y :: l) pre.length z = pre ++ z :: l:=by
  simp [upd]
theorem upd_len (xs:List r.carrier) (i:Int) (z:r.carrier):(upd r xs i z).length = xs.length:=by simp [upd]
theorem upd_self {xs:List r.carrier} {i:Int} (h0:0≤i) (h1:i < xs.length):upd r xs i (rd r xs i) = xs:=by
  have hlt:i.toNat < xs.length:=by omega
  simp [upd,rd,hlt]
theorem foldM_all (hf : ∀ a y z, f (g a y) z = f a z) (ho : ∀ a y z, okE a z → okE (g a y) z) : ∀ (l pre : List r.carrier) (a : π), (∀ y ∈ l, okE a y) →
    foldI (nxtM f g) l.length (pre ++ l,a) pre.length = (pre ++ l.map (f a),l.foldl g a)∧okI (nxtM f g) (fun _ _=>(none:Option Unit)) (okM okE) l.length (pre ++ l,a) pre.length
  | [],pre,a,_=>⟨by simp [foldI],trivial⟩
  | y :: l,pre,a,h=>by
    have e:nxtM f g (pre ++ y :: l,a) pre.length = ((pre ++ [f a y]) ++ l,g a y):=by
      unfold nxtM
      simp only
      rw [rd_mid,upd_mid]
      simp
    have el:(pre.length:Int) + 1 = ((pre ++ [f a y]).length:Int):=by simp
    obtain ⟨h1,h2⟩:=foldM_all hf ho l (pre ++ [f a y]) (g a y) (fun z hz=>ho a y z (h z (List.mem_cons_of_mem _ hz)))
    refine ⟨?_,⟨?_,?_⟩,fun _=>?_⟩
    · show foldI (nxtM f g) l.length (nxtM f g (pre ++ y :: l,a) pre.length) (pre.length + 1) = _
      rw [e,el,h1]
      simp only [List.append_assoc,List.singleton_append,List.map_cons,List.foldl_cons,Prod.mk.injEq,and_true]
      congr 2
      exact List.map_congr_left fun z _=>hf a y z
    · show (pre.length:Int) < ((pre ++ y :: l).length:Int)
      simp
      omega
    · show okE a (rd r (pre ++ y :: l) pre.length)
      rw [rd_mid]
      exact h y (by simp)
    · show okI (nxtM f g) _ (okM okE) l.length (nxtM f g (pre ++ y :: l,a) pre.length) (pre.length + 1)
      rw [e,el]
      exact h2
theorem foldM (hf : ∀ a y z, f (g a y) z = f a z) (ho : ∀ a y z, okE a z → okE (g a y) z) (l : List r.carrier) (a : π) (h : ∀ y ∈ l, okE a y) :
    foldI (nxtM f g) l.length (l,a) 0 = (l.map (f a),l.foldl g a)∧okI (nxtM f g) (fun _ _=>(none:Option Unit)) (okM okE) l.length (l,a) 0:=by
  simpa using foldM_all hf ho l [] a h
end
end Go.Fx
namespace Go.Fx
open Go Go.RowKit
structure Opens (P:Program) (t:TypeId) (G:List AV→Prop):Prop where
  run:∀ {H:Type} (enc:TypeId × Value→H) (w:World) (fuel:Nat) (cs:List Value) (x:DataW H × List MemPlace),
    DataW.trod enc P w 0 (fun _=>true) true fuel t cs = some x→(∀ n ∈ x.1.weights P t,n≤reachBytes)→∃ as,G as∧Reps w (fun _=>False) Env.none as cs
section
variable {P:Program} {t:TypeId}
theorem Opens.mono {G G':List AV→Prop} (h:Opens P t G) (h':∀ as,G as→G' as):Opens P t G':=⟨fun enc w fuel cs x hx hw=>by
  obtain ⟨as,h1,h2⟩:=h.run enc w fuel cs x hx hw
  exact ⟨as,h' as h1,h2⟩⟩
theorem Opens.int {k:IntKind} (ht:P.underlying t = some (.int k)):Opens P t fun as=>∃ n,as = [.int k n]∧(Lit.int k n).wf = true:=⟨fun enc w fuel cs x hx _=>by
  obtain ⟨n,rfl,_,h⟩:=DataW.trod_int ht hx
  exact ⟨_,⟨n,rfl,h⟩,.int _ _ .nil⟩⟩
theorem Opens.bool (ht:P.underlying t = some .bool):Opens P t fun as=>∃ b,as = [.bool b]:=⟨fun enc w fuel cs x hx _=>by
  obtain ⟨n,rfl,_⟩:=DataW.trod_bool ht hx
  exact ⟨_,⟨n,rfl⟩,.bool _ .nil⟩⟩
theorem weights_all_mem {H:Type} {e:TypeId}:∀ {ds:List (DataW H)} {i:Nat} {d:DataW H},ds[i]? = some d→∀ n ∈ d.weights P e,n ∈ DataW.weightsAll P e ds
  | [],_,_,h=>by simp at h
  | d0 :: ds,0,d,h=>by
    simp only [List.getElem?_cons_zero,Option.some.injEq] at h
    subst h
    intro n hn
    simp only [DataW.weightsAll,List.mem_append]
    exact .inl hn
  | d0 :: ds,i + 1,d,h=>by
    simp only [List.getElem?_cons_succ] at h
    intro n hn
    simp only [DataW.weightsAll,List.mem_append]
    exact .inr (weights_all_mem h n hn)
theorem cells_map {α β:Type} {f:α→β} {l:List α} {i:Nat} {x:α} (h:l[i]? = some x):(l.map f)[i]? = some (f x):=by simp [h]
theorem Opens.slice {e : TypeId} {G : List AV → Prop} (r : RTy) {ok : r.carrier → Prop} (ht : P.underlying t = some (.slice e)) (he : Opens P e G) (hr : ∀ as, G as → ∃ x : r.carrier, as = r.enc x ∧ ok x) (hs : P.cellsOf e = r.size) (hp : 0 < r.size) :
    Opens P t fun as=>∃ xs:List r.carrier,as = [.view r xs]∧xs.length * P.bytesOf e≤reachBytes∧∀ x ∈ xs,ok x:=⟨fun enc w fuel cs x hx hw=>by
  rcases DataW.trod_slice ht hx with ⟨rfl,rfl⟩ | ⟨a,len,cap,elems,rest,n,rfl,rfl,rfl,_,hlc,_,hel,hget,_⟩
  · exact ⟨_,⟨[],rfl,by simp,by simp⟩,.view0 _ _ rfl _ _ .nil⟩
  · rw [hs] at hget
    have hwl:∀ m ∈ (elems.length + rest.length) * P.bytesOf e :: (DataW.weightsAll P e (elems.map (·.1)) ++ DataW.weightsAll P e (rest.map (·.1))),m≤reachBytes:=by
      intro m hm
      refine hw m ?_
      simp only [DataW.weights,ht,List.length_map]
      exact hm
    have each:∀ i,i < len→∃ (x:r.carrier) (us:List Value),ok x∧Reps w (fun _=>False) Env.none (r.enc x) us∧w.cells? 0 (a.add (i * r.size)) r.size = some us:=by
      intro i hi
      have h1:=hget i hi
      have h2:i < elems.length:=by omega
      rw [List.getElem?_eq_getElem h2,Option.bind_eq_some_iff] at h1
      obtain ⟨us,h3,h4⟩:=h1
      obtain ⟨as,h5,h6⟩:=he.run enc w n us _ h4 (fun m hm=>hwl m (List.mem_cons_of_mem _ (List.mem_append.2 (.inl (weights_all_mem (cells_map (List.getElem?_eq_getElem h2)) m hm)))))
      obtain ⟨x,rfl,h7⟩:=hr as h5
      exact ⟨x,us,h7,h6,h3⟩
    have build:∀ k,k≤len→∃ (xs:List r.carrier) (us:List Value),xs.length = k∧(∀ x ∈ xs,ok x)∧us.length = k * r.size∧Reps w (fun _=>False) Env.none (xs.flatMap r.enc) us∧∀ j u,us[j]? = some u→w.cell? (a.add j) = some u:=by
      intro k
      induction k with
      | zero=>intro _; exact ⟨[],[],rfl,by simp,by simp,.nil,by simp⟩
      | succ k ih =>
        intro hk
        obtain ⟨xs,us,h1,h2,h3,h4,h5⟩:=ih (by omega)
        obtain ⟨x,vs,h6,h7,h8⟩:=each k (by omega)
        obtain ⟨_,hl,hc⟩:=World.cells?_some h8
        refine ⟨xs ++ [x],us ++ vs,by simp [h1],?_,?_,?_,?_⟩
        · intro y hy
          rcases List.mem_append.1 hy with hy | hy
          · exact h2 y hy
          · simp at hy; subst hy; exact h6
        · rw [List.length_append,h3,hl,Nat.succ_mul]
        · rw [List.flatMap_append]
          simpa using h4.app h7
        · intro j u hj
          rcases Nat.lt_or_ge j us.length with hlt | hge
          · rw [List.getElem?_append_left hlt] at hj; exact h5 j u hj
          · rw [List.getElem?_append_right hge] at hj
            have hlt:j - us.length < r.size:=by
              have:=(List.getElem?_eq_some_iff.1 hj).1
              omega
            have:=hc (j - us.length) hlt
            rw [hj] at this
            rw [← this]
            congr 1
            unfold Addr.add
            by_cases hj0:j = 0
            · have hk0:k * r.size = 0:=by omega
              simp [hj0,hk0]
            · by_cases hk0:k * r.size = 0
              · have:us.length = 0:=by omega
                simp [hj0,hk0,this]
              · by_cases hz:j - us.length = 0
                · simp [hj0,hk0,hz]; omega
                · simp [hj0,hk0,hz]; omega
    obtain ⟨xs,us,h1,h2,h3,h4,h5⟩:=build len (Nat.le_refl _)
    have hb:xs.length * P.bytesOf e≤reachBytes:=by
      have:=hwl _ (List.mem_cons_self)
      rw [hel] at this
      refine Nat.le_trans (Nat.mul_le_mul_right _ ?_) this
      omega
    refine ⟨_,⟨xs,rfl,hb,h2⟩,?_⟩
    subst h1
    by_cases h0:xs.length = 0
    · have hx0:xs = []:=List.eq_nil_of_length_eq_zero h0
      rw [h0]
      exact .view0 _ _ hx0 _ _ .nil
    · obtain ⟨b,off,spot⟩:=a
      have hlt:0 < us.length:=by rw [h3]; exact Nat.mul_pos (by omega) hp
      have h6:=h5 0 _ (List.getElem?_eq_getElem hlt)
      have hsp:spot = none:=by simpa [Addr.add] using World.cell?_spot h6
      subst hsp
      have hblk:b < w.heap.size:=by
        have:w.cell? ⟨b,off,none⟩ = some us[0]:=by simpa [Addr.add] using h6
        rcases Nat.lt_or_ge b w.heap.size with h | h
        · exact h
        · simp [World.cell?,Array.getElem?_eq_none h] at this
      refine .view r xs cap hlc ⟨hblk,fun h=>h,fun ⟨_,_,_,h⟩=>by simp [Env.none] at h⟩ (fun j u hj=>?_) h4 .nil
      have:=h5 j u hj
      rw [← this]
      unfold Addr.add
      by_cases hj0:j = 0
      · simp [hj0]
      · simp [hj0]⟩
inductive OpenFs (P:Program):List Field→Nat→(List AV→Prop)→Prop
  | nil (off:Nat):OpenFs P [] off fun as=>as = []
  | cons {f : Field} {fs : List Field} {off : Nat} {G Gs : List AV → Prop} (h : Opens P f.type G) (ho : f.offset = off) (hs : OpenFs P fs (off + P.cellsOf f.type) Gs) :
      OpenFs P (f :: fs) off fun as=>∃ a b,as = a ++ b∧G a∧Gs b
theorem OpenFs.open {H : Type} (enc : TypeId × Value → H) (w : World) (fuel : Nat) (cs : List Value) {fs : List Field} {off : Nat} {G : List AV → Prop} (h : OpenFs P fs off G) :
    ∀ xs:List (DataW H × List MemPlace),xs.length = fs.length→(∀ (i:Nat) (f:Field),fs[i]? = some f→DataW.trod enc P w 0 (fun _=>true) true fuel f.type ((cs.drop f.offset).take (P.cellsOf f.type)) = xs[i]?) →
      (∀ n ∈ DataW.weightsEach P (fs.map (·.type)) (xs.map (·.1)),n≤reachBytes)→cs.length≤off + (fs.map fun f:Field=>P.cellsOf f.type).sum→∃ as,G as∧Reps w (fun _=>False) Env.none as (cs.drop off):=by
  induction h with
  | nil off =>
    intro xs _ _ _ hl
    refine ⟨[],rfl,?_⟩
    rw [List.drop_eq_nil_of_le (by simpa using hl)]
    exact .nil
  | @cons f fs off G Gs h ho hs ih =>
    intro xs hx hg hw hl
    cases xs with
    | nil=>simp at hx
    | cons x xs =>
      have h0:=hg 0 f rfl
      simp only [List.getElem?_cons_zero,ho] at h0
      simp only [List.map_cons,DataW.weightsEach,List.mem_append] at hw
      obtain ⟨a,ha,hra⟩:=h.run enc w fuel _ x h0 (fun m hm=>hw m (.inl hm))
      obtain ⟨b,hb,hrb⟩:=ih xs (by simpa using hx) (fun i f' hf=>by simpa using hg (i + 1) f' (by simpa using hf)) (fun m hm=>hw m (.inr hm)) (by simp only [List.map_cons,List.sum_cons] at hl; omega)
      refine ⟨a ++ b,⟨a,b,rfl,ha,hb⟩,?_⟩
      have:=hra.app hrb
      rwa [← List.drop_drop,List.take_append_drop] at this
theorem Opens.struct {fs:Array Field} {G:List AV→Prop} (ht:P.underlying t = some (.struct fs)) (h:OpenFs P fs.toList 0 G) (hs:(fs.toList.map fun f:Field=>P.cellsOf f.type).sum = P.cellsOf t):Opens P t G:=⟨fun enc w fuel cs x hx hw=>by
  obtain ⟨xs,n,rfl,rfl,hl,hxl,hg⟩:=DataW.trod_struct ht hx
  have:=h.open enc w n cs xs (by simpa using hxl) (fun i f hf=>hg i f (by simpa using hf)) (fun m hm=>hw m (by simpa only [DataW.weights,ht] using hm)) (by omega)
  simpa using this⟩
end
theorem reps_agg {w:World} {as:List AV} {v:Value} {cs:Array Value} (hv:v = .agg cs) (h:Reps w (fun _=>False) Env.none as v.cells.toList):Reps w (fun _=>False) Env.none [.agg as] [v]:=by
  subst hv
  have:=Reps.agg h (.nil (w:=w) (S:=fun _=>False) (φ:=Env.none))
  simpa [Value.cells] using this
theorem law_calls {P : Program} {g : Nat} {con : Con} (V : ValidCon P g con) {args : List AV} {vals : List Value} {W : World} {bs : List Blk} (h : (con args).Out (.bool true, bs)) (hr : Reps W (fun _ => False) Env.none args vals) :
    Calls P g vals.toArray W fun e W'=>e = .returned (.bool true)∧Below W.heap.size W W':=by
  refine (V.2 args _ h W (fun _=>False) vals (fun _ hB=>hB.elim) hr).mono ?_
  rintro e W' ⟨x,ψ,rfl,hp⟩
  have hv:=hp.val
  cases hv
  exact ⟨rfl,hp.ext.below⟩
theorem ValidCon.weaken {P:Program} {g:Nat} {c c':Con} (V:ValidCon P g c) (h:∀ args r,(c' args).Out r→∃ v,AsArg v r.1∧(c args).Out (v,r.2)):ValidCon P g c':=by
  refine ⟨V.1,fun args r hr w S vals hS hv=>?_⟩
  obtain ⟨v,h1,h2⟩:=h args r hr
  refine (V.2 args _ h2 w S vals hS hv).mono ?_
  rintro e w' ⟨x,ψ,rfl,hp⟩
  exact ⟨x,ψ,rfl,⟨hp.ext,h1.reps hp.val,hp.blks⟩⟩
def blkAt (bs:List Blk) (id:Nat):Option Blk:=bs[id]?
def frozen (c:Con):Con:=fun args=>(c args).bind fun r=>match lowerV (blkAt r.2) 64 r.1 with | some v=>.ret (v,[]) | none=>.fail
theorem ValidCon.frozen {P:Program} {g:Nat} {c:Con} (V:ValidCon P g c):ValidCon P g (frozen c):=by
  refine ⟨V.1,fun args r hr w S vals hS hv=>?_⟩
  have hr':((Fx.frozen c) args).wp (fun x=>x = r):=Tree.wp_of_out hr rfl
  unfold Fx.frozen at hr'
  rw [Tree.wp_bind] at hr'
  obtain ⟨r0,h1,h2⟩:=Tree.wp_out.1 hr'
  split at h2
  · rename_i v hv2
    have h3:(v,[]) = r:=h2
    subst h3
    refine (V.2 args _ h1 w S vals hS hv).mono ?_
    rintro e w' ⟨x,ψ,rfl,hp⟩
    have hdom:∀ id s,ψ id = some s→id < r0.2.length:=by
      intro id s hs
      rcases Nat.lt_or_ge id r0.2.length with h' | h'
      · exact h'
      · rw [hp.ext.same id (by omega)] at hs; cases hs
    refine ⟨x,Env.none,rfl,⟨⟨hp.ext.below,fun _ _=>rfl,fun _ _ _ h=>absurd h (by simp),fun _ _ _ _ _ _ h=>absurd h (by simp)⟩,?_,fun j blk hj=>by simp at hj⟩⟩
    refine (lower_reps (look:=blkAt r0.2) (fun b blk hb=>?_) (fun B ho hs=>?_) 64).1 _ _ _ hv2 hp.val
    · have:=hp.blks b blk hb
      rwa [Nat.zero_add] at this
    · obtain ⟨id,cap,len,hid⟩:=ho
      have h5:=hp.ext.new id _ (Nat.zero_le _) (by have:=hdom id _ hid; omega) hid B rfl
      have h6:=hS B hs
      omega
  · exact h2.elim
theorem AsArg.toLit {k:IntKind} {n m:Int} (h:n = m):AsArg (.int k n) (.lit k m):=⟨fun hr=>by subst h; cases hr; exact .lit _ _ .nil⟩
theorem AsArg.trans {a b c:AV} (h:AsArg a b) (h':AsArg b c):AsArg a c:=⟨fun hr=>h'.reps (h.reps hr)⟩
theorem AsArg.boolLit {b c:Bool} (h:b = c):AsArg (.bool b) (.blit c):=⟨fun hr=>by subst h; cases hr; exact .blit _ .nil⟩
def Rez (t:Tree (AV × List Blk)) (r:AV × List Blk):Prop:=∃ v,AsArg v r.1∧t.Out (v,r.2)
theorem Rez.itet {c:Bool} {t e:Tree (AV × List Blk)} {r:AV × List Blk} (h:c = true) (h1:Rez t r):Rez (.ite c t e) r:=by
  obtain ⟨v,h3,h4⟩:=h1; exact ⟨v,h3,(Tree.out_ite_true h).2 h4⟩
theorem Rez.itee {c:Bool} {t e:Tree (AV × List Blk)} {r:AV × List Blk} (h:c = false) (h1:Rez e r):Rez (.ite c t e) r:=by
  obtain ⟨v,h3,h4⟩:=h1; exact ⟨v,h3,(Tree.out_ite_false h).2 h4⟩
theorem Rez.asrt {p:Prop} {t:Tree (AV × List Blk)} {r:AV × List Blk} (h:p) (h1:Rez t r):Rez (.asrt p t) r:=by
  obtain ⟨v,h3,h4⟩:=h1; exact ⟨v,h3,h,h4⟩
theorem Rez.ret {a r:AV × List Blk} (h:AsArg a.1 r.1) (h2:a.2 = r.2):Rez (.ret a) r:=⟨a.1,h,by rw [← h2]; rfl⟩
def lawCon (Good:List AV→Prop):Con:=fun args=>.asrt (Good args) (.ret (.bool true,[]))
theorem lawCon_valid {C:Cfg} (G:GoodCfg C) {g n:Nat} {Good:List AV→Prop} (he:entersB C.P g = true) (h:∀ args,Good args→∃ v bs,AsArg v (.bool true)∧Gets (callC C n g args) (v,bs)∧bs = []):ValidCon C.P g (lawCon Good):=by
  refine con_of (n:=n) G he fun args r hr=>?_
  obtain ⟨h1,h2⟩:=hr
  cases h2
  obtain ⟨v,bs,h3,h4,rfl⟩:=h args h1
  exact ⟨args,v,AsArgs.refl _,h3,h4⟩
def Tru (t:Tree (AV × List Blk)):Prop:=Rez t (.bool true,[])
theorem lawCon_of {C:Cfg} (G:GoodCfg C) {g n:Nat} {Good:List AV→Prop} (he:entersB C.P g = true) (h:∀ args,Good args→∃ t,callC C n g args = t∧Tru t):ValidCon C.P g (lawCon Good) :=
  lawCon_valid G he fun args ha=>by
    obtain ⟨t,h1,v,h2,h3⟩:=h args ha
    exact ⟨v,[],h2,.of_eq h1 h3,rfl⟩
theorem Tru.yes:Tru (.ret (.blit true,[])):=⟨_,.blit rfl,rfl⟩
theorem Tru.of {b:Bool} (h:b = true):Tru (.ret (.bool b,[])):=by subst h; exact ⟨_,.refl _,rfl⟩
theorem Tru.ite {c:Bool} {t e:Tree (AV × List Blk)} (h1:c = true→Tru t) (h2:c = false→Tru e):Tru (.ite c t e):=by
  cases c with
  | true=>exact Rez.itet rfl (h1 rfl)
  | false=>exact Rez.itee rfl (h2 rfl)
theorem Tru.asrt {p:Prop} {t:Tree (AV × List Blk)} (h:p) (h1:Tru t):Tru (.asrt p t):=Rez.asrt h h1
def wf64 (n:Int):Prop:=-9223372036854775808≤n∧n≤9223372036854775807
structure Dc (α:Type) where
  dec:AV→Option α
  enc:α→AV
  ok:∀ v a,dec v = some a→AsArg v (enc a)
structure Ds (α:Type) where
  dec:List AV→Option α
  enc:α→List AV
  ok:∀ l a,dec l = some a→AsArgs l (enc a)
def dI (k:IntKind):Dc Int:=⟨AV.asIntK k,.int k,fun _ _ h=>.ik h⟩
def dInt:Dc Int:=dI .i64
def dBool:Dc Bool:=⟨AV.b,.bool,fun _ _ h=>.bool h⟩
def dView (r:RTy):Dc (List r.carrier):=⟨AV.asView r,.view r,fun _ _ h=>.view h⟩
def decAgg (r:RTy):AV→Option r.carrier
  | .agg cs=>r.dec cs
  | _=>none
theorem AsArg.row {r:RTy} {v:AV} {x:r.carrier} (h:decAgg r v = some x):AsArg v (.agg (r.enc x)):=by
  unfold decAgg at h
  split at h
  · exact ⟨fun hr=>by
      cases hr with
      | agg hr=>exact .agg (dec_reps h hr) .nil⟩
  · cases h
def dRow (r:RTy):Dc r.carrier:=⟨decAgg r,fun x=>.agg (r.enc x),fun _ _ h=>.row h⟩
def decFn (f:Nat):AV→Option Unit
  | .fn (.func g) [] []=>if g = f then some () else none
  | _=>none
def dFn (f:Nat):Dc Unit:=⟨decFn f,fun _=>.fn (.func f) [] [],fun v a h=>by
  unfold decFn at h
  split at h
  · split at h
    · rename_i g hg; subst hg; exact .refl _
    · cases h
  · cases h⟩
def Ds.none:Ds Unit:=⟨fun l=>match l with | []=>some () | _=>Option.none,fun _=>[],fun l a h=>by
  split at h
  · exact .nil
  · cases h⟩
def d1 {α:Type} (a:Dc α):Ds α:=⟨fun l=>match l with | [x]=>a.dec x | _=>Option.none,fun x=>[a.enc x],fun l x h=>by
  split at h
  · exact .cons (a.ok _ _ h) .nil
  · cases h⟩
def dCons {α β:Type} (a:Dc α) (b:Ds β):Ds (α × β):=⟨fun l=>match l with | x :: l=>(match a.dec x,b.dec l with | some x,some y=>some (x,y) | _,_=>Option.none) | []=>Option.none,fun x=>a.enc x.1 :: b.enc x.2,fun l x h=>by
  split at h
  · split at h
    · rename_i h1 h2; cases h; exact .cons (a.ok _ _ h1) (b.ok _ _ h2)
    · cases h
  · cases h⟩
def d2 {α β:Type} (a:Dc α) (b:Dc β):Ds (α × β):=dCons a (d1 b)
def d3 {α β γ:Type} (a:Dc α) (b:Dc β) (c:Dc γ):Ds (α × β × γ):=dCons a (d2 b c)
def d4 {α β γ δ:Type} (a:Dc α) (b:Dc β) (c:Dc γ) (d:Dc δ):Ds (α × β × γ × δ):=dCons a (d3 b c d)
def d5 {α β γ δ ε:Type} (a:Dc α) (b:Dc β) (c:Dc γ) (d:Dc δ) (e:Dc ε):Ds (α × β × γ × δ × ε):=dCons a (d4 b c d e)
def resCon {α:Type} (D:Ds α) (ok:α→Prop) (res:α→AV × List Blk):Con:=fun args=>match D.dec args with | some a=>.asrt (ok a) (.ret (res a)) | none=>.fail
def flatCon {α:Type} (D:Ds α) (ok:α→Prop) (res:α→AV):Con:=resCon D ok fun a=>(res a,[])
theorem flatCon_quiet {α:Type} {D:Ds α} {ok:α→Prop} {res:α→AV}:noBlks (flatCon D ok res):=by
  intro args r h
  unfold flatCon resCon at h
  split at h
  · cases h; rfl
  · exact h.elim
theorem resCon_valid {C:Cfg} (G:GoodCfg C) {g:Nat} (n:Nat) {α:Type} {D:Ds α} {ok:α→Prop} {res:α→AV × List Blk} (he:entersB C.P g = true) (h:∀ a,ok a→∃ t,callC C n g (D.enc a) = t∧Rez t (res a)):ValidCon C.P g (resCon D ok res):=by
  refine con_of (n:=n) G he fun args r hr=>?_
  unfold resCon at hr
  split at hr
  · rename_i a ha
    obtain ⟨h1,h2⟩:=hr
    cases h2
    obtain ⟨t,h3,v,h4,h5⟩:=h a h1
    exact ⟨_,v,D.ok _ _ ha,h4,.of_eq h3 h5⟩
  · exact hr.elim
theorem flatCon_valid {C:Cfg} (G:GoodCfg C) {g:Nat} (n:Nat) {α:Type} {D:Ds α} {ok:α→Prop} {res:α→AV} (he:entersB C.P g = true) (h:∀ a,ok a→∃ t,callC C n g (D.enc a) = t∧Rez t (res a,[])):ValidCon C.P g (flatCon D ok res) :=
  resCon_valid G n he h
theorem frozenCon_valid {C:Cfg} (G:GoodCfg C) {g:Nat} (n:Nat) {α:Type} {D:Ds α} {ok:α→Prop} {res:α→AV} (he:entersB C.P g = true) (h:∀ a,ok a→∃ t,frozen (callC C n g) (D.enc a) = t∧Rez t (res a,[])):ValidCon C.P g (flatCon D ok res):=by
  have V:ValidCon C.P g (frozen (callC C n g)):=ValidCon.frozen (con_of_call G (enters_of he) fun args r hr=>⟨args,hr,fun _ _ _ _ hv=>hv⟩)
  refine ⟨V.1,fun args r hr w S vals hS hv=>?_⟩
  unfold flatCon resCon at hr
  split at hr
  · rename_i a ha
    obtain ⟨h1,h2⟩:=hr
    cases h2
    obtain ⟨t,h3,v,h4,h5⟩:=h a h1
    refine (V.2 (D.enc a) (v,[]) (h3 ▸ h5) w S vals hS ((D.ok _ _ ha).reps hv)).mono ?_
    rintro e w' ⟨x,ψ,rfl,hp⟩
    exact ⟨x,ψ,rfl,⟨hp.ext,h4.reps hp.val,hp.blks⟩⟩
  · exact hr.elim
def plainCon {α:Type} (D:Ds α) (res:α→AV):Con:=fun args=>match D.dec args with | some a=>.ret (res a,[]) | none=>.fail
theorem plainCon_quiet {α:Type} {D:Ds α} {res:α→AV}:noBlks (plainCon D res):=by
  intro args r h
  unfold plainCon at h
  split at h
  · cases h; rfl
  · exact h.elim
theorem plainCon_of {P:Program} {g:Nat} {α:Type} {D:Ds α} {res:α→AV} (V:ValidCon P g (flatCon D (fun _=>True) res)):ValidCon P g (plainCon D res):=V.weaken fun args r h=>by
  unfold plainCon at h
  unfold flatCon resCon
  split at h
  · rename_i a ha
    exact ⟨r.1,.refl _,trivial,by cases h; rfl⟩
  · exact h.elim
theorem plainCon_valid {C:Cfg} (G:GoodCfg C) {g:Nat} (n:Nat) {α:Type} {D:Ds α} {res:α→AV} (he:entersB C.P g = true) (h:∀ a,∃ t,callC C n g (D.enc a) = t∧Rez t (res a,[])):ValidCon C.P g (plainCon D res) :=
  plainCon_of (flatCon_valid G n he fun a _=>h a)
theorem frozenPlain_valid {C:Cfg} (G:GoodCfg C) {g:Nat} (n:Nat) {α:Type} {D:Ds α} {res:α→AV} (he:entersB C.P g = true) (h:∀ a,∃ t,frozen (callC C n g) (D.enc a) = t∧Rez t (res a,[])):ValidCon C.P g (plainCon D res) :=
  plainCon_of (frozenCon_valid G n he fun a _=>h a)
theorem AsArgs.trans {as bs cs:List AV} (h:AsArgs as bs) (h':AsArgs bs cs):AsArgs as cs:=by
  induction h generalizing cs with
  | nil=>exact h'
  | cons h _ ih =>
    cases h' with
    | cons h1 h2=>exact .cons (h.trans h1) (ih h2)
theorem resCon_validA {C:Cfg} (G:GoodCfg C) {g:Nat} (n:Nat) {α:Type} {D:Ds α} {ok:α→Prop} {res:α→AV × List Blk} (he:entersB C.P g = true) (h:∀ a,ok a→∃ args t,AsArgs (D.enc a) args∧callC C n g args = t∧Rez t (res a)):ValidCon C.P g (resCon D ok res):=by
  refine con_of (n:=n) G he fun args r hr=>?_
  unfold resCon at hr
  split at hr
  · rename_i a ha
    obtain ⟨h1,h2⟩:=hr
    cases h2
    obtain ⟨args',t,h0,h3,v,h4,h5⟩:=h a h1
    exact ⟨_,v,(D.ok _ _ ha).trans h0,h4,.of_eq h3 h5⟩
  · exact hr.elim
theorem plainCon_validA {C:Cfg} (G:GoodCfg C) {g:Nat} (n:Nat) {α:Type} {D:Ds α} {res:α→AV} (he:entersB C.P g = true) (h:∀ a,∃ args t,AsArgs (D.enc a) args∧callC C n g args = t∧Rez t (res a,[])):ValidCon C.P g (plainCon D res) :=
  plainCon_of (resCon_validA G n he fun a _=>h a)
end Go.Fx
namespace Go.Fx
open Go Go.RowKit
section
variable {C:Cfg} {w0 w:World} {S:Nat→Prop} {φ:Env}
theorem nil_region {tq : Nat} {m q : Oper} {t tm t' : TypeId} {σ : St} {a : Act} {Q : Exit → Act → World → Prop} {r : RTy} {xs : List r.carrier} {rest : List AV}
    (hm:m.op = .move (.tmp 0)) (hmd:m.dst = some 3) (hmg:m.guard = none) (hq:q.op = .binOp .eql t (.tmp 3) (.const (.slice none 0 0)) t') (hqd:q.dst = some 4) (hqg:q.guard = none)
    (ht:C.P.underlying t = some (.slice tm)) (RS:RepS w0 S φ σ a w) (hσ:σ.tmps = .view r xs :: rest) (h3:3 < σ.tmps.length)
    (h:∀ b v,Reps w S φ [.view r xs] [v]→(b = true→∃ c,v = .slice none 0 c∧xs = [])→Q .normal ((a.put (some 3) v).put (some 4) (.bool b)) w):(Code.region tq #[m,q] false).wp C.P Q a w:=by
  refine wp_region ?_
  have e0:=RS.tmps
  rw [hσ] at e0
  obtain ⟨v,us,hv,hr,hus⟩:=e0.uncons
  have hv0:a.tmps[0]? = some v:=by
    rw [← Array.getElem?_toList,hv]; rfl
  have hlen:σ.tmps.length = a.tmps.size:=by
    have:=RS.tmps.len; simpa using this
  have hev0:a.eval (.tmp 0) = v:=by simp [Act.eval,hv0]
  show wpOps C.P #[m,q] Q [0,1] a w
  rw [wpOps_cons]
  unfold wpOp
  have hi0:(#[m,q]:Array Oper)[0]? = some m:=rfl
  have hw0:∀ y,Region.wanted m y = true:=fun y=>by simp [Region.wanted,hmg]
  simp only [hi0,hw0,if_true]
  refine .inl ?_
  have e1:execOp a.eval m = pure (.value v):=by simp [execOp,hm,hev0]
  unfold Oper.wp
  rw [e1]
  simp only [Sem.run_pure,Oper.upon_value,hmd]
  rw [wpOps_cons]
  unfold wpOp
  have hi1:(#[m,q]:Array Oper)[1]? = some q:=rfl
  have hw1:∀ y,Region.wanted q y = true:=fun y=>by simp [Region.wanted,hqg]
  simp only [hi1,hw1,if_true]
  refine .inl ?_
  have hev3:(a.put (some 3) v).eval (.tmp 3) = v:=by
    have:3 < a.tmps.size:=by omega
    simp [Act.eval,Act.put,this]
  have hevc:(a.put (some 3) v).eval (.const (.slice none 0 0)) = .slice none 0 0:=rfl
  obtain ⟨ad,len,cap,rfl⟩:∃ ad len cap,v = .slice ad len cap:=by
    cases hr with
    | view0=>exact ⟨_,_,_,rfl⟩
    | view=>exact ⟨_,_,_,rfl⟩
  have hg:(eqGuard .eql t (.tmp 3) (.const (.slice none 0 0)) (.slice ad len cap) (.slice none 0 0)).run C.P w = .ok () w:=by simp [eqGuard]
  have hb:(Go.binOp .eql t (.slice ad len cap) (.slice none 0 0)).run C.P w = .ok (.bool ad.isNone) w:=by
    have key:∀ m,(Op.equalIn (m + 1) t (.slice ad len cap) (.slice none 0 0)).run C.P w = .ok ad.isNone w:=by
      intro m
      cases ad <;> simp [Op.equalIn,und_run ht]
    have k2:=key 9999
    simp only [Go.binOp,Op.equal,Op.maxDepth]
    rw [Sem.run_bind,k2]
    simp
  have e2:execOp (a.put (some 3) (.slice ad len cap)).eval q = (do pure (.value (← binSem .eql t (.tmp 3) (.const (.slice none 0 0)) (.slice ad len cap) (.slice none 0 0)))):=by
    simp [execOp,hq,binSem,hev3,hevc]
  have e3:(binSem .eql t (.tmp 3) (.const (.slice none 0 0)) (.slice ad len cap) (.slice none 0 0)).run C.P w = .ok (.bool ad.isNone) w:=by
    unfold binSem
    rw [Sem.run_bind,hg]
    simp only [Result.andThen_ok,hb]
  unfold Oper.wp
  rw [e2,Sem.run_bind,e3]
  simp only [Result.andThen_ok,Sem.run_pure,Oper.upon_value,hqd]
  refine h _ _ hr fun hnil=>?_
  cases hr with
  | view0 _ _ hx _ _ _=>cases ad with
    | none=>exact ⟨_,rfl,hx⟩
    | some x=>simp at hnil
  | view=>simp at hnil
end
def cloneBody (o0:Array Oper) (m q:Oper) (o2 o3:Array Oper):Code :=
  (Code.region 0 o0 false).seq (((Code.region 1 #[m,q] false).seq (.cond (.tmp 4) ((Code.region 2 o2 false).seq .ret) .skip)).seq ((Code.region 3 o3 false).seq .ret))
def cl0 (r:RTy) (xs:List r.carrier):List AV:=[.view r xs,.any,.any,.any,.any,.any,.any,.any]
def cl1 (r:RTy) (xs:List r.carrier):List AV:=[.view r xs,.any,.nils,.any,.any,.any,.any,.any]
def cl2 (r:RTy) (xs:List r.carrier) (b:Bool):List AV:=[.view r xs,.any,.nils,.view r xs,.blit b,.any,.any,.any]
def clEnd (r:RTy) (e:TypeId) (xs:List r.carrier):St:=⟨[.any,.any,.own 0,.any,.any,.any,.any,.any],[(0,.rows r e xs)],1⟩
def cloneRun (g:Nat) (body:Code) (r:RTy) (e:TypeId) (bound:List r.carrier→Prop):Run:=fun g' c σ =>
  match castView r (nth σ.tmps 0) with
  | some xs=>.asrt (g' = g∧c = body∧σ = ⟨cl0 r xs,[],0⟩∧bound xs) (.ret (.ret,clEnd r e xs))
  | none=>.fail
theorem cloneRun_sound {C : Cfg} (G : GoodCfg C) {g n : Nat} {o0 : Array Oper} {m q : Oper} {o2 o3 : Array Oper} {t tm t' e : TypeId} {r : RTy} {bound : List r.carrier → Prop}
    (hm:m.op = .move (.tmp 0)) (hmd:m.dst = some 3) (hmg:m.guard = none) (hq:q.op = .binOp .eql t (.tmp 3) (.const (.slice none 0 0)) t') (hqd:q.dst = some 4) (hqg:q.guard = none)
    (ht:C.P.underlying t = some (.slice tm))
    (h0:∀ xs,Gets (exec C n g (Code.region 0 o0 false) ⟨cl0 r xs,[],0⟩) (.normal,⟨cl1 r xs,[],0⟩))
    (h2:∀ xs,∃ σ,Gets (exec C n g ((Code.region 2 o2 false).seq .ret) ⟨cl2 r xs true,[],0⟩) (.ret,σ)∧(xs = []→Weak 0 σ (clEnd r e xs)))
    (h3:∀ xs,bound xs→∃ σ,Gets (exec C n g ((Code.region 3 o3 false).seq .ret) ⟨cl2 r xs false,[],0⟩) (.ret,σ)∧Weak 0 σ (clEnd r e xs)) :
    SoundRun C (cloneRun g (cloneBody o0 m q o2 o3) r e bound):=by
  intro g' c w0 S φ σ a w Q hsub RS h
  unfold cloneRun at h
  split at h
  · rename_i xs hxs
    obtain ⟨⟨rfl,rfl,rfl,hbd⟩,h⟩:=h
    have hf0:∀ id,0≤id→φ id = none:=fun id hid=>RS.fresh id hid
    have s0:SubOf C.P g' (Code.region 0 o0 false):=hsub.sub (.seqL _ (.refl _))
    have s2:SubOf C.P g' ((Code.region 2 o2 false).seq .ret):=hsub.sub (.seqR _ (.seqL _ (.seqR _ (.condL _ _ (.refl _)))))
    have s3:SubOf C.P g' ((Code.region 3 o3 false).seq .ret):=hsub.sub (.seqR _ (.seqR _ (.refl _)))
    have fin:∀ {σ':St} {a':Act} {w':World} {φ':Env},Weak 0 σ' (clEnd r e xs)→RepS w0 S φ' σ' a' w'→After w S φ 0 σ'.next w' φ'→Q .ret a' w':=by
      intro σ' a' w' φ' hw RS' A'
      obtain ⟨φ2,RS2,A2⟩:=hw w0 S w φ φ' a' w' hf0 RS' A'
      exact h a' w' φ2 RS2 A2
    refine wp_seq ((exec_sound G n).1 g' _ w0 S φ _ a w _ s0 RS (Tree.wp_of_out (h0 xs).out fun a1 w1 φ1 RS1 A1=>?_))
    refine wp_seq (wp_seq (nil_region hm hmd hmg hq hqd hqg ht RS1 (r:=r) (xs:=xs) rfl (by simp [cl1]) fun b v hv hb=>?_))
    have hlen1:a1.tmps.size = 8:=by have:=RS1.tmps.len; simpa [cl1] using this.symm
    have RS2:RepS w0 S φ1 ⟨cl2 r xs b,[],0⟩ ((a1.put (some 3) v).put (some 4) (.bool b)) w1:=by
      refine ⟨?_,RS1.mem,RS1.fresh,put_defers (put_defers RS1.defers _ _) _ _⟩
      exact putT_reps (ts:=setNth (cl1 r xs) 3 (.view r xs)) (putT_reps RS1.tmps (some 3) hv) (some 4) (.blit b .nil)
    have he:((a1.put (some 3) v).put (some 4) (.bool b)).eval (.tmp 4) = .bool b:=by
      simp [Act.eval,Act.put,hlen1]
    cases b with
    | true =>
      obtain ⟨_,_,hx⟩:=hb rfl
      obtain ⟨σ',k1,k2⟩:=h2 xs
      refine wp_cond_true he ((exec_sound G n).1 g' _ w0 S φ1 _ _ w1 _ s2 RS2 (Tree.wp_of_out k1.out fun a2 w2 φ2 RS3 A2=>?_))
      exact fin (k2 hx) RS3 (A1.trans A2)
    | false =>
      obtain ⟨σ',k1,k2⟩:=h3 xs hbd
      refine wp_cond_false he (wp_skip ?_)
      exact (exec_sound G n).1 g' _ w0 S φ1 _ _ w1 _ s3 RS2 (Tree.wp_of_out k1.out fun a2 w2 φ2 RS3 A2=>fin k2 RS3 (A1.trans A2))
  · exact h.elim
theorem clone_valid {C : Cfg} {g : Nat} {body : Code} {r : RTy} {e : TypeId} {bound : List r.carrier → Prop} (hs : SoundRun C (cloneRun g body r e bound)) (he : entersB C.P g = true)
    (h:∀ xs,bound xs→Gets (callR C (cloneRun g body r e bound) g [.view r xs]) (.own 0,[.rows r e xs])):ValidCon C.P g (resCon (d1 (dView r)) bound fun xs=>(.own 0,[.rows r e xs])):=by
  refine con_of_run hs (enters_of he) fun args r' hr=>?_
  unfold resCon at hr
  split at hr
  · rename_i xs hxs
    obtain ⟨h1,h2⟩:=hr
    cases h2
    exact ⟨_,(h xs h1).out,fun w S φ vals hv=>((d1 (dView r)).ok _ _ hxs).reps hv⟩
  · exact hr.elim
def seqL:Code→Code
  | .seq a _=>a
  | c=>c
def seqR:Code→Code
  | .seq _ b=>b
  | c=>c
def condL:Code→Code
  | .cond _ a _=>a
  | c=>c
def regOps:Code→Array Oper
  | .region _ ops _=>ops
  | _=>#[]
def opNo (ops : Array Oper) (i : Nat) : Oper := (ops.toList.drop i).headD { dst := none, op := .move (.tmp 0), type := 0, pos := "", after := #[], guard := none }
def clO0 (b:Code):Array Oper:=regOps (seqL b)
def clO1 (b:Code):Array Oper:=regOps (seqL (seqL (seqR b)))
def clO2 (b:Code):Array Oper:=regOps (seqL (condL (seqR (seqL (seqR b)))))
def clO3 (b:Code):Array Oper:=regOps (seqL (seqR (seqR b)))
def clB (b:Code):Code:=cloneBody (clO0 b) (opNo (clO1 b) 0) (opNo (clO1 b) 1) (clO2 b) (clO3 b)
theorem round_ret {C:Cfg} {n g n0:Nat} {c:Code} {f e:St→St} {σ σ':St} {p:Prop} (hw:∀ σ,Weak n0 σ (e σ)) (h:roundN C n g c f e σ = .asrt p (.ret (.ret,σ'))) (hp:p):∃ σ1,Gets (exec C n g c σ) (.ret,σ1)∧Weak n0 σ1 σ':=by
  have ho:(roundN C n g c f e σ).wp (fun x=>x = (Ex.ret,σ')):=by rw [h]; exact ⟨hp,rfl⟩
  unfold roundN at ho
  rw [Tree.wp_bind] at ho
  obtain ⟨⟨x,σ1⟩,k1,k2⟩:=Tree.wp_out.1 ho
  cases x with
  | ret =>
    have k3:(Ex.ret,e σ1) = (Ex.ret,σ'):=k2
    refine ⟨σ1,⟨k1⟩,?_⟩
    have k4:e σ1 = σ':=congrArg Prod.snd k3
    rw [← k4]
    exact hw σ1
  | normal=>have k3:=congrArg Prod.fst (k2:(Ex.normal,_) = (Ex.ret,_)); cases k3
  | exit i=>have k3:=congrArg Prod.fst (k2:(Ex.exit i,_) = (Ex.ret,_)); cases k3
  | goto i=>have k3:=congrArg Prod.fst (k2:(Ex.goto i,_) = (Ex.ret,_)); cases k3
end Go.Fx
namespace Go.Fx
open Go
def boundB {X β:Type} (n0:Nat) (f:St→St) (T:X × Int→St) (get:St→Option (X × Int)) (bnd:X→Int) (ok:X→Int→Prop) (nxt:X→Int→X) (brk:X→Int→Option β) (d:β) (R:β→Ex × St) (E:X→Ex × St):LoopCon :=
  entry n0 f T get fun p =>
      .asrt (0≤p.2∧bnd p.1≤maxI64∧okI nxt brk ok (bnd p.1 - p.2).toNat p.1 p.2)
        (optT d (brkI nxt brk (bnd p.1 - p.2).toNat p.1 p.2) (fun b=>.ret (R b)) (.ret (E (foldI nxt (bnd p.1 - p.2).toNat p.1 p.2))))
def boundF {X:Type} (n0:Nat) (f:St→St) (T:X × Int→St) (get:St→Option (X × Int)) (bnd:X→Int) (ok:X→Int→Prop) (nxt:X→Int→X) (E:X→Ex × St):LoopCon :=
  entry n0 f T get fun p =>
      .asrt (0≤p.2∧bnd p.1≤maxI64∧okI nxt (fun _ _=>(none:Option Unit)) ok (bnd p.1 - p.2).toNat p.1 p.2) (.ret (E (foldI nxt (bnd p.1 - p.2).toNat p.1 p.2)))
theorem bound_loop {C : Cfg} (G : GoodCfg C) {g l : Nat} (n n0 : Nat) (f e : St → St) (hf : ∀ σ, Weak n0 σ (f σ)) (he : ∀ σ, Weak n0 σ (e σ)) (hs : SubOf C.P g (.loop (loopAt C.P g l)))
    {X β:Type} (T:X × Int→St) (get:St→Option (X × Int)) (bnd:X→Int) (ok:X→Int→Prop) (nxt:X→Int→X) (brk:X→Int→Option β) (d:β) (R:β→Ex × St) (E:X→Ex × St)
    (hE:∀ x,(E x).1≠.normal) (hR:∀ b,(R b).1≠.normal) (hB:∀ x i,bnd (nxt x i) = bnd x)
    (hround:∀ x i,0≤i→i < bnd x→bnd x≤maxI64→ok x i →
      Gets (roundN C n g (loopAt C.P g l) f e (T (x,i))) (match brk x i with | some b=>R b | none=>(.normal,T (nxt x i,i + 1))))
    (hend:∀ x i,bnd x≤i→Gets (roundN C n g (loopAt C.P g l) f e (T (x,i))) (E x)) :
    SoundLoop C (loopAt C.P g l) (boundB n0 f T get bnd ok nxt brk d R E):=by
  refine loop_rule3 (C:=C) (g:=g) (l:=l) G n n0 f e hf he hs T _ (fun p=>(bnd p.1 - p.2).toNat) (fun p q h=>?_) entry_out
  obtain ⟨x,i⟩:=p
  obtain ⟨⟨h0,h2,h3⟩,h⟩:=Tree.out_asrt.1 h
  simp only at h0 h2 h3 h
  replace h:=optT_out.1 h
  rcases Int.lt_or_le i (bnd x) with hlt | hle
  · have hk:(bnd x - i).toNat = (bnd x - (i + 1)).toNat + 1:=by omega
    rw [hk] at h h3
    have hg:=hround x i h0 hlt h2 h3.1
    refine ⟨Tree.wp_of_out hg.out ?_⟩
    unfold brkI at h
    cases hb:brk x i with
    | some b =>
      simp only [hb] at h
      have h':R b = q:=h
      unfold Rnd
      split
      · rename_i hn; exact absurd hn (hR b)
      · rename_i ex hn; exact h'.symm
    | none =>
      simp only [hb] at h
      refine Rnd.go (m:=fun p:X × Int=>(bnd p.1 - p.2).toNat) (x:=(x,i)) (nxt x i,i + 1) (by simp only [hB]; omega) ?_
      have h3':=h3.2 hb
      rw [← hB x i] at h h3' h2
      exact Tree.out_asrt.2 ⟨⟨(show 0≤i + 1 by omega),h2,h3'⟩,optT_out.2 h⟩
  · have hk:(bnd x - i).toNat = 0:=by omega
    rw [hk] at h
    have h':E x = q:=h
    refine ⟨Tree.wp_of_out (hend x i hle).out ?_⟩
    unfold Rnd
    split
    · rename_i hn; exact absurd hn (hE x)
    · rename_i ex hn; exact h'.symm
theorem bound_fold {C : Cfg} (G : GoodCfg C) {g l : Nat} (n n0 : Nat) (f e : St → St) (hf : ∀ σ, Weak n0 σ (f σ)) (he : ∀ σ, Weak n0 σ (e σ)) (hs : SubOf C.P g (.loop (loopAt C.P g l)))
    {X:Type} (T:X × Int→St) (get:St→Option (X × Int)) (bnd:X→Int) (ok:X→Int→Prop) (nxt:X→Int→X) (E:X→Ex × St)
    (hE:∀ x,(E x).1≠.normal) (hB:∀ x i,bnd (nxt x i) = bnd x)
    (hround:∀ x i,0≤i→i < bnd x→bnd x≤maxI64→ok x i→Gets (roundN C n g (loopAt C.P g l) f e (T (x,i))) (.normal,T (nxt x i,i + 1)))
    (hend:∀ x i,bnd x≤i→Gets (roundN C n g (loopAt C.P g l) f e (T (x,i))) (E x)) :
    SoundLoop C (loopAt C.P g l) (boundF n0 f T get bnd ok nxt E):=by
  refine loop_rule3 (C:=C) (g:=g) (l:=l) G n n0 f e hf he hs T _ (fun p=>(bnd p.1 - p.2).toNat) (fun p q h=>?_) entry_out
  obtain ⟨x,i⟩:=p
  obtain ⟨⟨h0,h2,h3⟩,h⟩:=Tree.out_asrt.1 h
  simp only at h0 h2 h3 h
  rcases Int.lt_or_le i (bnd x) with hlt | hle
  · have hk:(bnd x - i).toNat = (bnd x - (i + 1)).toNat + 1:=by omega
    rw [hk] at h h3
    have hg:=hround x i h0 hlt h2 h3.1
    refine ⟨Tree.wp_of_out hg.out ?_⟩
    refine Rnd.go (m:=fun p:X × Int=>(bnd p.1 - p.2).toNat) (x:=(x,i)) (nxt x i,i + 1) (by simp only [hB]; omega) ?_
    have h3':=h3.2 rfl
    rw [← hB x i] at h h3' h2
    exact Tree.out_asrt.2 ⟨⟨(show 0≤i + 1 by omega),h2,h3'⟩,h⟩
  · have hk:(bnd x - i).toNat = 0:=by omega
    rw [hk] at h
    have h':E x = q:=h
    refine ⟨Tree.wp_of_out (hend x i hle).out ?_⟩
    unfold Rnd
    split
    · rename_i hn; exact absurd hn (hE x)
    · rename_i ex hn; exact h'.symm
theorem while_fold {C : Cfg} (G : GoodCfg C) {g l : Nat} (n n0 : Nat) (f e : St → St) (hf : ∀ σ, Weak n0 σ (f σ)) (he : ∀ σ, Weak n0 σ (e σ)) (hs : SubOf C.P g (.loop (loopAt C.P g l)))
    {X:Type} (T:X × Int→St) (get:St→Option (X × Int)) (bnd:X→Int) (cond:X→Int→Bool) (ok:X→Int→Prop) (nxt:X→Int→X) (E:X→Ex × St)
    (hE:∀ x,(E x).1≠.normal) (hB:∀ x i,bnd (nxt x i) = bnd x)
    (hround:∀ x i,0≤i→i < bnd x→bnd x≤maxI64→ok x i→cond x i = true→Gets (roundN C n g (loopAt C.P g l) f e (T (x,i))) (.normal,T (nxt x i,i + 1)))
    (hstop:∀ x i,(bnd x≤i∨cond x i = false)→Gets (roundN C n g (loopAt C.P g l) f e (T (x,i))) (E x))
    (hid:∀ x i k,cond x i = false→foldI nxt k x i = x) :
    SoundLoop C (loopAt C.P g l) (boundF n0 f T get bnd ok nxt E):=by
  refine loop_rule3 (C:=C) (g:=g) (l:=l) G n n0 f e hf he hs T _ (fun p=>(bnd p.1 - p.2).toNat) (fun p q h=>?_) entry_out
  obtain ⟨x,i⟩:=p
  obtain ⟨⟨h0,h2,h3⟩,h⟩:=Tree.out_asrt.1 h
  simp only at h0 h2 h3 h
  have stop:(bnd x≤i∨cond x i = false)→foldI nxt (bnd x - i).toNat x i = x→Holds (roundN C n g (loopAt C.P g l) f e (T (x,i))) (Rnd T (fun p=>(bnd p.1 - p.2).toNat) (fun p=>.asrt (0≤p.2∧bnd p.1≤maxI64∧okI nxt (fun _ _=>(none:Option Unit)) ok (bnd p.1 - p.2).toNat p.1 p.2) (.ret (E (foldI nxt (bnd p.1 - p.2).toNat p.1 p.2)))) (x,i) q):=by
    intro hc hx
    rw [hx] at h
    have h':E x = q:=h
    refine ⟨Tree.wp_of_out (hstop x i hc).out ?_⟩
    unfold Rnd
    split
    · rename_i hn; exact absurd hn (hE x)
    · rename_i ex hn; exact h'.symm
  rcases Int.lt_or_le i (bnd x) with hlt | hle
  · cases hc:cond x i with
    | false=>exact stop (.inr hc) (hid x i _ hc)
    | true =>
      have hk:(bnd x - i).toNat = (bnd x - (i + 1)).toNat + 1:=by omega
      rw [hk] at h h3
      have hg:=hround x i h0 hlt h2 h3.1 hc
      refine ⟨Tree.wp_of_out hg.out ?_⟩
      refine Rnd.go (m:=fun p:X × Int=>(bnd p.1 - p.2).toNat) (x:=(x,i)) (nxt x i,i + 1) (by simp only [hB]; omega) ?_
      have h3':=h3.2 rfl
      rw [← hB x i] at h h3' h2
      exact Tree.out_asrt.2 ⟨⟨(show 0≤i + 1 by omega),h2,h3'⟩,h⟩
  · have hk:(bnd x - i).toNat = 0:=by omega
    exact stop (.inl hle) (by rw [hk]; rfl)
def eitherL (n:Nat) (L1 L2:LoopCon):LoopCon:=fun σ=>bif Nat.beq σ.next n then L1 σ else L2 σ
theorem SoundLoop.either {C:Cfg} {b:Code} {L1 L2:LoopCon} (n:Nat) (h1:SoundLoop C b L1) (h2:SoundLoop C b L2):SoundLoop C b (eitherL n L1 L2):=by
  intro w0 S φ σ a w Q hr hw
  unfold eitherL at hw
  cases h:Nat.beq σ.next n with
  | true=>rw [h] at hw; exact h1 w0 S φ σ a w Q hr hw
  | false=>rw [h] at hw; exact h2 w0 S φ σ a w Q hr hw
end Go.Fx
namespace Go.Fx
open Go
end Go.Fx
namespace Go.Fx
open Go Go.RowKit
end Go.Fx
namespace Go.Fx
open Go
section
variable {C:Cfg}
end
end Go.Fx
namespace Go.Fx
open Go
section
variable {w:World} {S:Nat→Prop} {φ:Env}
end
end Go.Fx
namespace Go.Fx
open Go Go.RowKit
section
variable {P:Program} {l n:Nat}
end
def roundJ (C:Cfg) (n g:Nat) (body:Code) (f e:St→St) (σ:St):Tree (Ex × St) :=
  (exec C n g body σ).bind fun r=>match r.1 with
    | .goto l=>.ret (.goto l,f r.2)
    | x=>.ret (x,e r.2)
def RndJ {X:Type} (l:Nat) (T:X→St) (m:X→Nat) (Lx:X→Tree (Ex × St)) (x:X) (r r1:Ex × St):Prop :=
  match r1.1 with
  | .goto l'=>l' = l∧∃ x',r1.2 = T x'∧m x' < m x∧(Lx x').Out r
  | e=>r = (e,r1.2)
theorem jump_rule3 {C : Cfg} (G : GoodCfg C) {g l : Nat} (n n0 : Nat) (f e : St → St) (hf : ∀ σ, Weak n0 σ (f σ)) (he : ∀ σ, Weak n0 σ (e σ)) (hs : SubOf C.P g (restAt C.P g l)) {X : Type} (T : X → St) (Lx : X → Tree (Ex × St)) (m : X → Nat)
    (hstep:∀ x r,(Lx x).Out r→Holds (roundJ C n g (restAt C.P g l) f e (T x)) (RndJ l T m Lx x r))
    {L:LoopCon} (hL:∀ σ r,(L σ).Out r→σ.next = n0∧∃ x,f σ = T x∧(Lx x).Out r):SoundJump C (restAt C.P g l) l L:=by
  refine jump_rule G hs T Lx m (n:=n) (n0:=n0) (fun x r hr=>?_) (fun σ r hr=>?_)
  · have h:=(hstep x r hr).wp
    unfold roundJ at h
    rw [Tree.wp_bind] at h
    obtain ⟨r1,h1,h2⟩:=Tree.wp_out.1 h
    refine ⟨r1,h1,?_⟩
    obtain ⟨x1,σ1⟩:=r1
    cases x1 with
    | goto l' =>
      obtain ⟨h0,x',h3,h4,h5⟩:=h2
      exact ⟨h0,x',h3 ▸ hf σ1,h4,h5⟩
    | _=>have h2':r = _:=h2; subst h2'; exact ⟨rfl,he σ1⟩
  · obtain ⟨h1,x,h2,h3⟩:=hL σ r hr
    exact ⟨h1,x,h2 ▸ hf σ,h3⟩
end Go.Fx
