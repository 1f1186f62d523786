import Derived.Test.YtdmlnbfejgdhaaaGreatFxFr
import Derived.Test.YtdmlnbfejgdhaaaGreatE5
import Derived.Test.YtdmlnbfejgdhaaaGreatP0
import Derived.Test.YtdmlnbfejgdhaaaGreatD2
import Derived.Test.YtdmlnbfejgdhaaaGreatC3
import Derived.Test.YtdmlnbfejgdhaaaGreatQA
namespace Go.Fx
open Go
def freezeS (d:Nat) (σ:St):St :=
 match nth σ.tmps d with
 | .slc b off n sz=>match σ.heap.get b with
  | some blk=>match lowerV (fun c=>if c=b then some blk else none) 64 (.slc b off n sz) with
   | some x=>{ σ with tmps:=setNth σ.tmps d x,heap:=σ.heap.del b }
   | none=>σ
  | none=>σ
 | _=>σ
theorem Weak.freezeS (n0 d:Nat) (σ:St):Weak n0 σ (freezeS d σ):=by
 unfold Fx.freezeS
 split
 ·rename_i b off n sz hd
  split
  ·rename_i blk0 hg
   split
   ·rename_i x hlow
    intro w0 S we φe φ a w hf h1 h2
    have hm:=killE_mono (w:=w) (S:=S) (φ:=φ) b
    refine ⟨killE φ b,⟨?_,⟨?_,?_,?_,h1.mem.below,h1.mem.sb⟩,?_,h1.defers⟩,⟨h2.mono.trans hm,?_,h2.grow⟩⟩
    ·obtain ⟨v,hv,hr⟩:=h1.tmps.get (nth_some hd (by simp))
     have hx:Reps w S (killE φ b) [x] [v]:=by
      refine (lower_repsE (look:=fun c=>if c=b then some blk0 else none) (φ:=φ) (S:=S) ?_ (fun B hs=>(hm.stab B hs).1) ?_ 64).1 _ _ v hlow hr
      ·intro c blk hc
       have hc:(if c=b then some blk0 else none)=some blk:=hc
       split at hc
       ·rename_i he
        cases hc
        exact h1.mem.heap _ _ (he ▸ hg)
       ·cases hc
      ·intro c B cap len blk hc hb hB
       have hc:(if c=b then some blk0 else none)=some blk:=hc
       split at hc
       ·rename_i he
        subst he
        refine ⟨hB,h1.mem.disj B ⟨_,_,_,hb⟩,?_⟩
        rintro ⟨c',cap',len',h3⟩
        obtain ⟨h4,h5⟩:=killE_alive h3 rfl
        exact h4 (h1.mem.inj _ _ _ _ _ _ _ h5 hb)
       ·cases hc
     have:=(h1.tmps.mono hm).setNth d hx
     have e':a.tmps.toList.set d v=a.tmps.toList:=by
      apply List.ext_getElem?
      intro j
      rw [List.getElem?_set]
      split
      ·rename_i e; subst e; split
       ·exact hv.symm
       ·rename_i hlt; rw [List.getElem?_eq_none (by omega)]
      ·rfl
     rwa [e'] at this
    ·intro c blk hc
     rw [Heap.get_del] at hc
     split at hc
     ·cases hc
     ·rename_i hne
      obtain ⟨B,cap,len,h3,h4⟩:=h1.mem.heap _ _ hc
      exact ⟨B,cap,len,by rw [killE_ne hne]; exact h3,h4.mono hm fun _ _=>rfl⟩
    ·intro c c' B n1 l1 n2 l2 h3 h4
     exact h1.mem.inj _ _ _ _ _ _ _ (killE_alive h3 rfl).2 (killE_alive h4 rfl).2
    ·exact fun B hB=>h1.mem.rng B (killE_own hB).1
    ·intro id hid
     unfold killE
     split
     ·rw [h1.fresh id hid]; rfl
     ·exact h1.fresh id hid
    ·intro id hid hn
     have:=h2.old id hid hn
     unfold killE
     split
     ·rw [this]; rfl
     ·exact this
   ·exact Weak.refl _ _
  ·exact Weak.refl _ _
 ·exact Weak.refl _ _
def execV (C:Cfg) (f:St→St):List Bool→Nat→Run
 | [],n=>fun g c σ=>exec C n g c (f σ)
 | true :: p,n=>fun g c σ=>match c with
  | .seq a b=>(exec C n g a σ).bind fun r=>match r.1 with | .normal=>execV C f p n g b r.2 | e=>.ret (e,r.2)
  | .block id body=>(execV C f p n g body σ).bind fun r=>match r.1 with | .exit i=>(if i=id then .ret (.normal,r.2) else .ret r) | _=>.ret r
  | _=>.fail
 | false :: p,n=>fun g c σ=>match c with
  | .seq a b=>(execV C f p n g a σ).bind fun r=>match r.1 with | .normal=>exec C n g b r.2 | e=>.ret (e,r.2)
  | _=>.fail
theorem execV_sound {C : Cfg} (G : GoodCfg C) {n0 : Nat} {f : St → St} (hf : ∀ σ, Weak n0 σ (f σ)) : ∀ (p : List Bool) (n g : Nat) (c : Code) (σ : St) (w0 : World) (S : Nat → Prop) (φ : Env) (a : Act) (w we : World) (φe : Env) (Q : Exit → Act → World → Prop), SubOf C.P g c → (∀ id, n0 ≤ id → φe id = none) → RepS w0 S φ σ a w → After we S φe n0 σ.next w φ →
    (execV C f p n g c σ).wp (fun r=>∀ a' w' φ',RepS w0 S φ' r.2 a' w'→After we S φe n0 r.2.next w' φ'→Q (exOf r.1) a' w')→c.wp C.P Q a w
  | [],n,g,c,σ,w0,S,φ,a,w,we,φe,Q,hs,he,RS,HA,h=>by
    obtain ⟨φ2,RS2,HA2⟩:=hf σ w0 S we φe φ a w he RS HA
    exact (exec_sound G n).1 g c w0 S φ2 (f σ) a w Q hs RS2 (Tree.wp_mono h fun r hr a' w' φ' RS' HA'=>hr a' w' φ' RS' (HA2.trans HA'))
  | true :: p,n,g,c,σ,w0,S,φ,a,w,we,φe,Q,hs,he,RS,HA,h=>by
    cases c with
    | seq x y =>
      have h:((exec C n g x σ).bind fun r=>match r.1 with | .normal=>execV C f p n g y r.2 | e=>.ret (e,r.2)).wp _:=h
      rw [Tree.wp_bind] at h
      refine wp_seq ((exec_sound G n).1 g x w0 S φ σ a w _ (hs.sub (.seqL _ (.refl _))) RS (Tree.wp_mono h fun r hr a' w' φ' RS' HA'=>?_))
      obtain ⟨e,σ1⟩:=r
      cases e with
      | normal=>exact execV_sound G hf p n g y σ1 w0 S φ' a' w' we φe Q (hs.sub (.seqR _ (.refl _))) he RS' (HA.trans HA') hr
      | exit id=>exact hr a' w' φ' RS' (HA.trans HA')
      | goto l'=>exact hr a' w' φ' RS' (HA.trans HA')
      | ret=>exact hr a' w' φ' RS' (HA.trans HA')
    | block id body =>
      have h:((execV C f p n g body σ).bind fun r=>match r.1 with | .exit i=>(if i=id then .ret (.normal,r.2) else .ret r) | _=>.ret r).wp _:=h
      rw [Tree.wp_bind] at h
      refine wp_block (execV_sound G hf p n g body σ w0 S φ a w we φe _ (hs.sub (.block _ (.refl _))) he RS HA (Tree.wp_mono h fun r hr a' w' φ' RS' HA'=>?_))
      obtain ⟨e,σ'⟩:=r
      cases e with
      | normal=>exact hr a' w' φ' RS' HA'
      | exit i =>
        simp only [exOf,Exit.inBlock] at hr ⊢
        split at hr
        · rename_i e; rw [if_pos e]; exact hr a' w' φ' RS' HA'
        · rename_i e; rw [if_neg e]; exact hr a' w' φ' RS' HA'
      | goto l=>exact hr a' w' φ' RS' HA'
      | ret=>exact hr a' w' φ' RS' HA'
    | _=>exact h.elim
  | false :: p,n,g,c,σ,w0,S,φ,a,w,we,φe,Q,hs,he,RS,HA,h=>by
    cases c with
    | seq x y =>
      have h:((execV C f p n g x σ).bind fun r=>match r.1 with | .normal=>exec C n g y r.2 | e=>.ret (e,r.2)).wp _:=h
      rw [Tree.wp_bind] at h
      refine wp_seq (execV_sound G hf p n g x σ w0 S φ a w we φe _ (hs.sub (.seqL _ (.refl _))) he RS HA (Tree.wp_mono h fun r hr a' w' φ' RS' HA'=>?_))
      obtain ⟨e,σ1⟩:=r
      cases e with
      | normal=>exact (exec_sound G n).1 g y w0 S φ' σ1 a' w' Q (hs.sub (.seqR _ (.refl _))) RS' (Tree.wp_mono hr fun r2 h2 a2 w2 φ2 RS2 HA2=>h2 a2 w2 φ2 RS2 (HA'.trans HA2))
      | exit id=>exact hr a' w' φ' RS' HA'
      | goto l'=>exact hr a' w' φ' RS' HA'
      | ret=>exact hr a' w' φ' RS' HA'
    | _=>exact h.elim
theorem loop_ruleV {C : Cfg} (G : GoodCfg C) {g n n0 : Nat} {f : St → St} {p : List Bool} (hw : ∀ σ, Weak n0 σ (f σ)) {body : Code} (hsub : SubOf C.P g body) {X : Type} (T : X → St) (Lx : X → Tree (Ex × St)) (m : X → Nat)
    (hstep:∀ x r,(Lx x).Out r→∃ r1,(execV C f p n g body (T x)).Out r1∧match r1.1 with
      | .normal=>∃ x',Weak n0 r1.2 (T x')∧m x' < m x∧(Lx x').Out r
      | e=>r.1=e∧Weak n0 r1.2 r.2)
    {L:LoopCon} (hL:∀ σ r,(L σ).Out r→σ.next=n0∧∃ x,Weak n0 σ (T x)∧(Lx x).Out r):SoundLoop C body L:=by
  intro w0 S φ σ a w Q RS h
  obtain ⟨r,hr,hF⟩:=Tree.wp_out.1 h
  obtain ⟨hn,x,hw',hx⟩:=hL σ r hr
  have hfr:∀ id,n0≤id→φ id=none:=fun id hid=>RS.fresh id (by omega)
  have start:After w S φ n0 σ.next w φ:=by rw [hn]; exact After.refl _ _ _ _
  obtain ⟨φ1,RS1,A1⟩:=hw' w0 S w φ φ a w hfr RS start
  have key:∀ k x φ1 a1 w1,m x≤k→RepS w0 S φ1 (T x) a1 w1→After w S φ n0 (T x).next w1 φ1→(Lx x).Out r→LoopN C.P body Q (m x+1) a1 w1:=by
    intro k
    induction k with
    | zero =>
      intro x φ1 a1 w1 hk RS1 A1 hx
      obtain ⟨r1,h1,h2⟩:=hstep x r hx
      refine execV_sound G hw p n g body (T x) w0 S φ1 a1 w1 w φ _ hsub hfr RS1 A1 (Tree.wp_of_out h1 fun a' w' φ' RS' A'=>?_)
      obtain ⟨e,σ1⟩:=r1
      cases e with
      | normal=>obtain ⟨x',_,h4,_⟩:=h2; omega
      | _ =>
        obtain ⟨h3,h4⟩:=h2
        obtain ⟨φ2,RS2,A2⟩:=h4 w0 S w φ φ' a' w' hfr RS' A'
        have:=hF a' w' φ2 RS2 (by rw [hn]; exact A2)
        rw [h3] at this
        exact this
    | succ k ih =>
      intro x φ1 a1 w1 hk RS1 A1 hx
      obtain ⟨r1,h1,h2⟩:=hstep x r hx
      refine execV_sound G hw p n g body (T x) w0 S φ1 a1 w1 w φ _ hsub hfr RS1 A1 (Tree.wp_of_out h1 fun a' w' φ' RS' A'=>?_)
      obtain ⟨e,σ1⟩:=r1
      cases e with
      | normal =>
        obtain ⟨x',h3,h4,h5⟩:=h2
        obtain ⟨φ2,RS2,A2⟩:=h3 w0 S w φ φ' a' w' hfr RS' A'
        exact loopN_le (by omega) (ih x' φ2 a' w' (by omega) RS2 A2 h5)
      | _ =>
        obtain ⟨h3,h4⟩:=h2
        obtain ⟨φ2,RS2,A2⟩:=h4 w0 S w φ φ' a' w' hfr RS' A'
        have:=hF a' w' φ2 RS2 (by rw [hn]; exact A2)
        rw [h3] at this
        exact this
  exact loopN_sound (key _ x φ1 a w (Nat.le_refl _) RS1 A1 hx)
def roundV (C:Cfg) (v:St→St) (p:List Bool) (n g:Nat) (body:Code) (f e:St→St) (σ:St):Tree (Ex × St) :=
 (execV C v p n g body σ).bind fun r=>match r.1 with
  | .normal=>.ret (.normal,f r.2)
  | x=>.ret (x,e r.2)
theorem loop_rule4 {C : Cfg} (G : GoodCfg C) {g l : Nat} (n n0 : Nat) (v f e : St → St) (p : List Bool) (hv : ∀ σ, Weak n0 σ (v σ)) (hf : ∀ σ, Weak n0 σ (f σ)) (he : ∀ σ, Weak n0 σ (e σ)) (hs : SubOf C.P g (.loop (loopAt C.P g l))) {X : Type} (T : X → St) (Lx : X → Tree (Ex × St)) (m : X → Nat)
    (hstep:∀ x r,(Lx x).Out r→Holds (roundV C v p n g (loopAt C.P g l) f e (T x)) (Rnd T m Lx x r))
    {L:LoopCon} (hL:∀ σ r,(L σ).Out r→σ.next=n0∧∃ x,f σ=T x∧(Lx x).Out r):SoundLoop C (loopAt C.P g l) L:=by
  refine loop_ruleV G (n:=n) (n0:=n0) (p:=p) hv (subOf_of hs) T Lx m (fun x r hr=>?_) (fun σ r hr=>?_)
  · have h:=(hstep x r hr).wp
    unfold roundV at h
    rw [Tree.wp_bind] at h
    obtain ⟨r1,h1,h2⟩:=Tree.wp_out.1 h
    refine ⟨r1,h1,?_⟩
    obtain ⟨x1,σ1⟩:=r1
    cases x1 with
    | normal =>
      obtain ⟨x',h3,h4,h5⟩:=h2
      exact ⟨x',h3 ▸ hf σ1,h4,h5⟩
    | _=>have h2':r=_:=h2; subst h2'; exact ⟨rfl,he σ1⟩
  · obtain ⟨h1,x,h2,h3⟩:=hL σ r hr
    exact ⟨h1,x,h2 ▸ hf σ,h3⟩
end Go.Fx
namespace Go.Fx
open Go Go.Proofs
theorem foldI_add {X:Type} (nxt:X→Int→X):∀ (a b:Nat) (x:X) (i:Int),foldI nxt (a+b) x i=foldI nxt b (foldI nxt a x i) (i+a)
 | 0,b,x,i=>by
  rw [Nat.zero_add,show i+((0:Nat):Int)=i by omega]
  rfl
 | a+1,b,x,i=>by
  rw [show a+1+b=(a+b)+1 by omega]
  show foldI nxt (a+b) (nxt x i) (i+1)=foldI nxt b (foldI nxt a (nxt x i) (i+1)) (i+((a+1:Nat):Int))
  rw [foldI_add nxt a b,show i+1+(a:Int)=i+((a+1:Nat):Int) by omega]
def turnAt (s:Fu.Serv) (T:List Fu.Task) (j:Int):Fu.Task:=turnK (rd .task T j) (rd .aim s.R.L j).S (rd .aim s.R.L j).P
theorem try_turn (s:Fu.Serv):∀ (k:Nat) (T:List Fu.Task) (i:Int),0≤i→i+k≤T.length→∃ T',foldI nxtTr k (s,T) i=(s,T')∧T'.length=T.length∧∀ j:Int,0≤j→j < T.length→rd .task T' j=if i≤j∧j < i+k then turnAt s T j else rd .task T j
 | 0,T,i,_,_=>⟨T,rfl,rfl,fun j _ _=>by rw [if_neg (by omega)]⟩
 | k+1,T,i,h0,h1=>by
  have hi:i < (T.length:Int):=by omega
  have e:nxtTr (s,T) i=(s,upd .task T i (turnAt s T i)):=by
   unfold nxtTr turnAt
   simp only
   rw [decide_eq_true hi]
   rfl
  obtain ⟨T',q1,q2,q3⟩:=try_turn s k (upd .task T i (turnAt s T i)) (i+1) (by omega) (by rw [upd_len]; omega)
  refine ⟨T',by show foldI nxtTr k (nxtTr (s,T) i) (i+1)=_; rw [e]; exact q1,by rw [q2,upd_len],fun j j0 j1=>?_⟩
  rw [q3 j j0 (by rw [upd_len]; exact j1)]
  have hr:=rd_upd (r:=.task) (x:=turnAt s T i) h0 hi j0 j1
  by_cases hj:j=i
  ·rw [if_neg (by omega),if_pos (by omega),hr,if_pos hj,hj]
  ·rw [if_neg hj] at hr
   by_cases hr2:i+1≤j∧j < i+1+k
   ·rw [if_pos hr2,if_pos (by omega)]
    unfold turnAt at hr ⊢
    rw [hr]
   ·rw [if_neg hr2,if_neg (by omega),hr]
structure NewIn (s:Fu.Serv):Prop where
 may:mayE s=true
 on:s.R.On=true
 new:s.R.New≠-1
section
variable {s:Fu.Serv}
theorem NewIn.aims (h:NewIn s):(s.R.L.length≤4∧algn (newP s s.W.T) s.W.T s.R.L)∧testV (s.R.L.map fixA)=true:=by
 obtain ⟨_,_,a3,a4⟩:=(askE_on h.on).1 (mayE_iff.1 h.may).2.2
 exact (aims_iff (newP_T h.may).2.2 a3).1 a4
theorem NewIn.len (h:NewIn s):s.R.L.length=s.W.T.length+1∧(rd .aim s.R.L s.W.T.length).ID=s.R.New∧(0≤s.R.New∧s.R.New < s.NextID)∧∀ t ∈ s.W.T,t.ID < s.R.New:=by
 obtain ⟨⟨_,h2⟩,_⟩:=h.aims
 obtain ⟨k1,_,k3⟩:=algn_iff.1 h2
 have hd:=List.length_drop (i:=s.W.T.length) (l:=s.R.L)
 rcases k3 with ⟨q1,_⟩ | ⟨q1,q2,a,q3,q4⟩
 ·exact absurd q1 h.new
 ·have hl:s.R.L.length=s.W.T.length+1:=by rw [q3] at hd; simp at hd; omega
  have hdr:=drop_one (L:=s.R.L) (k:=s.W.T.length) hl
  have hra:rd .aim s.R.L (s.W.T.length:Int)=a:=by
   have:=hdr.symm.trans q3
   simpa using this
  exact ⟨hl,by rw [hra]; exact q4,q1,q2⟩
theorem NewIn.per (h:NewIn s) {i:Int} (h0:0≤i) (h1:i < s.R.L.length):perOK (rd .aim s.R.L i).S (rd .aim s.R.L i).P=true:=by
 have ht:=(testV_iff.1 h.aims.2).1
 have:=(mayFs_mem ht).2 (fixA (rd .aim s.R.L i)) (List.mem_map_of_mem (rd_mem' (r:=.aim) h0 h1))
 have hm:=(mayF_C this)
 unfold mayF at this
 have hu:0 < unitsV (rd .aim s.R.L i).S (rd .aim s.R.L i).P:=by
  have:=of_decide_eq_true this
  simpa [fixA] using this
 cases hp:perOK (rd .aim s.R.L i).S (rd .aim s.R.L i).P with
 | true=>rfl
 | false =>
  rw [unitsV_zero.2 hp] at hu
  omega
theorem new_may {id:Int} {q:Fu.Spec} {p now:Int} (h0:0≤id∧id≤549755813888) (hp:perOK q p=true) (hn:0≤now∧now≤549755813888):mayK (newK id q p now) now=true:=by
 obtain ⟨h1,h2,h3⟩:=perOK_iff.1 hp
 have hS:=h1
 obtain ⟨g1,g2,g3,g4,g5⟩:=h1
 have hJ:JobOK q zeroJ:=⟨hS,.inl ⟨rfl,rfl⟩⟩
 refine mayK_iff.2 ⟨h0,⟨by show 1≤p; omega,by show p≤48; omega⟩,by show ringOK ⟨0,0⟩=true; decide +kernel,⟨hn,⟨hp,⟨Int.le_refl _,by show now≤now+48; omega⟩,⟨Int.le_refl _,by show (0:Int)≤549755813888; decide⟩,hJ,.inl rfl⟩⟩,decide_eq_true hJ,?_⟩
 show (0:Int)=minI (overK (newK id q p now)) 60
 have:overK (newK id q p now)=0:=rfl
 rw [this]
 rfl
theorem NewIn.newMay (h:NewIn s):mayK (newK (rd .aim s.R.L s.W.T.length).ID (rd .aim s.R.L s.W.T.length).S (rd .aim s.R.L s.W.T.length).P s.W.Now) s.W.Now=true:=by
 obtain ⟨h1,h2,h3,_⟩:=h.len
 have hn:=(mayE_safe h.may).2.1
 have hw:=(mayW_iff.1 (safeE_may h.may)).1
 exact new_may ⟨by rw [h2]; omega,by rw [h2]; omega⟩ (h.per (by omega) (by omega)) ⟨by omega,by omega⟩
theorem NewIn.try (h:NewIn s):∃ T',(tryV s).1={ s.W with T:=T' ++ [newK s.R.New (rd .aim s.R.L s.W.T.length).S (rd .aim s.R.L s.W.T.length).P s.W.Now] }∧T'.length=s.W.T.length∧(∀ j:Int,0≤j→j < s.W.T.length→rd .task T' j=turnAt s s.W.T j)∧(tryV s).2=safeW (tryV s).1:=by
 obtain ⟨h1,h2,h3,_⟩:=h.len
 obtain ⟨T',q1,q2,q3⟩:=try_turn s s.W.T.length s.W.T 0 (Int.le_refl _) (by omega)
 have e:(tryA s).2=T' ++ [newK s.R.New (rd .aim s.R.L s.W.T.length).S (rd .aim s.R.L s.W.T.length).P s.W.Now]:=by
  unfold tryA
  rw [show ((s.R.L.length:Int)-0).toNat=s.W.T.length+1 by omega,foldI_add,q1]
  show (nxtTr (s,T') (0+(s.W.T.length:Int))).2=_
  unfold nxtTr
  simp only
  rw [Int.zero_add,decide_eq_false (show ¬ (s.W.T.length:Int) < (T'.length:Int) by omega),h.newMay,newKR_ID h.newMay,h2]
  rfl
 refine ⟨T',?_,q2,fun j j0 j1=>?_,?_⟩
 ·unfold tryV
  rw [h.may,h.on]
  show ({ s.W with T:=(tryA s).2 }:Fu.World)=_
  rw [e]
 ·rw [q3 j j0 j1,if_pos (by omega)]
 ·unfold tryV
  rw [h.may,h.on]
  rfl
theorem NewIn.last (h:NewIn s):(tryV s).1.T.length=s.W.T.length+1∧(rd .task (tryV s).1.T s.W.T.length).ID=s.R.New:=by
 obtain ⟨T',e,hl,_⟩:=h.try
 rw [e]
 refine ⟨by simp [hl],?_⟩
 show (rd .task (T' ++ [newK s.R.New _ _ _]) s.W.T.length).ID=_
 rw [← hl,rd_last (r:=.task)]
 rfl
theorem NewIn.idle (h:NewIn s) (hS:∀ i:Int,0≤i→i < s.W.T.length→(rd .aim s.R.L i).S=(rd .task s.W.T i).S) (hi:idleL (s.W.T.map liveK)=true):(tryV s).2=true:=by
 obtain ⟨T',e,hl,hT,he⟩:=h.try
 obtain ⟨h1,h2,h3,h4⟩:=h.len
 have hm:=safeE_may h.may
 obtain ⟨b1,b2,b3,b4,b5,b6,b7⟩:=mayW_iff.1 hm
 have hL4:=h.aims.1.1
 have hone:∀ j:Int,0≤j→j < s.W.T.length→rd .task T' j={ (rd .task s.W.T j) with Next:=(rd .aim s.R.L j).P }:=fun j j0 j1=>by
  rw [hT j j0 j1]
  unfold turnAt
  have hp:=h.per (i:=j) j0 (by omega)
  rw [hS j j0 j1] at hp ⊢
  unfold turnK turnOK
  have hu:(unitsV (rd .task s.W.T j).S (rd .aim s.R.L j).P == 0)=false:=beq_eq_false_iff_ne.2 fun hz=>by
   have:=unitsV_zero.1 hz
   rw [hp] at this
   cases this
  rw [hu]
  simp
 have hids:T'.map (·.ID)=s.W.T.map (·.ID):=by
  refine List.ext_getElem (by simp [hl]) fun n n1 n2=>?_
  rw [List.length_map] at n1 n2
  have:=congrArg Fu.Task.ID (hone n (by omega) (by omega))
  rw [rd_of (r:=.task) n1,rd_of (r:=.task) n2] at this
  simpa using this
 have hmay:mayW (tryV s).1=true:=by
  rw [e]
  refine mayW_T hm (by rw [List.length_append,hl]; simp only [List.length_cons,List.length_nil]; omega) (fun t ht=>?_) ?_
  ·rcases List.mem_append.1 ht with ht | ht
   ·obtain ⟨j,⟨j0,j1⟩,ej⟩:=memRd (r:=.task) ht
    rw [hl] at j1
    have ho:=b5 _ (rd_mem' (r:=.task) j0 j1)
    have:=tkOK_turn ho (rd .aim s.R.L j).P
    have et:=hT j j0 j1
    unfold turnAt at et
    rw [hS j j0 j1] at et
    rw [← ej,et]
    exact this
   ·have:t=newK s.R.New (rd .aim s.R.L s.W.T.length).S (rd .aim s.R.L s.W.T.length).P s.W.Now:=by simpa using ht
    rw [this]
    have hk:=h.newMay
    rw [h2] at hk
    exact tkOK_iff.2 ⟨hk,fun hj=>by cases hj⟩
  ·refine ascT_pair.2 (List.pairwise_append.2 ⟨ascT_pair.1 (ascT_ids hids b6),by simp,fun a ha b hb=>?_⟩)
   have:b=newK s.R.New (rd .aim s.R.L s.W.T.length).S (rd .aim s.R.L s.W.T.length).P s.W.Now:=by simpa using hb
   rw [this]
   have hmem:a.ID ∈ s.W.T.map (·.ID):=by rw [← hids]; exact List.mem_map_of_mem ha
   obtain ⟨u,hu,eu⟩:=List.mem_map.1 hmem
   have:=h4 u hu
   show a.ID < s.R.New
   rw [← eu]
   exact this
 have hidle:idleL ((tryV s).1.T.map liveK)=true:=by
  rw [e]
  refine idle_iff.2 fun x hx=>?_
  obtain ⟨t,ht,rfl⟩:=List.mem_map.1 hx
  rw [(must_live t).1]
  rcases List.mem_append.1 ht with ht | ht
  ·obtain ⟨j,⟨j0,j1⟩,ej⟩:=memRd (r:=.task) ht
   rw [hl] at j1
   have hz:=idle_iff.1 hi (liveK (rd .task s.W.T j)) (List.mem_map_of_mem (rd_mem' (r:=.task) j0 j1))
   rw [(must_live _).1] at hz
   rw [← ej,hone j j0 j1]
   exact hz
  ·have:t=newK s.R.New (rd .aim s.R.L s.W.T.length).S (rd .aim s.R.L s.W.T.length).P s.W.Now:=by simpa using ht
   rw [this]
   rfl
 rw [he,safe_idle hmay hidle]
 have hfix:(tryV s).1.T.map fixK=s.R.L.map fixA:=by
  rw [e]
  refine List.ext_getElem (by simp [hl,h1]) fun n n1 n2=>?_
  rw [List.length_map] at n1 n2
  rw [List.getElem_map,List.getElem_map]
  by_cases hn:n < s.W.T.length
  ·have ej:=hone n (by omega) (by omega)
   have es:=hS n (by omega) (by omega)
   have e1:(T' ++ [newK s.R.New (rd .aim s.R.L s.W.T.length).S (rd .aim s.R.L s.W.T.length).P s.W.Now])[n]=T'[n]:=List.getElem_append_left (by omega)
   rw [rd_of (r:=.task) (xs:=T') (by omega),rd_of (r:=.task) (xs:=s.W.T) hn,rd_of (r:=.aim) (xs:=s.R.L) n2] at ej
   rw [rd_of (r:=.task) (xs:=s.W.T) hn,rd_of (r:=.aim) (xs:=s.R.L) n2] at es
   rw [e1,ej]
   unfold fixK fixA
   rw [es]
  ·have hn2:n=s.W.T.length:=by simp at n1; omega
   have e1:(T' ++ [newK s.R.New (rd .aim s.R.L s.W.T.length).S (rd .aim s.R.L s.W.T.length).P s.W.Now])[n]=newK s.R.New (rd .aim s.R.L s.W.T.length).S (rd .aim s.R.L s.W.T.length).P s.W.Now:=by
    rw [List.getElem_append_right (by omega)]
    simp
   rw [e1]
   have e2:rd .aim s.R.L (s.W.T.length:Int)=s.R.L[n]:=by rw [← hn2]; exact rd_of (r:=.aim) n2
   unfold fixK fixA newK
   rw [e2]
 rw [hfix]
 exact h.aims.2
end
theorem tick_facts {w : Fu.World} (h : Ahead w) (hs : safeW w = true) (d : List Int) : LoL ((tickW w d).T.map liveK) (stepL (w.T.map liveK) w.Now) ∧ AllI 549755813889 ((tickW w d).T.map liveK) (w.Now + 1) ∧ missedL (w.T.map liveK) w.Now = false ∧
    ∀ D,AW ((tickW w d).T.map liveK) (w.Now+1) D=W ((tickW w d).T.map liveK) D:=by
  unfold safeW at hs
  simp only [Bool.and_eq_true] at hs
  obtain ⟨_,h2,h3⟩:=hs
  have hlo:=h.midLo d
  have hall:=h.midAll d
  have hmay:=h.tickMay d
  have hnow:=h.now
  have eL:(tickW w d).T.map liveK=((midW w d).1.T.map liveK).map (endL (w.Now+1)):=by
    rw [h.tickT d,List.map_map,List.map_map]
    exact List.map_congr_left fun u _=>end_live u _
  have hlo2:LoL ((tickW w d).T.map liveK) (stepL (w.T.map liveK) w.Now):=by
    rw [eL]
    exact hlo.ends _
  have hA':AllI 549755813889 ((tickW w d).T.map liveK) (w.Now+1):=by
    rw [eL]
    refine ⟨by rw [List.length_map]; exact hall.1,fun x hx=>?_⟩
    obtain ⟨y,hy,rfl⟩:=List.mem_map.1 hx
    have:=endL_inv (hall.2 y hy)
    exact ⟨this.1,this.2.1,by have:=this.2.2.1; omega,this.2.2.2⟩
  have hm':mayL ((tickW w d).T.map liveK) (w.Now+1)=true:=by
    have:=mayW_live hmay
    rw [h.tickNow d] at this
    exact this
  obtain ⟨k1,k2⟩:=look_next (mayW_live h.may) (by omega) h2 (by rw [fix_live]; exact h3) hA' hm' hlo2
  exact ⟨hlo2,hA',k1,fun D=>by rw [eL]; exact AW_end hall.2 D⟩
theorem stand_lo {now r0 D:Int} {l0:List Stat} {b b':Int} {l l':List Fu.Live} {t:Int} (h:Stand now r0 D l0 b l t) (hlo:LoL l' l) (hA:AllI b' l' t) (hAW:AW l' t D=W l' D):Stand now r0 D l0 b' l' t:=by
 obtain ⟨h1,h2,h3,h4⟩:=h
 have hst:=hlo.stat
 have hW:=hlo.W h1.jp D
 exact ⟨hA,by rw [hst]; exact h2,by rw [hst]; omega,hAW⟩
theorem tick_stand {w : Fu.World} (h : Ahead w) (hs : safeW w = true) (d : List Int) {now r0 D : Int} {l0 : List Stat} (hst : Stand now r0 D l0 549755813889 (w.T.map liveK) w.Now) (hD : w.Now + 49 ≤ D) (hi : idleL (w.T.map liveK) = false) :
    Stand now r0 D l0 549755813889 ((tickW w d).T.map liveK) (w.Now+1):=by
  obtain ⟨k1,k2,k3,k4⟩:=tick_facts h hs d
  have h0:=h.nowge
  have h1:=h.now
  exact stand_lo (stand_step hst h0 (by omega) (by omega) hD hi k3) k1 k2 (k4 D)
theorem tick_stand0 {w:Fu.World} (h:Ahead w) (hs:safeW w=true) (d:List Int):Stand w.Now (W (w.T.map liveK) (w.Now+3000)) (w.Now+3000) ((w.T.map liveK).map statOf) 549755813889 ((tickW w d).T.map liveK) (w.Now+1):=by
 obtain ⟨k1,k2,k3,k4⟩:=tick_facts h hs d
 have h0:=h.nowge
 have h1:=h.now
 obtain ⟨hA,_,_⟩:=mayL_of (mayW_live h.may)
 have hB:=begin_all hA h0 (by omega) (by omega)
 have hR:=runFirst_all hB
 have hs:Stand w.Now (W (w.T.map liveK) (w.Now+3000)) (w.Now+3000) ((w.T.map liveK).map statOf) (549755813888+1) (stepL (w.T.map liveK) w.Now) (w.Now+1):=by
  refine ⟨step_all hA h0 (by omega) (by omega),⟨statB w.Now,stat_step _ w.Now,fun s hs=>?_⟩,?_,AW_end hR.2 _⟩
  ·obtain ⟨x,hx,hxs⟩:=List.mem_map.1 hs
   refine come_step (s:=s) (s':=s) ⟨rfl,rfl,rfl,.inl rfl⟩ ?_
   rw [← hxs]
   exact (hA.2 x hx).2.1.1
  ·have e1:W (stepL (w.T.map liveK) w.Now) (w.Now+3000)=W (runFirst (beginAll (w.T.map liveK) w.Now)) (w.Now+3000):=W_end (jp_run hB.jp) k3 _
   have e2:=W_run hB.jp (w.Now+3000)
   have e3:=W_nonneg hB.jp (w.Now+3000)
   have e6:=begin_le (spec_all hA) w.Now (w.Now+3000)
   rw [stat_step]
   split at e2 <;> omega
 exact stand_lo hs k1 k2 (k4 _)
theorem tick_idsA {w:Fu.World} (hm:mayW w=true) (d:List Int):List.Sublist (idsA (tickW w d).A) (idsA w.A):=by
 obtain ⟨_,_,_,hA,_,_,_⟩:=mayW_iff.1 hm
 have hsub:List.Sublist (idsA (leftW w d).A) (idsA w.A):=(List.filter_sublist).map _
 have eA:(tickW w d).A=(midW w d).1.A:=rfl
 rw [eA]
 rcases who_range (x:=startW w d) hA with h | h | h | h
 ·rw [mid_task (.inl h)]
  simp only [(noCur_A _).1]
  exact hsub
 ·rw [mid_once h]
  cases hd:doneB (leftW w d).A (whoW (startW w d)).2 with
  | true =>
   simp only [cond_true,(noCur_A _).1]
   have:=((List.eraseIdx_sublist (ranAs (leftW w d).A (whoW (startW w d)).2) (atA (leftW w d).A (whoW (startW w d)).2).toNat).map (·.ID)).trans (by
    have e:=ranAs_ids (leftW w d).A (whoW (startW w d)).2
    unfold idsA at e
    rw [e]
    exact List.Sublist.refl _)
   exact this.trans hsub
  | false =>
   simp only [cond_false,(noCur_A _).1]
   rw [ranAs_ids]
   exact hsub
 ·rw [mid_task (.inr h)]
  simp only [(noCur_A _).1]
  exact hsub
 ·rw [mid_none h]
  simp only [(noCur_A _).1]
  exact hsub
theorem tick_rd {w:Fu.World} (h:Ahead w) (d:List Int) {i:Int} (h0:0≤i) (h1:i < w.T.length):(rd .task (tickW w d).T i).ID=(rd .task w.T i).ID∧(rd .task (tickW w d).T i).S=(rd .task w.T i).S∧(rd .task (tickW w d).T i).Next=(rd .task w.T i).Next:=by
 have hl:=h.tickLen d
 obtain ⟨n,rfl⟩:∃ n:Nat,i=n:=⟨i.toNat,by omega⟩
 have n1:n < w.T.length:=by omega
 have n2:n < (tickW w d).T.length:=by omega
 have e1:=congrArg (fun l:List Int=>l[n]?) (h.tickIDs d)
 have e2:=congrArg (fun l:List Fu.Fix=>l[n]?) (h.tickFix d)
 simp only [List.getElem?_map,List.getElem?_eq_getElem n1,List.getElem?_eq_getElem n2,Option.map_some,Option.some.injEq] at e1 e2
 rw [rd_of (r:=.task) n1,rd_of (r:=.task) n2]
 exact ⟨e1,congrArg Fu.Fix.S e2,congrArg Fu.Fix.P e2⟩
theorem NewIn.tick {s:Fu.Serv} (h:NewIn s) (ha:Ahead s.W) (d:List Int):NewIn { s with W:=tickW s.W d }:=by
 refine ⟨?_,h.on,h.new⟩
 obtain ⟨r1,r2,r3⟩:=mayE_safe h.may
 obtain ⟨hT,hA,hasc⟩:=newP_T h.may
 obtain ⟨a1,a2,a3,a4⟩:=(askE_on h.on).1 (mayE_iff.1 h.may).2.2
 have hs:=(safe_tick ha r1 d).1
 have hlen:=ha.tickLen d
 have hids:∀ t ∈ (tickW s.W d).T,∃ u ∈ s.W.T,u.ID=t.ID:=fun t ht=>by
  have:t.ID ∈ s.W.T.map (·.ID):=by rw [← ha.tickIDs d]; exact List.mem_map_of_mem ht
  obtain ⟨u,hu,e⟩:=List.mem_map.1 this
  exact ⟨u,hu,e⟩
 refine mayE_iff.2 ⟨⟨hs,r2,r3⟩,⟨atIm_none.2 fun t ht=>?_,atIv_none.2 fun a ha'=>?_⟩,(askE_on (s:={ s with W:=tickW s.W d }) h.on).2 ⟨⟨a1.1,?_⟩,a2,a3,?_⟩⟩
 ·obtain ⟨u,hu,e⟩:=hids t ht
  rw [← e]
  exact hT u hu
 ·have:a.ID ∈ idsA s.W.A:=(tick_idsA (safe_may r1) d).subset (List.mem_map_of_mem ha')
  obtain ⟨b,hb,e⟩:=List.mem_map.1 this
  rw [← e]
  exact hA b hb
 ·show s.R.Since≤(tickW s.W d).Now
  rw [ha.tickNow d]
  omega
 ·obtain ⟨⟨b1,b2⟩,b3⟩:=h.aims
  refine (aims_iff (s:={ s with W:=tickW s.W d }) (mayW_asc (safe_may hs)) a3).2 ⟨⟨b1,?_⟩,b3⟩
  obtain ⟨k1,k2,k3⟩:=algn_iff.1 b2
  refine algn_iff.2 ⟨by show (tickW s.W d).T.length≤_; rw [hlen]; exact k1,fun n hn=>?_,?_⟩
  ·have hn:n < s.W.T.length:=by rw [← hlen]; exact hn
   obtain ⟨c0,c1,c2,c3⟩:=k2 n hn
   obtain ⟨t1,t2,_⟩:=tick_rd ha d (i:=n) (by omega) (by omega)
   show (rd .aim s.R.L n).ID=(rd .task (tickW s.W d).T n).ID∧_=(rd .task (tickW s.W d).T n).S.C∧_=(rd .task (tickW s.W d).T n).S.M∧_=(rd .task (tickW s.W d).T n).S.K
   rw [t1,t2]
   exact ⟨c0,c1,c2,c3⟩
  ·show newP _ (tickW s.W d).T (s.R.L.drop (tickW s.W d).T.length)
   rw [hlen]
   rcases k3 with ⟨q1,_⟩ | ⟨q1,q2,q3⟩
   ·exact absurd q1 h.new
   ·refine .inr ⟨q1,fun t ht=>?_,q3⟩
    obtain ⟨u,hu,e⟩:=hids t ht
    rw [← e]
    exact q2 u hu
theorem wk_mand {w:Fu.World} (hm:mayW w=true) {t:Fu.Task} (ht:t ∈ w.T) (D:Int):wk D (liveK t)≤mandK t:=by
 have h0:=(mandK_small hm ht).1
 unfold wk
 cases decide ((liveK t).J.Due≤D) with
 | false=>exact h0
 | true =>
  show leftM (lookJ t)≤mandK t
  obtain ⟨_,_,_,_,h5,_,_⟩:=mayW_iff.1 hm
  obtain ⟨_,_,_,_,hj,_⟩:=mayK_iff.1 (tkOK_iff.1 (h5 t ht)).1
  have hj:JobOK t.S t.J:=of_decide_eq_true hj
  unfold lookJ leftM mandK worst at *
  cases ho:t.J.On with
  | false => 
   rw [ho] at h0
   simp only [cond_false,ho,Bool.false_and] at h0 ⊢
   exact h0
  | true =>
   rw [ho] at h0
   cases hM:t.J.Mand with
   | false=>simp [ho,hM]
   | true =>
    simp only [cond_true,ho,hM,Bool.and_self]
    omega
theorem W_left {s:Fu.Serv} (hm:mayW s.W=true) (D:Int):W (s.W.T.map liveK) D≤leftV s:=by
 unfold leftV W
 have:∀ l:List Fu.Task,(∀ t ∈ l,t ∈ s.W.T)→((l.map liveK).map (wk D)).sum≤(l.map mandK).sum:=by
  intro l
  induction l with
  | nil=>intro _; exact Int.le_refl _
  | cons a l ih =>
   intro h
   have h1:=wk_mand hm (h a (by simp)) D
   have h2:=ih fun t ht=>h t (by simp [ht])
   simp only [List.map_cons,List.sum_cons]
   omega
 exact this _ fun _ h=>h
theorem sumC_live (T:List Fu.Task):(((T.map liveK).map statOf).map fun s=>s.1.C).sum=sumC (T.map fixK):=by
 unfold sumC
 rw [List.map_map,List.map_map,List.map_map]
 rfl
structure Waits (s:Fu.Serv) (id byT k:Int):Prop where
 inn:NewIn s
 new:s.R.New=id
 spec:∀ i:Int,0≤i→i < s.W.T.length→(rd .aim s.R.L i).S=(rd .task s.W.T i).S
 low:lowN k s.W
 pos:0≤k
 run:∃ (now0 r0:Int) (l0:List Stat),s.W.Now=now0+k∧byT≤now0+1152∧0≤r0∧0≤(l0.map fun s=>s.1.C).sum∧(∀ st ∈ l0,perOK st.1 st.2.1=true∧now0≤st.2.2.1)∧(l0.map fun st=>unitsV st.1 st.2.1).sum≤983040 ∧
  1048576*(r0+2*(l0.map fun s=>s.1.C).sum)≤65536*(byT-now0) ∧
  ((k=0∧l0=(s.W.T.map liveK).map statOf∧r0=W (s.W.T.map liveK) (now0+3000)) ∨
   (1≤k∧Stand now0 r0 (now0+3000) l0 549755813889 (s.W.T.map liveK) s.W.Now∧now0+1≤byT∧(k=1∨65536*(k-1)+983040≤1048576*(r0+2*(l0.map fun s=>s.1.C).sum))))
section
variable {s:Fu.Serv} {id byT k:Int}
end
theorem join_waits {s:Fu.Serv} {p:Fu.Spec} (hm:mayE s=true) (hl:lowN 0 s.W) (he:(joinR s p).2=0):Waits (joinR s p).1.1 (joinR s p).1.2 (joinR s p).1.1.R.By 0∧(joinR s p).1.1.W=s.W∧(joinR s p).1.1.R.By=byV s:=by
 obtain ⟨⟨_,hoff⟩,⟨hlen,hn⟩,ht,e⟩:=join_ok he
 have hjm:=join_may (p:=p) hm
 obtain ⟨q1,q2,q3⟩:=targetV_ok ht
 obtain ⟨r1,r2,r3⟩:=mayE_safe hm
 have hmw:=safe_may r1
 have hsl:(specsJ s p).length=s.W.T.length+1:=by unfold specsJ; rw [List.length_append,specsV_len]; rfl
 rw [e] at hjm ⊢
 have hby:(putV { s with NextID:=s.NextID+1 } s.NextID (targetV (specsJ s p)).1).R.By=byV s:=rfl
 refine ⟨⟨⟨hjm,rfl,?_⟩,rfl,fun i i0 i1=>?_,hl,Int.le_refl _,?_⟩,rfl,rfl⟩
 ·show s.NextID≠-1
  omega
 ·have i1:i < (s.W.T.length:Int):=i1
  show (rd .aim (aimsP s.W.T s.NextID (targetV (specsJ s p)).1) i).S=(rd .task s.W.T i).S
  rw [q2,aimsP_rd _ _ _ i0 (by rw [fixesV_len,hsl]; omega)]
  show (rd .fix (fixesV (specsJ s p) _) i).S=_
  rw [fixesV_S _ _ i0 (by rw [hsl]; omega)]
  unfold specsJ
  rw [rd_left i0 (by rw [specsV_len]; exact i1),specs_rd s i0 i1]
 ·obtain ⟨hA,h0,h1⟩:=mayL_of (mayW_live hmw)
  have htest:=safe_test r1
  have hlr:=leftV_range hmw
  have hfs:=(testV_iff.1 htest).1
  have hpl:=planB_pos hfs hlr.1 hlr.2
  have hrange:=byV_range r1
  have hWl:=W_left hmw (s.W.Now+3000)
  have hW0:=W_nonneg hA.jp (s.W.Now+3000)
  have hC:=sumC_nonneg hfs
  refine ⟨s.W.Now,W (s.W.T.map liveK) (s.W.Now+3000),(s.W.T.map liveK).map statOf,by show s.W.Now=_; omega,?_,hW0,?_,fun st hst=>?_,?_,?_,.inl ⟨rfl,rfl,rfl⟩⟩
  ·rw [hby]; omega
  ·rw [sumC_live]; exact hC
  ·obtain ⟨x,hx,rfl⟩:=List.mem_map.1 hst
   exact ⟨(hA.2 x hx).1,(hA.2 x hx).2.1.1⟩
  ·have:=units_fits (l:=s.W.T.map liveK) (by rw [fix_live]; exact htest)
   rw [List.map_map]
   exact this
  ·rw [hby,sumC_live]
   have:byV s=s.W.Now+planB (s.W.T.map fixK) (leftV s)-1:=rfl
   rw [this,hpl]
   omega
end Go.Fx
namespace Go.Fx
open Go Go.Proofs
theorem sum_each {α:Type} {f g:α→Int}:∀ {l:List α},(∀ x ∈ l,f x≤g x)→(l.map f).sum=(l.map g).sum→∀ x ∈ l,f x=g x
 | [],_,_=>fun x hx=>by cases hx
 | a :: l,h,e=>by
  have h1:=h a (by simp)
  have h2:∀ x ∈ l,f x≤g x:=fun x hx=>h x (by simp [hx])
  have h3:(l.map f).sum≤(l.map g).sum:=by
   have:∀ l:List α,(∀ x ∈ l,f x≤g x)→(l.map f).sum≤(l.map g).sum:=by
    intro l
    induction l with
    | nil=>intro _; exact Int.le_refl _
    | cons b l ih =>
     intro h
     have k1:=h b (by simp)
     have k2:=ih fun x hx=>h x (by simp [hx])
     simp only [List.map_cons,List.sum_cons]
     omega
   exact this l h2
  simp only [List.map_cons,List.sum_cons] at e
  have ih:=sum_each h2 (by omega)
  intro x hx
  rcases List.mem_cons.1 hx with rfl | hx
  ·omega
  ·exact ih x hx
theorem sum_same {α:Type} {f g:α→Int} {l:List α} (h:∀ x ∈ l,f x=g x):(l.map f).sum=(l.map g).sum:=by
 rw [List.map_congr_left h]
def sumV5 (l:List Stat):Int:=(l.map fun s=>unitsV s.1 s.2.1).sum
def sumC5 (l:List Stat):Int:=(l.map fun s=>s.1.C).sum
theorem ghosts {now t : Int} {G : Stat → Stat} (ht : now < t) (p : Fu.Task → Bool) : ∀ (T : List Fu.Task) (l0 : List Stat), (T.map liveK).map statOf = l0.map G → (∀ s ∈ l0, (perOK s.1 s.2.1 = true ∧ now ≤ s.2.2.1) ∧ Come t s (G s)) →
    ∃ l1 g,List.Sublist l1 l0∧((T.filter p).map liveK).map statOf=l1.map G∧sumI ahead ((T.map liveK).map statOf)-sumI ahead l0=g+(sumI ahead (((T.filter p).map liveK).map statOf)-sumI ahead l1) ∧
      1048576*g≤(sumV5 l0-sumV5 l1)*(t-now-1)+2097152*(sumC5 l0-sumC5 l1)
  | [],l0,e,_=>by
    have:l0=[]:=by cases l0 with
      | nil=>rfl
      | cons a l=>simp at e
    subst this
    exact ⟨[],0,.slnil,rfl,by simp [sumI],by simp [sumV5,sumC5]⟩
  | a :: T,[],e,_=>by simp at e
  | a :: T,s :: l0,e,h=>by
    simp only [List.map_cons,List.cons.injEq] at e
    obtain ⟨l1,g,h1,h2,h3,h4⟩:=ghosts ht p T l0 e.2 fun s hs=>h s (by simp [hs])
    obtain ⟨⟨hp,hn⟩,hc⟩:=h s (by simp)
    cases hb:p a with
    | true =>
      refine ⟨s :: l1,g,.cons_cons s h1,?_,?_,?_⟩
      · rw [List.filter_cons,hb]
        simp only [if_true,List.map_cons]
        rw [h2,e.1]
      · rw [List.filter_cons,hb]
        simp only [if_true,List.map_cons,sumI,List.sum_cons] at h3 ⊢
        omega
      · simp only [sumV5,sumC5,List.map_cons,List.sum_cons] at h4 ⊢
        have e1:unitsV s.1 s.2.1+(l0.map fun s=>unitsV s.1 s.2.1).sum-(unitsV s.1 s.2.1+(l1.map fun s=>unitsV s.1 s.2.1).sum)=(l0.map fun s=>unitsV s.1 s.2.1).sum-(l1.map fun s=>unitsV s.1 s.2.1).sum:=by omega
        rw [e1]
        omega
    | false =>
      have hle:=come_le hp hc hn ht
      refine ⟨l1,g+(ahead (G s)-ahead s),.cons s h1,?_,?_,?_⟩
      · rw [List.filter_cons,hb]
        exact h2
      · rw [List.filter_cons,hb]
        simp only [Bool.false_eq_true,if_false,List.map_cons,sumI,List.sum_cons] at h3 ⊢
        rw [e.1]
        omega
      · simp only [sumV5,sumC5,List.map_cons,List.sum_cons] at h4 ⊢
        have e1:(unitsV s.1 s.2.1+(l0.map fun s=>unitsV s.1 s.2.1).sum-(l1.map fun s=>unitsV s.1 s.2.1).sum)*(t-now-1)=unitsV s.1 s.2.1*(t-now-1)+((l0.map fun s=>unitsV s.1 s.2.1).sum-(l1.map fun s=>unitsV s.1 s.2.1).sum)*(t-now-1):=by
          rw [← Int.add_mul]
          congr 1
          omega
        rw [e1]
        omega
theorem stand_drop {now r D b t : Int} {l0 : List Stat} {T : List Fu.Task} (h : Stand now r D l0 b (T.map liveK) t) (ht : now < t) (hl0 : ∀ s ∈ l0, perOK s.1 s.2.1 = true ∧ now ≤ s.2.2.1) (p : Fu.Task → Bool) :
    ∃ l1 g,List.Sublist l1 l0∧Stand now (r+g) D l1 b ((T.filter p).map liveK) t∧1048576*g≤(sumV5 l0-sumV5 l1)*(t-now-1)+2097152*(sumC5 l0-sumC5 l1):=by
  obtain ⟨G,g1,g2⟩:=h.come
  obtain ⟨l1,g,k1,k2,k3,k4⟩:=ghosts ht p T l0 g1 fun s hs=>⟨hl0 s hs,g2 s hs⟩
  have hsub:List.Sublist ((T.filter p).map liveK) (T.map liveK):=List.filter_sublist.map _
  have hW:W ((T.filter p).map liveK) D≤W (T.map liveK) D:=sum_sub hsub fun x hx=>wk_nonneg (h.all.jp x hx) D
  refine ⟨l1,g,k1,⟨⟨Nat.le_trans hsub.length_le h.all.1,fun x hx=>h.all.2 x (hsub.subset hx)⟩,⟨G,k2,fun s hs=>g2 s (k1.subset hs)⟩,?_,?_⟩,k4⟩
  · have:=h.left
    omega
  · have hg:=h.goes
    have hle:∀ x ∈ T.map liveK,oldW D t x≤wk D x:=fun x hx=>by
      unfold oldW
      cases decide (x.At≤t) with
      | true=>exact wk_nonneg (h.all.jp x hx) D
      | false=>exact Int.le_refl _
    have he:=sum_each hle hg
    exact sum_same fun x hx=>he x (hsub.subset hx)
theorem stand_endG {now r0 g u c D b t : Int} {l0 : List Stat} {l : List Fu.Live} (h : Stand now (r0 + g) D l0 b l t) (ht : now < t) (hl0 : ∀ s ∈ l0, perOK s.1 s.2.1 = true ∧ now ≤ s.2.2.1) (hU : sumV5 l0 + u ≤ 983040) (hg : 1048576 * g ≤ u * (t - now - 1) + 2097152 * c) (hw : 1 ≤ W l D) :
    65536*(t-now)+983040≤1048576*(r0+2*(sumC5 l0+c)):=by
  obtain ⟨G,g1,g2⟩:=h.come
  have h1:=come_sum (now:=now) (t:=t) (G:=G) ht l0 fun s hs=>⟨(hl0 s hs).1,g2 s hs,(hl0 s hs).2⟩
  have h2:=h.left
  rw [g1] at h2
  have h3:=Int.mul_le_mul_of_nonneg_right hU (show 0≤t-now-1 by omega)
  rw [Int.add_mul] at h3
  unfold sumV5 at h3
  unfold sumC5
  omega
structure WaitG (s:Fu.Serv) (id byT k:Int):Prop where
 inn:NewIn s
 new:s.R.New=id
 spec:∀ i:Int,0≤i→i < s.W.T.length→(rd .aim s.R.L i).S=(rd .task s.W.T i).S
 low:lowN k s.W
 pos:0≤k
 run:∃ (now0 r0 u g c:Int) (l0:List Stat),(s.W.Now=now0+k∧byT≤now0+1152)∧(0≤r0∧0≤u∧0≤c)∧(∀ st ∈ l0,(perOK st.1 st.2.1=true∧now0≤st.2.2.1))∧sumV5 l0+u≤983040 ∧
  1048576*(r0+2*(sumC5 l0+c))≤65536*(byT-now0) ∧
  ((k=0∧l0=(s.W.T.map liveK).map statOf∧r0=W (s.W.T.map liveK) (now0+3000)) ∨
   (1≤k∧Stand now0 (r0+g) (now0+3000) l0 549755813889 (s.W.T.map liveK) s.W.Now∧1048576*g≤u*(k-1)+2097152*c∧now0+1≤byT∧(k=1∨65536*(k-1)+983040≤1048576*(r0+2*(sumC5 l0+c)))))
theorem per_C {l:List Stat} {n:Int} (h:∀ st ∈ l,perOK st.1 st.2.1=true∧n≤st.2.2.1):0≤sumC5 l∧0≤sumV5 l:=by
 unfold sumC5 sumV5
 induction l with
 | nil=>simp
 | cons a l ih =>
  have h1:=ih fun st hs=>h st (by simp [hs])
  have h2:=(h a (by simp)).1
  have h3:=unitsV_pos h2
  have h4:=(perOK_iff.1 h2).1.1
  simp only [List.map_cons,List.sum_cons]
  omega
section
variable {s:Fu.Serv} {id byT k:Int}
theorem WaitG.of (h:Waits s id byT 0):WaitG s id byT 0:=by
 refine ⟨h.inn,h.new,h.spec,h.low,h.pos,?_⟩
 obtain ⟨now0,r0,l0,h1,h2,h3,h4,h5,h6,h7,h8⟩:=h.run
 rcases h8 with ⟨q1,q2,q3⟩ | ⟨q1,_⟩
 ·refine ⟨now0,r0,0,0,0,l0,⟨h1,h2⟩,⟨h3,Int.le_refl _,Int.le_refl _⟩,h5,by unfold sumV5; omega,by unfold sumC5; omega,.inl ⟨q1,q2,q3⟩⟩
 ·omega
theorem WaitG.time (h:WaitG s id byT k):s.W.Now≤byT∧k≤1152:=by
 obtain ⟨now0,r0,u,g,c,l0,⟨h1,h2⟩,⟨h3,h4,h5⟩,h6,h7,h8,h9⟩:=h.run
 have hc:=(per_C h6).1
 rcases h9 with ⟨q1,_⟩ | ⟨q1,_,_,q3,q4 | q4⟩ <;> omega
theorem WaitG.ahead (h:WaitG s id byT k):Ahead s.W:=⟨safeE_may h.inn.may,by have:=h.time.2; have:=h.low.1; omega,fun t ht=>by have:=h.time.2; have:=h.low.2 t ht; omega⟩
theorem WaitG.next (h:WaitG s id byT k) (hi:idleL (s.W.T.map liveK)=false) (d:List Int):WaitG { s with W:=tickW s.W d } id byT (k+1):=by
 have ha:=h.ahead
 have ht:=h.time
 have hs:=(mayE_safe h.inn.may).1
 have hp:=h.pos
 refine ⟨h.inn.tick ha d,h.new,fun i i0 i1=>?_,ha.tickLow d h.low,by omega,?_⟩
 ·have i1:i < (s.W.T.length:Int):=by rw [← ha.tickLen d]; exact i1
  obtain ⟨_,t2,_⟩:=tick_rd ha d i0 i1
  show (rd .aim s.R.L i).S=(rd .task (tickW s.W d).T i).S
  rw [t2]
  exact h.spec i i0 i1
 ·obtain ⟨now0,r0,u,g,c,l0,⟨h1,h2⟩,⟨h3,h4,h5⟩,h6,h7,h8,h9⟩:=h.run
  have hc:=(per_C h6).1
  refine ⟨now0,r0,u,if k=0 then 0 else g,c,l0,⟨by show (tickW s.W d).Now=_; rw [ha.tickNow d]; omega,h2⟩,⟨h3,h4,h5⟩,h6,h7,h8,.inr ⟨by omega,?_⟩⟩
  show Stand now0 (r0+if k=0 then 0 else g) (now0+3000) l0 549755813889 ((tickW s.W d).T.map liveK) (tickW s.W d).Now∧_
  rw [ha.tickNow d]
  rcases h9 with ⟨q1,q2,q3⟩ | ⟨q1,q2,qg,q3,q4⟩
  ·have e0:s.W.Now=now0:=by omega
   have hst:=tick_stand0 ha hs d
   rw [e0,← q2,← q3] at hst
   obtain ⟨hA,_,_⟩:=mayL_of (mayW_live ha.may)
   have hw:=not_idle_W hA (D:=now0+3000) (by omega) hi
   rw [← q3] at hw
   rw [e0,if_pos q1,Int.add_zero]
   exact ⟨hst,by rw [q1]; omega,by omega,.inl (by omega)⟩
  ·have hst:=tick_stand ha hs d q2 (by omega) hi
   have hw:=not_idle_W q2.all (D:=now0+3000) (by omega) hi
   have he:=stand_endG (u:=u) (c:=c) q2 (by omega) h6 h7 (by rw [show s.W.Now-now0-1=k-1 by omega]; exact qg) hw
   rw [if_neg (by omega)]
   refine ⟨hst,?_,q3,.inr (by omega)⟩
   have e:u*(k+1-1)=u*(k-1)+u:=by
    rw [show k+1-1=(k-1)+1 by omega,Int.mul_add,Int.mul_one]
   omega
theorem spec_drop {id : Int} : ∀ {T : List Fu.Task} {L : List Fu.Aim}, T.length ≤ L.length → (∀ n : Nat, n < T.length → (rd .aim L n).ID = (rd .task T n).ID ∧ (rd .aim L n).S = (rd .task T n).S) →
    ∀ n:Nat,n < (dropAT id T).length→(rd .aim (dropAM id L) n).S=(rd .task (dropAT id T) n).S
  | [],_,_,_=>fun n hn=>by simp [dropAT] at hn
  | t :: T,[],h,_=>by simp at h
  | t :: T,a :: L,h1,h2=>by
    have ih:=spec_drop (id:=id) (T:=T) (L:=L) (Nat.le_of_succ_le_succ h1) fun n hn=>by
      have:=h2 (n+1) (Nat.succ_lt_succ hn)
      rwa [rd_succ (r:=.task),rd_succ (r:=.aim)] at this
    have h0:=h2 0 (Nat.succ_pos _)
    have e1:a.ID=t.ID:=h0.1
    have e2:a.S=t.S:=h0.2
    unfold dropAT dropAM qIl qIo at ih ⊢
    rw [List.filter_cons,List.filter_cons,e1]
    cases hb:(t.ID == id) with
    | true=>exact ih
    | false =>
      intro n hn
      cases n with
      | zero=>exact e2
      | succ n =>
        have hn:n < (List.filter (fun a=>!a.ID == id) T).length:=Nat.lt_of_succ_lt_succ hn
        show (rd .aim (a :: List.filter (fun a=>!a.ID == id) L) ((n+1:Nat):Int)).S=(rd .task (t :: List.filter (fun a=>!a.ID == id) T) ((n+1:Nat):Int)).S
        rw [rd_succ (r:=.task),rd_succ (r:=.aim)]
        exact ih n hn
theorem WaitG.drop (h:WaitG s id byT k) {x:Int} (hx:x≠id):WaitG (dropS s x) id byT k:=by
 have hf:freshE s x=false:=by
  unfold freshE
  rw [h.inn.on,h.new,show (id == x)=false from beq_eq_false_iff_ne.2 fun e=>hx e.symm]
  rfl
 have hm:=drop_may h.inn.may hf
 refine ⟨⟨hm,h.inn.on,h.inn.new⟩,h.new,fun i i0 i1=>?_,⟨h.low.1,fun t ht=>h.low.2 t ((dropAT_sub x s.W.T).subset ht)⟩,h.pos,?_⟩
 ·obtain ⟨n,rfl⟩:∃ n:Nat,i=n:=⟨i.toNat,by omega⟩
  obtain ⟨⟨_,b2⟩,_⟩:=h.inn.aims
  obtain ⟨k1,k2,_⟩:=algn_iff.1 b2
  have i1:(n:Int) < ((dropAT x s.W.T).length:Int):=i1
  exact spec_drop (id:=x) k1 (fun n hn=>⟨(k2 n hn).1,h.spec n (by omega) (by omega)⟩) n (by omega)
 ·obtain ⟨now0,r0,u,g,c,l0,⟨h1,h2⟩,⟨h3,h4,h5⟩,h6,h7,h8,h9⟩:=h.run
  have hc:=per_C h6
  rcases h9 with ⟨q1,q2,q3⟩ | ⟨q1,q2,qg,q3,q4⟩
  ·obtain ⟨hA,_,_⟩:=mayL_of (mayW_live h.ahead.may)
   have hsub:List.Sublist ((dropAT x s.W.T).map liveK) (s.W.T.map liveK):=(dropAT_sub x s.W.T).map _
   have hW:W ((dropAT x s.W.T).map liveK) (now0+3000)≤W (s.W.T.map liveK) (now0+3000):=sum_sub hsub fun y hy=>wk_nonneg (hA.jp y hy) _
   have hW0:0≤W ((dropAT x s.W.T).map liveK) (now0+3000):=W_nonneg (fun y hy=>hA.jp y (hsub.subset hy)) _
   have hs0:List.Sublist (((dropAT x s.W.T).map liveK).map statOf) l0:=by rw [q2]; exact hsub.map _
   have hC:sumC5 (((dropAT x s.W.T).map liveK).map statOf)≤sumC5 l0:=sum_sub hs0 fun st hs=>by
    have:=(perOK_iff.1 (h6 st hs).1).1.1
    omega
   have hU:sumV5 (((dropAT x s.W.T).map liveK).map statOf)≤sumV5 l0:=sum_sub hs0 fun st hs=>Int.le_of_lt (unitsV_pos (h6 st hs).1)
   exact ⟨now0,W ((dropAT x s.W.T).map liveK) (now0+3000),u,g,c,_,⟨h1,h2⟩,⟨hW0,h4,h5⟩,fun st hs=>h6 st (hs0.subset hs),by omega,by omega,.inl ⟨q1,rfl,rfl⟩⟩
  ·obtain ⟨l1,g1,k1,k2,k3⟩:=stand_drop q2 (by omega) h6 (fun a=>!qIl x a)
   have h6':∀ st ∈ l1,perOK st.1 st.2.1=true∧now0≤st.2.2.1:=fun st hs=>h6 st (k1.subset hs)
   have hC:sumC5 l1≤sumC5 l0:=sum_sub k1 fun st hs=>by
    have:=(perOK_iff.1 (h6 st hs).1).1.1
    omega
   have hU:sumV5 l1≤sumV5 l0:=sum_sub k1 fun st hs=>Int.le_of_lt (unitsV_pos (h6 st hs).1)
   refine ⟨now0,r0,u+(sumV5 l0-sumV5 l1),g+g1,c+(sumC5 l0-sumC5 l1),l1,⟨h1,h2⟩,⟨h3,by omega,by omega⟩,h6',by omega,by omega,.inr ⟨q1,by rw [← Int.add_assoc]; exact k2,?_,q3,q4.imp (fun h=>h) fun h=>by omega⟩⟩
   rw [show s.W.Now-now0-1=k-1 by omega] at k3
   rw [Int.add_mul]
   omega
theorem WaitG.once (h:WaitG s id byT k) {o:Fu.Op} (hm:mayE (subS s o)=true):WaitG (subS s o) id byT k:=⟨⟨hm,h.inn.on,h.inn.new⟩,h.new,h.spec,h.low,h.pos,h.run⟩
end
section
variable {s:Fu.Serv} {id byT k:Int}
theorem WaitG.more (h:WaitG s id byT k) {o:Fu.Op} (h4:o.Kind≠4) (h2:o.Kind≠2∨o.ID≠id):WaitG (doV s o).1 id byT k:=by
 have hc:=do_case s o
 revert hc
 generalize doV s o=x
 intro hc
 cases hc with
 | err e he=>exact h
 | join hw hk hz=>have:=(join_ok hz).1.2; rw [h.inn.on] at this; cases this
 | rate hw hk hz=>have:=(rate_ok hz).1.2; rw [h.inn.on] at this; cases this
 | leave hw hk hz =>
  have hx:o.ID≠id:=by
   rcases h2 with h2 | h2
   ·exact absurd hk h2
   ·exact h2
  have hf:freshE s o.ID=false:=by
   unfold freshE
   rw [h.inn.on,h.new,show (id == o.ID)=false from beq_eq_false_iff_ne.2 fun e=>hx e.symm]
   rfl
  show WaitG (leaveR s o.ID).1 id byT k
  unfold leaveR
  cases (leaveE s o.ID != 0) with
  | true=>exact h
  | false=>rw [hf]; exact h.drop hx
 | once hw hk ha hf=>exact h.once (sub_may h.inn.may hw hk ha hf)
 | tick hw hk=>exact absurd hk h4
theorem WaitG.tick (h : WaitG s id byT k) {o : Fu.Op} (hk : o.Kind = 4) (ho : mayOp o = true) : (doV s o).2.1.1 = 0 ∧ (doV s o).2.2.2.2.2.2.2.1 = [] ∧ (doV s o).1.W.T.length ≤ 4 ∧
    ((1≤(doV s o).1.W.T.length∧(rd .task (doV s o).1.W.T (((doV s o).1.W.T.length:Int)-1)).ID=id) ∨
      (WaitG (doV s o).1 id byT (k+1)∧∀ t ∈ (doV s o).1.W.T,t.ID < id)):=by
  have ha:=h.ahead
  have hm:=h.inn.may
  have hn:s.W.Now≠274877906944:=by have:=ha.now; omega
  have hw:=why_free hm ho hn
  have e:doV s o=doT s o:=by rw [do_free hw,doK_eq (x:=doT s o) hk rfl]
  have hm':=move_may hm
  have hA:Ahead (moveV s).1.W:=by
    have hl:=move_low (b:=k) h.pos hm h.low
    have:=h.time.2
    exact ⟨safeE_may hm',by have:=hl.1; omega,fun t ht=>by have:=hl.2 t ht; omega⟩
  have hs:=(mayE_safe hm').1
  have hlen:=hA.tickLen o.D
  have h4:=(mayW_iff.1 (safeE_may hm')).2.1
  rw [e]
  refine ⟨rfl,(safe_tick hA hs o.D).2,by show (tickW (moveV s).1.W o.D).T.length≤4; omega,?_⟩
  show (1≤(tickW (moveV s).1.W o.D).T.length∧(rd .task (tickW (moveV s).1.W o.D).T (((tickW (moveV s).1.W o.D).T.length:Int)-1)).ID=id)∨(WaitG { (moveV s).1 with W:=tickW (moveV s).1.W o.D } id byT (k+1)∧∀ t ∈ (tickW (moveV s).1.W o.D).T,t.ID < id)
  cases ht:(tryV s).2 with
  | true =>
    left
    have em:(moveV s).1.W=(tryV s).1:=by unfold moveV; rw [ht]; rfl
    obtain ⟨l1,l2⟩:=h.inn.last
    have hl2:(moveV s).1.W.T.length=s.W.T.length+1:=by rw [em]; exact l1
    refine ⟨by omega,?_⟩
    rw [hlen,hl2,show ((s.W.T.length+1:Nat):Int)-1=(s.W.T.length:Int) by omega,(tick_rd hA o.D (i:=(s.W.T.length:Int)) (by omega) (by omega)).1,em,l2]
    exact h.new
  | false =>
    right
    have em:(moveV s).1=s:=by unfold moveV; rw [ht]; rfl
    have hi:idleL (s.W.T.map liveK)=false:=by
      cases hi:idleL (s.W.T.map liveK) with
      | false=>rfl
      | true=>rw [h.inn.idle h.spec hi] at ht; cases ht
    rw [em]
    refine ⟨h.next hi o.D,fun t ht'=>?_⟩
    have:t.ID ∈ s.W.T.map (·.ID):=by rw [← ha.tickIDs o.D]; exact List.mem_map_of_mem ht'
    obtain ⟨v,hv,e⟩:=List.mem_map.1 this
    rw [← e,← h.new]
    exact h.inn.len.2.2.2 v hv
end
end Go.Fx
