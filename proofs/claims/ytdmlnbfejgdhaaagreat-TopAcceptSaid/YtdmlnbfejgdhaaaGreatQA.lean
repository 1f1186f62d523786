import Derived.Test.YtdmlnbfejgdhaaaGreatE4
import Derived.Test.YtdmlnbfejgdhaaaGreatP0
import Derived.Test.YtdmlnbfejgdhaaaGreatD2
namespace Go.Fx
open Go Go.Proofs
theorem join_W (s:Fu.Serv) (p:Fu.Spec):(joinR s p).1.1.W=s.W:=by
 by_cases h:(joinR s p).2=0
 ·rw [(join_ok h).2.2.2]
  rfl
 ·rw [join_no h]
theorem rate_W (s:Fu.Serv) (id t h:Int):(rateR s id t h).1.W=s.W:=by
 by_cases hz:(rateR s id t h).2=0
 ·rw [(rate_ok hz).2.2.2.2]
  rfl
 ·rw [rate_no hz]
theorem leave_W (s:Fu.Serv) (id:Int):(leaveR s id).1.W=s.W∨(leaveR s id).1.W={ s.W with T:=dropAT id s.W.T }:=by
 unfold leaveR
 cases (leaveE s id != 0) with
 | true=>exact .inl rfl
 | false =>
  cases freshE s id with
  | true=>exact .inl rfl
  | false=>exact .inr rfl
theorem try_all {s:Fu.Serv} (Q:Fu.Task→Prop) (h1:∀ t q p,Q t→Q (turnK t q p)) (h2:∀ id q p,mayK (newK id q p s.W.Now) s.W.Now=true→Q (newK id q p s.W.Now)) (hT:∀ t ∈ s.W.T,Q t):∀ t ∈ (tryV s).1.T,Q t:=by
 have step:∀ (k:Nat) (T:List Fu.Task) (i:Int),0≤i→(∀ t ∈ T,Q t)→∀ t ∈ (foldI nxtTr k (s,T) i).2,Q t:=by
  intro k
  induction k with
  | zero=>intro T i _ h; exact h
  | succ k ih =>
   intro T i h0 h
   have key:∀ t ∈ (nxtTr (s,T) i).2,Q t:=by
    intro t ht
    unfold nxtTr at ht
    simp only at ht
    cases hb:decide (i < (T.length:Int)) with
    | true =>
     have hi:=of_decide_eq_true hb
     rw [hb,cond_true] at ht
     obtain ⟨j,⟨j0,j1⟩,e⟩:=memRd (r:=.task) ht
     rw [upd_len] at j1
     rw [rd_upd h0 hi j0 j1] at e
     by_cases hji:j=i
     ·rw [if_pos hji] at e
      rw [← e]
      exact h1 _ _ _ (h _ (rd_mem' (r:=.task) h0 hi))
     ·rw [if_neg hji] at e
      rw [← e]
      exact h _ (rd_mem' (r:=.task) j0 j1)
    | false =>
     rw [hb,cond_false] at ht
     cases hm:mayK (newK (rd .aim s.R.L i).ID (rd .aim s.R.L i).S (rd .aim s.R.L i).P s.W.Now) s.W.Now with
     | false=>rw [hm] at ht; exact h t ht
     | true =>
      rw [hm,cond_true] at ht
      rcases List.mem_append.1 ht with ht | ht
      ·exact h t ht
      ·have:t=newKR (rd .aim s.R.L i).ID (rd .aim s.R.L i).S (rd .aim s.R.L i).P s.W.Now:=by simpa using ht
       rw [this,newKR_ID hm]
       exact h2 _ _ _ hm
   exact ih (nxtTr (s,T) i).2 (i+1) (by omega) key
 unfold tryV
 cases (!mayE s || !s.R.On) with
 | true=>exact hT
 | false=>exact step _ s.W.T 0 (Int.le_refl _) hT
theorem move_all {s:Fu.Serv} (Q:Fu.Task→Prop) (h1:∀ t q p,Q t→Q (turnK t q p)) (h2:∀ id q p,mayK (newK id q p s.W.Now) s.W.Now=true→Q (newK id q p s.W.Now)) (hT:∀ t ∈ s.W.T,Q t):∀ t ∈ (moveV s).1.W.T,Q t:=by
 unfold moveV
 cases (tryV s).2 with
 | true=>exact try_all Q h1 h2 hT
 | false=>exact hT
theorem turn_N (t:Fu.Task) (q:Fu.Spec) (p:Int):(turnK t q p).N=t.N:=by
 unfold turnK
 cases turnOK t q p <;> rfl
theorem move_low {s:Fu.Serv} {b:Int} (hb:0≤b) (hm:mayE s=true) (h:lowN b s.W):lowN b (moveV s).1.W:=by
 refine ⟨by rw [move_now hm]; exact h.1,move_all (fun t=>t.N≤274877906944+b) (fun t q p ht=>by rw [turn_N]; exact ht) (fun id q p _=>?_) h.2⟩
 show (0:Int)≤_
 omega
theorem tick_idsX {w:Fu.World} (hm:mayW w=true) (d:List Int):List.Sublist (idsA (tickW w d).A) (idsA w.A):=by
 obtain ⟨_,_,_,hA,_,_,_⟩:=mayW_iff.1 hm
 have hsub:List.Sublist (idsA (leftW w d).A) (idsA w.A):=(List.filter_sublist).map _
 have eA:(tickW w d).A=(midW w d).1.A:=rfl
 rw [eA]
 rcases who_range (x:=startW w d) hA with h | h | h | h
 ·rw [mid_task (.inl h)]
  simp only [(noCur_A _).1]
  exact hsub
 ·rw [mid_once h]
  cases hd:doneB (leftW w d).A (whoW (startW w d)).2 with
  | true =>
   simp only [cond_true,(noCur_A _).1]
   have:=((List.eraseIdx_sublist (ranAs (leftW w d).A (whoW (startW w d)).2) (atA (leftW w d).A (whoW (startW w d)).2).toNat).map (·.ID)).trans (by
    have e:=ranAs_ids (leftW w d).A (whoW (startW w d)).2
    unfold idsA at e
    rw [e]
    exact List.Sublist.refl _)
   exact this.trans hsub
  | false =>
   simp only [cond_false,(noCur_A _).1]
   rw [ranAs_ids]
   exact hsub
 ·rw [mid_task (.inr h)]
  simp only [(noCur_A _).1]
  exact hsub
 ·rw [mid_none h]
  simp only [(noCur_A _).1]
  exact hsub
theorem tick_rdX {w:Fu.World} (h:Ahead w) (d:List Int) {i:Int} (h0:0≤i) (h1:i < w.T.length):(rd .task (tickW w d).T i).ID=(rd .task w.T i).ID∧(rd .task (tickW w d).T i).S=(rd .task w.T i).S:=by
 have hl:=h.tickLen d
 obtain ⟨n,rfl⟩:∃ n:Nat,i=n:=⟨i.toNat,by omega⟩
 have n1:n < w.T.length:=by omega
 have n2:n < (tickW w d).T.length:=by omega
 have e1:=congrArg (fun l:List Int=>l[n]?) (h.tickIDs d)
 have e2:=congrArg (fun l:List Fu.Fix=>l[n]?) (h.tickFix d)
 simp only [List.getElem?_map,List.getElem?_eq_getElem n1,List.getElem?_eq_getElem n2,Option.map_some,Option.some.injEq] at e1 e2
 rw [rd_of (r:=.task) n1,rd_of (r:=.task) n2]
 exact ⟨e1,congrArg Fu.Fix.S e2⟩
theorem tick_may {s:Fu.Serv} (h:mayE s=true) (ha:Ahead s.W) (d:List Int):mayE { s with W:=tickW s.W d }=true:=by
 obtain ⟨r1,r2,r3⟩:=mayE_safe h
 obtain ⟨hT,hA,hasc⟩:=newP_T h
 have hs:=(safe_tick ha r1 d).1
 have hlen:=ha.tickLen d
 have hids:∀ t ∈ (tickW s.W d).T,∃ u ∈ s.W.T,u.ID=t.ID:=fun t ht=>by
  have:t.ID ∈ s.W.T.map (·.ID):=by rw [← ha.tickIDs d]; exact List.mem_map_of_mem ht
  obtain ⟨u,hu,e⟩:=List.mem_map.1 this
  exact ⟨u,hu,e⟩
 refine mayE_iff.2 ⟨⟨hs,r2,r3⟩,⟨atIm_none.2 fun t ht=>?_,atIv_none.2 fun a ha'=>?_⟩,?_⟩
 ·obtain ⟨u,hu,e⟩:=hids t ht
  rw [← e]
  exact hT u hu
 ·have:a.ID ∈ idsA s.W.A:=(tick_idsX (safe_may r1) d).subset (List.mem_map_of_mem ha')
  obtain ⟨b,hb,e⟩:=List.mem_map.1 this
  rw [← e]
  exact hA b hb
 ·have hk:=(mayE_iff.1 h).2.2
  cases hon:s.R.On with
  | false=>exact (askE_off (s:={ s with W:=tickW s.W d }) hon).2 ((askE_off hon).1 hk)
  | true =>
   obtain ⟨a1,a2,a3,a4⟩:=(askE_on hon).1 hk
   refine (askE_on (s:={ s with W:=tickW s.W d }) hon).2 ⟨⟨a1.1,?_⟩,a2,a3,?_⟩
   ·show s.R.Since≤(tickW s.W d).Now
    rw [ha.tickNow d]
    omega
   ·obtain ⟨⟨b1,b2⟩,b3⟩:=(aims_iff hasc a3).1 a4
    refine (aims_iff (s:={ s with W:=tickW s.W d }) (mayW_asc (safe_may hs)) a3).2 ⟨⟨b1,?_⟩,b3⟩
    obtain ⟨k1,k2,k3⟩:=algn_iff.1 b2
    refine algn_iff.2 ⟨by show (tickW s.W d).T.length≤_; rw [hlen]; exact k1,fun n hn=>?_,?_⟩
    ·have hn:n < s.W.T.length:=by rw [← hlen]; exact hn
     obtain ⟨c0,c1,c2,c3⟩:=k2 n hn
     obtain ⟨t1,t2⟩:=tick_rdX ha d (i:=n) (by omega) (by omega)
     show (rd .aim s.R.L n).ID=(rd .task (tickW s.W d).T n).ID∧_=(rd .task (tickW s.W d).T n).S.C∧_=(rd .task (tickW s.W d).T n).S.M∧_=(rd .task (tickW s.W d).T n).S.K
     rw [t1,t2]
     exact ⟨c0,c1,c2,c3⟩
    ·show newP _ (tickW s.W d).T (s.R.L.drop (tickW s.W d).T.length)
     rw [hlen]
     rcases k3 with q | ⟨q1,q2,q3⟩
     ·exact .inl q
     ·refine .inr ⟨q1,fun t ht=>?_,q3⟩
      obtain ⟨u,hu,e⟩:=hids t ht
      rw [← e]
      exact q2 u hu
inductive DoC (s:Fu.Serv) (o:Fu.Op):Fu.Serv × (Int × Int) × Trc→Prop where
 | err (e:Int) (h:e≠0):DoC s o (errD e s)
 | join (hw:whyV s (mayOp o)=0) (hk:o.Kind=0) (hz:(joinR s o.S).2=0):DoC s o ((joinR s o.S).1.1,(0,maxI (joinR s o.S).1.2 0),noTr)
 | rate (hw:whyV s (mayOp o)=0) (hk:o.Kind=1) (hz:(rateR s o.ID o.T o.Max).2=0):DoC s o ((rateR s o.ID o.T o.Max).1,(0,0),noTr)
 | leave (hw:whyV s (mayOp o)=0) (hk:o.Kind=2) (hz:(leaveR s o.ID).2=0):DoC s o ((leaveR s o.ID).1,(0,0),noTr)
 | once (hw:whyV s (mayOp o)=0) (hk:o.Kind=3) (ha:argA o=false) (hf:fullA s=false):DoC s o (subS s o,(0,s.NextAp),noTr)
 | tick (hw:whyV s (mayOp o)=0) (hk:o.Kind=4):DoC s o (doT s o)
theorem do_case (s:Fu.Serv) (o:Fu.Op):DoC s o (doV s o):=by
 unfold doV
 cases hw:whyV s (mayOp o) != 0 with
 | true=>exact .err _ (bne_iff_ne.1 hw)
 | false =>
  have hw:=bne_eq_false_iff_eq.1 hw
  rw [cond_false]
  have hk:=mayOp_kind (whyV_zero hw).2.1
  have:o.Kind=0∨o.Kind=1∨o.Kind=2∨o.Kind=3∨o.Kind=4:=by omega
  rcases this with k | k | k | k | k
  ·rw [doK_eq (x:=doJ s o) k rfl]
   unfold doJ
   cases he:(joinR s o.S).2 != 0 with
   | true=>exact .err _ (bne_iff_ne.1 he)
   | false=>exact .join hw k (bne_eq_false_iff_eq.1 he)
  ·rw [doK_eq (x:=doR s o) k rfl]
   unfold doR
   cases he:(rateR s o.ID o.T o.Max).2 != 0 with
   | true=>exact .err _ (bne_iff_ne.1 he)
   | false=>exact .rate hw k (bne_eq_false_iff_eq.1 he)
  ·rw [doK_eq (x:=doL s o) k rfl]
   unfold doL
   cases he:(leaveR s o.ID).2 != 0 with
   | true=>exact .err _ (bne_iff_ne.1 he)
   | false=>exact .leave hw k (bne_eq_false_iff_eq.1 he)
  ·rw [doK_eq (x:=doA s o) k rfl]
   unfold doA
   cases ha:argA o with
   | true=>exact .err 1 (by decide)
   | false =>
    cases hf:fullA s with
    | true=>exact .err 3 (by decide)
    | false=>exact .once hw k ha hf
  ·rw [doK_eq (x:=doT s o) k rfl]
   exact .tick hw k
theorem argA_no {o:Fu.Op} (h:argA o=false):o.Within≠0∧(1≤o.C∧o.C≤40)∧(1≤o.V∧o.V≤1000):=by
 unfold argA at h
 simp only [Bool.or_eq_false_iff,decide_eq_false_iff_not,beq_eq_false_iff_ne] at h
 omega
theorem fullA_no {s:Fu.Serv} (h:fullA s=false):(s.W.A.length:Int)≠4∧s.NextAp≠65536:=by
 unfold fullA at h
 rw [Bool.or_eq_false_iff,beq_eq_false_iff_ne,beq_eq_false_iff_ne] at h
 exact h
theorem sub_may {s:Fu.Serv} {o:Fu.Op} (hm:mayE s=true) (hw:whyV s (mayOp o)=0) (hk:o.Kind=3) (ha:argA o=false) (hf:fullA s=false):mayE (subS s o)=true:=by
 obtain ⟨r1,r2,r3⟩:=mayE_safe hm
 obtain ⟨hT,hA,hasc⟩:=newP_T hm
 obtain ⟨f1,f2⟩:=fullA_no hf
 obtain ⟨a1,a2,a3⟩:=argA_no ha
 obtain ⟨w1,w2⟩:=mayOp_sub (whyV_zero hw).2.1 hk
 obtain ⟨m1,m2,m3,m4,m5,m6,m7⟩:=mayW_iff.1 (safe_may r1)
 obtain ⟨n1,n2,n3,n4⟩:=mayA_iff.1 m4
 have hl:s.W.A.length < 4:=by omega
 have hs:safeW (subS s o).W=true:=by
  have h1:mayW (subS s o).W=true:=by
   refine mayW_iff.2 ⟨m1,m2,m3,mayA_iff.2 ⟨fun a h=>?_,?_,?_,n4⟩,m5,m6,ascA_pair.2 ?_⟩
   ·rcases List.mem_append.1 h with h | h
    ·exact n1 a h
    ·have:a=⟨s.NextAp,s.W.Now+o.Within,o.C,o.V,0⟩:=by simpa using h
     subst this
     exact apeOK_iff.2 ⟨by simp only; omega,by simp only; omega,a2,a3,by simp only; omega⟩
   ·show (idsA (s.W.A ++ [_])).Nodup
    unfold idsA at n2 ⊢
    rw [List.map_append,List.nodup_append]
    refine ⟨n2,by simp,fun x hx y hy=>?_⟩
    obtain ⟨a,h1,rfl⟩:=List.mem_map.1 hx
    have:y=s.NextAp:=by simpa using hy
    have:=hA a h1
    omega
   ·show (s.W.A ++ [_]).length≤4
    rw [List.length_append,List.length_singleton]
    omega
   ·show (s.W.A ++ [_]).Pairwise _
    rw [List.pairwise_append]
    refine ⟨ascA_pair.1 m7,by simp,fun x hx y hy=>?_⟩
    have:y=⟨s.NextAp,s.W.Now+o.Within,o.C,o.V,0⟩:=by simpa using hy
    have:=hA x hx
    subst y
    simp only
    omega
  unfold safeW at r1 ⊢
  rw [Bool.and_eq_true] at r1 ⊢
  exact ⟨h1,r1.2⟩
 refine mayE_iff.2 ⟨⟨hs,r2,?_⟩,⟨atIm_none.2 hT,atIv_none.2 fun a h=>?_⟩,?_⟩
 ·show 0≤s.NextAp+1∧s.NextAp+1≤65536
  omega
 ·show a.ID < s.NextAp+1
  rcases List.mem_append.1 h with h | h
  ·have:=hA a h
   omega
  ·have:a=⟨s.NextAp,s.W.Now+o.Within,o.C,o.V,0⟩:=by simpa using h
   subst this
   simp only
   omega
 ·have hk:=(mayE_iff.1 hm).2.2
  exact hk
theorem do_may {s:Fu.Serv} {o:Fu.Op} {b:Int} (hb:0≤b∧b≤1000) (hm:mayE s=true) (hl:lowN b s.W):mayE (doV s o).1=true∧lowN (b+1) (doV s o).1.W∧(doV s o).2.2.2.2.2.2.2.1=[]:=by
 have up:lowN (b+1) s.W:=⟨by have:=hl.1; omega,fun t ht=>by have:=hl.2 t ht; omega⟩
 have h:=do_case s o
 revert h
 generalize doV s o=x
 intro h
 cases h with
 | err e h=>exact ⟨hm,up,rfl⟩
 | join hw hk hz=>exact ⟨join_may hm,by simp only; rw [join_W]; exact up,rfl⟩
 | rate hw hk hz=>exact ⟨rate_may hm,by simp only; rw [rate_W]; exact up,rfl⟩
 | leave hw hk hz =>
  refine ⟨leave_may hm,?_,rfl⟩
  rcases leave_W s o.ID with e | e
  ·simp only; rw [e]; exact up
  ·simp only; rw [e]; exact ⟨up.1,fun t ht=>up.2 t ((dropAT_sub o.ID s.W.T).subset ht)⟩
 | once hw hk ha hf=>exact ⟨sub_may hm hw hk ha hf,up,rfl⟩
 | tick hw hk =>
  have hm':=move_may hm
  have hA:=Ahead.of_low (safeE_may hm') hb.2 (move_low hb.1 hm hl)
  exact ⟨tick_may hm' hA o.D,hA.tickLow o.D (move_low hb.1 hm hl),(safe_tick hA (mayE_safe hm').1 o.D).2⟩
end Go.Fx
namespace Go.Fx
open Go Go.Proofs
end Go.Fx
namespace Go.Fx
open Go Go.Proofs
end Go.Fx
