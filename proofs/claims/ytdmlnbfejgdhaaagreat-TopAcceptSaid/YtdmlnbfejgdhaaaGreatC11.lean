import Derived.Test.YtdmlnbfejgdhaaaGreatC10
namespace Go.Fx
open Go Go.Proofs
def stSp (s:Fu.Spec) (t h:Int):Fu.Spec:=⟨s.C,t,h,s.M,s.K,s.E⟩
def stretchV (s:Fu.Spec) (t h:Int):Fu.Spec × Bool:=bif !mayS s || !mayS (stSp s t h) then (⟨0,0,0,0,0,0⟩,false) else (stSp s t h,true)
theorem fStretch (s:Fu.Spec) (t h:Int):callC c189 60 202 [.agg (encSpec s),.int .i64 t,.int .i64 h]=.ite (!mayS s || !mayS (stSp s t h)) (.ret (.tup [.agg [.lit .i64 0,.lit .i64 0,.lit .i64 0,.lit .i64 0,.lit .i64 0,.lit .i64 0],.blit false],[])) (.ret (.tup [.agg (encSpec (stSp s t h)),.blit true],[])):=by kernel_rfl
def conStretch:Con:=plainCon (d3 dSpec dInt dInt) fun x=>.tup [.agg (encSpec (stretchV x.1 x.2.1 x.2.2).1),.bool (stretchV x.1 x.2.1 x.2.2).2]
theorem conStretch_valid:ValidCon c189.P 202 conStretch:=plainCon_valid c189_good 60 (by kernel_rfl) fun x=>⟨_,fStretch x.1 x.2.1 x.2.2,bif_rez (fun v:Fu.Spec × Bool=>(.tup [.agg (encSpec v.1),.bool v.2],[]))
 (.ret (.tup (.cons (.agg (.cons (.lit rfl) (.cons (.lit rfl) (.cons (.lit rfl) (.cons (.lit rfl) (.cons (.lit rfl) (.cons (.lit rfl) .nil))))))) (.cons (.blit rfl) .nil))) rfl) (.ret (.tup (.cons (.refl _) (.cons (.blit rfl) .nil))) rfl)⟩
noncomputable def c190:Cfg:=c189.addQuiet 202 conStretch
theorem c190_good:GoodCfg c190:=c189_good.addQuiet conStretch_valid plainCon_quiet
def okCap (_:Int):Prop:=True
noncomputable def c191:Cfg:=c190.addCuts [27,26,30]
theorem c191_good:GoodCfg c191:=c190_good.addCuts _
abbrev XDlT:=List Fu.Task × Int × TypeId
def TTdT (x:(XDlT × Int) × Int):St:=⟨puts (J 42) [(0,.own 0),(1,fnIl x.1.1.2.1),(5,.int .i64 x.1.2),(6,.int .i64 x.2)],[(0,.rows .task x.1.1.2.2 x.1.1.1)],1⟩
def sTdT:List Sh:=sets (Js 42) [(0,.keep),(1,.keep),(5,.int),(6,.int)]
def eTdT:List Sh:=sets (Js 42) [(0,.keep),(5,.int)]
def ETdT (x:XDlT × Int):Ex × St:=(.exit 0,⟨puts (J 42) [(0,.own 0),(5,.int .i64 x.2)],[(0,.rows .task x.1.2.2 x.1.1)],1⟩)
def setAT (x:XDlT) (A:List Fu.Task):XDlT:=(A,x.2)
def nxtTdT (x:XDlT × Int) (j:Int):XDlT × Int:=bif !qIl x.1.2.1 (rd .task x.1.1 j) then (setAT x.1 (upd .task x.1.1 x.2 (rd .task x.1.1 j)),IntKind.i64.wrap (x.2+1)) else x
theorem bTdT (x : XDlT) (i j : Int) : roundN c191 60 203 (loopAt c191.P 203 5) (norm2 1 [] [0] sTdT) (norm2 1 [] [0] eTdT) (TTdT ((x, i), j)) =
    .ite (decide (j < x.1.length)) (.asrt (0≤j∧j < x.1.length) (.asrt (0≤j∧j < x.1.length) (.ite (!qIl x.2.1 (rd .task x.1 j))
      (.asrt (0≤i∧i < x.1.length) (.asrt (0≤i∧i < x.1.length) (.ret (.normal,TTdT ((setAT x (upd .task x.1 i (rd .task x.1 j)),IntKind.i64.wrap (i+1)),IntKind.i64.wrap (j+1))))))
      (.ret (.normal,TTdT ((x,i),IntKind.i64.wrap (j+1))))))) (.ret (ETdT (x,i))):=by kernel_rfl
def gTdT (σ:St):Option ((XDlT × Int) × Int) :=
 match nth σ.tmps 1,nth σ.tmps 5,nth σ.tmps 6,σ.heap with
 | .fn _ _ [.pv [.int .i64 g]],.int .i64 i,.int .i64 j,[(_,.rows .task e A)]=>some (((A,g,e),i),j)
 | _,_,_,_=>none
def okTdT (x:XDlT × Int) (_:Int):Prop:=(0≤x.2∧x.2 < x.1.1.length)∧okCap x.1.2.1
def LTd0T:LoopCon:=boundF 1 (norm2 1 [] [0] sTdT) TTdT gTdT (fun x=>x.1.1.length) okTdT nxtTdT ETdT
theorem lTd0T (hs:SubOf c191.P 203 (.loop (loopAt c191.P 203 5))):SoundLoop c191 (loopAt c191.P 203 5) LTd0T :=
 bound_fold (C:=c191) (g:=203) (l:=5) c191_good 60 1 _ _ (Weak.norm2 1 [] [0] sTdT) (Weak.norm2 1 [] [0] eTdT) hs TTdT gTdT (fun x=>x.1.1.length) okTdT nxtTdT ETdT
  (fun _=>by intro h; cases h) (fun x j=>by
   unfold nxtTdT
   cases (!qIl x.1.2.1 (rd .task x.1.1 j)) with
   | true=>simp [setAT,upd]
   | false=>rfl)
  (fun x j h0 hj hm hok=>.of_eq (bTdT x.1 x.2 j) (by
   unfold maxI64 at hm
   rw [wrap_fits (n:=j+1) (by omega) (by omega)]
   refine (Tree.out_ite_true (decide_eq_true hj)).2 ⟨⟨h0,hj⟩,⟨h0,hj⟩,?_⟩
   unfold nxtTdT
   cases h:(!qIl x.1.2.1 (rd .task x.1.1 j)) with
   | true=>exact (Tree.out_ite_true rfl).2 ⟨hok.1,hok.1,rfl⟩
   | false=>exact (Tree.out_ite_false rfl).2 rfl))
  (fun x j hj=>.of_eq (bTdT x.1 x.2 j) ((Tree.out_ite_false (decide_eq_false (by omega))).2 rfl))
def nxtDlT (g:Int) (p:List Fu.Task × Int) (j:Int):List Fu.Task × Int:=bif !qIl g (rd .task p.1 j) then (upd .task p.1 p.2 (rd .task p.1 j),p.2+1) else p
def delNT (g:Int) (p:List Fu.Task × Int) (j:Int):List Fu.Task × Int:=foldI (nxtDlT g) ((p.1.length:Int)-j).toNat p j
def LTdT:LoopCon:=entry 1 (norm2 1 [] [0] sTdT) TTdT gTdT fun p=>.asrt ((0≤p.1.2∧p.1.2 < p.2∧p.2≤p.1.1.1.length)∧(p.1.1.1.length:Int) < 17592186044416∧okCap p.1.1.2.1)
 (.ret (ETdT (setAT p.1.1 (delNT p.1.1.2.1 (p.1.1.1,p.1.2) p.2).1,(delNT p.1.1.2.1 (p.1.1.1,p.1.2) p.2).2)))
theorem foldTdT (k : Nat) : ∀ (x : XDlT) (i j : Int), 0 ≤ i → i < j → j + k ≤ x.1.length → (x.1.length : Int) < 17592186044416 → okCap x.2.1 →
    foldI nxtTdT k (x,i) j=(setAT x (foldI (nxtDlT x.2.1) k (x.1,i) j).1,(foldI (nxtDlT x.2.1) k (x.1,i) j).2)∧okI nxtTdT (fun _ _=>(none:Option Unit)) okTdT k (x,i) j:=by
  induction k with
  | zero=>intro x i j _ _ _ _ _; exact ⟨rfl,trivial⟩
  | succ k ih =>
    intro x i j h0 h1 h2 h3 h4
    have hok:okTdT (x,i) j:=⟨⟨h0,by show i < (x.1.length:Int); omega⟩,h4⟩
    unfold foldI
    cases hb:(!qIl x.2.1 (rd .task x.1 j)) with
    | true =>
      have e1:nxtTdT (x,i) j=(setAT x (upd .task x.1 i (rd .task x.1 j)),i+1):=by
        unfold nxtTdT
        simp only [hb,cond_true]
        rw [wrap_fits (n:=i+1) (by omega) (by omega)]
      have e2:nxtDlT x.2.1 (x.1,i) j=(upd .task x.1 i (rd .task x.1 j),i+1):=by
        unfold nxtDlT
        simp only [hb,cond_true]
      have hl:(upd .task x.1 i (rd .task x.1 j)).length=x.1.length:=by simp [upd]
      obtain ⟨k1,k2⟩:=ih (setAT x (upd .task x.1 i (rd .task x.1 j))) (i+1) (j+1) (by omega) (by omega) (by show j+1+(k:Int)≤((upd .task x.1 i (rd .task x.1 j)).length:Int); rw [hl]; omega) (by show ((upd .task x.1 i (rd .task x.1 j)).length:Int) < _; rw [hl]; exact h3) h4
      rw [e1,e2]
      exact ⟨k1,hok,fun _=>by rw [e1]; exact k2⟩
    | false =>
      have e1:nxtTdT (x,i) j=(x,i):=by unfold nxtTdT; simp only [hb,cond_false]
      have e2:nxtDlT x.2.1 (x.1,i) j=(x.1,i):=by unfold nxtDlT; simp only [hb,cond_false]
      obtain ⟨k1,k2⟩:=ih x i (j+1) h0 (by omega) (by omega) h3 h4
      rw [e1,e2]
      exact ⟨k1,hok,fun _=>by rw [e1]; exact k2⟩
theorem lTdT (hs:SubOf c191.P 203 (.loop (loopAt c191.P 203 5))):SoundLoop c191 (loopAt c191.P 203 5) LTdT:=by
 intro w0 S φ σ a w Q R hx
 refine lTd0T hs w0 S φ σ a w Q R ?_
 obtain ⟨r,hr,hq⟩:=Tree.wp_out.1 hx
 refine Tree.wp_of_out ?_ hq
 unfold LTdT entry at hr
 unfold LTd0T boundF entry
 split at hr
 ·rename_i p hp
  obtain ⟨h1,⟨⟨h2,h3,h4⟩,h5,h6⟩,h7⟩:=hr
  obtain ⟨⟨x,i⟩,j⟩:=p
  simp only at h2 h3 h4 h5 h6
  obtain ⟨k1,k2⟩:=foldTdT ((x.1.length:Int)-j).toNat x i j h2 h3 (by omega) h5 h6
  simp only [hp]
  refine ⟨h1,⟨by omega,by unfold maxI64; omega,k2⟩,?_⟩
  rw [← h7]
  show ETdT (foldI nxtTdT ((x.1.length:Int)-j).toNat (x,i) j)=_
  rw [k1]
  rfl
 ·exact hr.elim
noncomputable def c192:Cfg:=c191.addLoop 203 5 LTdT
theorem c192_good:GoodCfg c192:=c191_good.addLoop (by unfold OneLoop; kernel_rfl) lTdT
def zeroApeT:Fu.Task:=⟨0,⟨0,0,0,0,0,0⟩,0,0,0,0,⟨false,0,0,0,false,0,0,0⟩,⟨0,0⟩,false⟩
def delZT (D:List Fu.Task) (n:Int):List Fu.Task:=D.take (D.length-(D.length-n.toNat)) ++ List.replicate (D.length-n.toNat) zeroApeT
def delET (D:List Fu.Task) (n:Int) (e:TypeId):Tree (AV × Heap × Nat):=.asrt (0≤n∧n≤D.length∧0 < D.length) (.asrt (n.toNat*RTy.task.size=(D.length-(D.length-n.toNat))*RTy.task.size∧D.length-n.toNat≤D.length)
 (.asrt (0≤n∧n≤(delZT D n).length∧0 < (delZT D n).length) (.ret (.own 1,[(1,.rows .task e ((delZT D n).take n.toNat))],2))))
def delTT (A:List Fu.Task) (g:Int) (e:TypeId):Tree (AV × Heap × Nat):=.asrt ((A.length:Int) < 17592186044416) (.ite (atIl A g == -1) (.ret (.own 0,[(0,.rows .task e A)],1)) (.asrt (1=1∧TTdT (((A,g,e),atIl A g),IntKind.i64.wrap (atIl A g+1))=TTdT (((A,g,e),atIl A g),IntKind.i64.wrap (atIl A g+1)))
 (.asrt ((0≤atIl A g∧atIl A g < IntKind.i64.wrap (atIl A g+1)∧IntKind.i64.wrap (atIl A g+1)≤A.length)∧(A.length:Int) < 17592186044416∧okCap g)
  (delET (delNT g (A,atIl A g) (IntKind.i64.wrap (atIl A g+1))).1 (delNT g (A,atIl A g) (IntKind.i64.wrap (atIl A g+1))).2 e))))
theorem fDelGoT (A:List Fu.Task) (g:Int) (e:TypeId):inlineX c192 (exec c192 60) 203 [.own 0,fnIl g] [(0,.rows .task e A)] 1=delTT A g e:=by kernel_rfl
def dropAT (g:Int) (A:List Fu.Task):List Fu.Task:=A.filter fun a=>!qIl g a
theorem foldDlT (g : Int) (k : Nat) : ∀ (A : List Fu.Task) (i j : Int), 0 ≤ i → i < j → j + k = A.length →
    (foldI (nxtDlT g) k (A,i) j).1.length=A.length∧(i≤(foldI (nxtDlT g) k (A,i) j).2∧(foldI (nxtDlT g) k (A,i) j).2≤i+k)∧(foldI (nxtDlT g) k (A,i) j).1.take (foldI (nxtDlT g) k (A,i) j).2.toNat=A.take i.toNat ++ dropAT g (A.drop j.toNat):=by
  induction k with
  | zero =>
    intro A i j h0 h1 h2
    rw [drop_end (by omega)]
    exact ⟨rfl,⟨Int.le_refl _,by simp [foldI]⟩,by simp [foldI,dropAT]⟩
  | succ k ih =>
    intro A i j h0 h1 h2
    have hd:=drop_rd (r:=.task) (xs:=A) (i:=j) (by omega) (by omega)
    have hd':dropAT g (A.drop j.toNat)=bif !qIl g (rd .task A j) then rd .task A j :: dropAT g (A.drop (j+1).toNat) else dropAT g (A.drop (j+1).toNat):=by
      rw [hd]
      unfold dropAT
      rw [List.filter_cons]
      cases qIl g (rd .task A j) <;> rfl
    rw [hd']
    unfold foldI
    cases hb:(!qIl g (rd .task A j)) with
    | true =>
      have e2:nxtDlT g (A,i) j=(upd .task A i (rd .task A j),i+1):=by
        unfold nxtDlT
        simp only [hb,cond_true]
      rw [e2]
      have hl:(upd .task A i (rd .task A j)).length=A.length:=by simp [upd]
      obtain ⟨k1,k2,k3⟩:=ih (upd .task A i (rd .task A j)) (i+1) (j+1) (by omega) (by omega) (by rw [hl]; omega)
      refine ⟨k1.trans hl,⟨by omega,by omega⟩,?_⟩
      rw [k3]
      have hi:i.toNat < A.length:=by omega
      have t1:(upd .task A i (rd .task A j)).take (i+1).toNat=A.take i.toNat ++ [rd .task A j]:=by
        unfold upd
        rw [show (i+1).toNat=i.toNat+1 by omega,List.take_add_one,List.take_set_of_le (Nat.le_refl _),List.getElem?_set_self hi]
        rfl
      have t2:(upd .task A i (rd .task A j)).drop (j+1).toNat=A.drop (j+1).toNat:=by
        unfold upd
        exact List.drop_set_of_lt (by omega)
      rw [t1,t2]
      simp
    | false =>
      have e2:nxtDlT g (A,i) j=(A,i):=by unfold nxtDlT; simp only [hb,cond_false]
      rw [e2]
      obtain ⟨k1,k2,k3⟩:=ih A i (j+1) h0 (by omega) (by omega)
      exact ⟨k1,⟨by omega,by omega⟩,k3⟩
theorem atIl_specT (A:List Fu.Task) (g:Int):(atIl A g = -1∧dropAT g A=A)∨((0≤atIl A g∧atIl A g < A.length)∧dropAT g A=A.take (atIl A g).toNat ++ dropAT g (A.drop (atIl A g+1).toNat)):=by
 have all:∀ n:Nat,n≤A.length→(∀ k:Int,0≤k→k < n→pIl (A,g) k=false)→dropAT g (A.take n)=A.take n:=by
  intro n hn h
  unfold dropAT
  rw [List.filter_eq_self]
  intro a ha
  obtain ⟨m,hm,e⟩:=List.getElem_of_mem ha
  rw [List.length_take] at hm
  have h1:=h m (by omega) (by omega)
  have e1:rd .task A m=a:=by
   rw [← e,List.getElem_take]
   have:m < A.length:=by omega
   simp [rd,this]
  unfold pIl at h1
  simp only [e1] at h1
  rw [h1]
  rfl
 unfold atIl
 cases hf:firstP (pIl (A,g)) A.length 0 with
 | none =>
  left
  refine ⟨rfl,?_⟩
  have:=all A.length (Nat.le_refl _) fun k h1 h2=>firstP_none hf k h1 (by omega)
  rwa [List.take_length] at this
 | some k =>
  right
  obtain ⟨⟨h1,h2⟩,h3,h4⟩:=firstP_some hf
  simp only [Option.getD_some]
  refine ⟨⟨h1,by omega⟩,?_⟩
  have hk:=all k.toNat (by omega) fun i h5 h6=>h4 i h5 (by omega)
  have hd:=drop_rd (r:=.task) (xs:=A) (i:=k) h1 (by omega)
  have e:dropAT g A=dropAT g (A.take k.toNat) ++ dropAT g (A.drop k.toNat):=by
   unfold dropAT
   rw [← List.filter_append,List.take_append_drop]
  rw [e,hk,hd]
  congr 1
  unfold dropAT
  rw [List.filter_cons]
  unfold pIl at h3
  simp only at h3
  rw [h3]
  rfl
def eatGoT:TypeId→List AV→Tree Blk
 | e,[.view .task A,f]=>match decIl f with
  | some g=>.asrt ((A.length:Int) < 17592186044416∧okCap g) (.ret (.rows .task e (dropAT g A)))
  | none=>.fail
 | _,_=>.fail
theorem eatGo_outT {r : RTy} {e : TypeId} {xs : List r.carrier} {rest : List AV} {blk : Blk} (h : (eatGoT e (.view r xs :: rest)).Out blk) :
    ∃ A f g,r=.task∧HEq xs A∧rest=[f]∧decIl f=some g∧((A.length:Int) < 17592186044416∧okCap g)∧blk=Blk.rows .task e (dropAT g A):=by
  match r,rest with
  | .task,[f] =>
    have h':(match decIl f with | some g=>Tree.asrt ((xs.length:Int) < 17592186044416∧okCap g) (Tree.ret (Blk.rows .task e (dropAT g xs))) | none=>Tree.fail).Out blk:=h
    cases hg:decIl f with
    | none=>rw [hg] at h'; exact h'.elim
    | some g =>
      rw [hg] at h'
      exact ⟨xs,f,g,rfl,HEq.rfl,rfl,hg,h'.1,h'.2.symm⟩
  | .task,[]=>exact h.elim
  | .task,_ :: _ :: _=>exact h.elim
  | .int _,_=>exact h.elim
  | .bool,_=>exact h.elim
  | .str,_=>exact h.elim
  | .ints _,_=>exact h.elim
  | .spec,_=>exact h.elim
  | .spr,_=>exact h.elim
  | .fix,_=>exact h.elim
  | .item,_=>exact h.elim
  | .live,_=>exact h.elim
  | .opt,_=>exact h.elim
  | .ape,_=>exact h.elim
  | .aim,_=>exact h.elim
theorem eatGo_validT:ValidEat c192.P 203 eatGoT:=eat_of (C:=c192) c192_good 60 (by kernel_rfl) fun r e xs' rest blk hout=>by
 obtain ⟨A,f,g,rfl,e1,rfl,hg,⟨h1,h2⟩,rfl⟩:=eatGo_outT hout
 cases e1
 rcases atIl_specT A g with ⟨k1,k2⟩ | ⟨⟨k0,k1⟩,k2⟩
 ·have key:Gets (inlineX c192 (exec c192 60) 203 [.own 0,fnIl g] [(0,.rows .task e A)] 1) (.own 0,[(0,.rows .task e A)],1):=by
   refine .of_eq (fDelGoT A g e) ⟨h1,?_⟩
   rw [k1]
   exact (Tree.out_ite_true rfl).2 rfl
  exact ⟨[fnIl g],0,_,_,.task,e,A,.cons (dIl.ok _ _ hg) .nil,rfl,key,rfl,rfl,by rw [k2]⟩
 ·have hw:IntKind.i64.wrap (atIl A g+1)=atIl A g+1:=wrap_fits (by omega) (by omega)
  obtain ⟨q1,q2,q3⟩:=foldDlT g ((A.length:Int)-(atIl A g+1)).toNat A (atIl A g) (atIl A g+1) k0 (by omega) (by omega)
  have eD:delNT g (A,atIl A g) (atIl A g+1)=foldI (nxtDlT g) ((A.length:Int)-(atIl A g+1)).toNat (A,atIl A g) (atIl A g+1):=rfl
  rw [← eD] at q1 q2 q3
  generalize delNT g (A,atIl A g) (atIl A g+1)=D at q1 q2 q3 eD
  obtain ⟨D,n⟩:=D
  simp only at q1 q2 q3
  have hz:(delZT D n).take n.toNat=D.take n.toNat:=by
   unfold delZT
   rw [show D.length-(D.length-n.toNat)=n.toNat by omega,List.take_append_of_le_length (by rw [List.length_take]; omega),List.take_take,Nat.min_self]
  have hzl:(delZT D n).length=D.length:=by
   unfold delZT
   rw [List.length_append,List.length_take,List.length_replicate]
   omega
  have key:Gets (inlineX c192 (exec c192 60) 203 [.own 0,fnIl g] [(0,.rows .task e A)] 1) (.own 1,[(1,.rows .task e (dropAT g A))],2):=by
   refine .of_eq (fDelGoT A g e) ?_
   unfold delTT
   rw [hw]
   refine ⟨h1,(Tree.out_ite_false (by rw [beq_eq_false_iff_ne]; omega)).2 ⟨⟨rfl,rfl⟩,⟨⟨k0,by omega,by omega⟩,h1,h2⟩,?_⟩⟩
   have eD':delNT g (A,atIl A g) (atIl A g+1)=(D,n):=eD ▸ rfl
   rw [eD']
   show (delET D n e).Out _
   unfold delET
   refine ⟨⟨by omega,by omega,by omega⟩,⟨by rw [show D.length-(D.length-n.toNat)=n.toNat by omega],by omega⟩,⟨by omega,by rw [hzl]; omega,by rw [hzl]; omega⟩,?_⟩
   rw [hz,q3,← k2]
   rfl
  have hget:Heap.get [(1,Blk.rows .task e (dropAT g A))] 1=some (.rows .task e (dropAT g A)):=rfl
  refine ⟨[fnIl g],1,[(1,.rows .task e (dropAT g A))],2,.task,e,dropAT g A,.cons (dIl.ok _ _ hg) .nil,?_,?_,hget,?_,?_⟩
  ·rfl
  ·exact key
  ·rfl
  ·rfl
noncomputable def c193:Cfg:=c192.addEat 203 eatGoT
theorem c193_good:GoodCfg c193:=c192_good.addEat eatGo_validT
abbrev XDlM:=List Fu.Aim × Int × TypeId
def TTdM (x:(XDlM × Int) × Int):St:=⟨puts (J 42) [(0,.own 0),(1,fnIo x.1.1.2.1),(5,.int .i64 x.1.2),(6,.int .i64 x.2)],[(0,.rows .aim x.1.1.2.2 x.1.1.1)],1⟩
def sTdM:List Sh:=sets (Js 42) [(0,.keep),(1,.keep),(5,.int),(6,.int)]
def eTdM:List Sh:=sets (Js 42) [(0,.keep),(5,.int)]
def ETdM (x:XDlM × Int):Ex × St:=(.exit 0,⟨puts (J 42) [(0,.own 0),(5,.int .i64 x.2)],[(0,.rows .aim x.1.2.2 x.1.1)],1⟩)
def setAM (x:XDlM) (A:List Fu.Aim):XDlM:=(A,x.2)
def nxtTdM (x:XDlM × Int) (j:Int):XDlM × Int:=bif !qIo x.1.2.1 (rd .aim x.1.1 j) then (setAM x.1 (upd .aim x.1.1 x.2 (rd .aim x.1.1 j)),IntKind.i64.wrap (x.2+1)) else x
theorem bTdM (x : XDlM) (i j : Int) : roundN c193 60 205 (loopAt c193.P 205 5) (norm2 1 [] [0] sTdM) (norm2 1 [] [0] eTdM) (TTdM ((x, i), j)) =
    .ite (decide (j < x.1.length)) (.asrt (0≤j∧j < x.1.length) (.asrt (0≤j∧j < x.1.length) (.ite (!qIo x.2.1 (rd .aim x.1 j))
      (.asrt (0≤i∧i < x.1.length) (.asrt (0≤i∧i < x.1.length) (.ret (.normal,TTdM ((setAM x (upd .aim x.1 i (rd .aim x.1 j)),IntKind.i64.wrap (i+1)),IntKind.i64.wrap (j+1))))))
      (.ret (.normal,TTdM ((x,i),IntKind.i64.wrap (j+1))))))) (.ret (ETdM (x,i))):=by kernel_rfl
def gTdM (σ:St):Option ((XDlM × Int) × Int) :=
 match nth σ.tmps 1,nth σ.tmps 5,nth σ.tmps 6,σ.heap with
 | .fn _ _ [.pv [.int .i64 g]],.int .i64 i,.int .i64 j,[(_,.rows .aim e A)]=>some (((A,g,e),i),j)
 | _,_,_,_=>none
def okTdM (x:XDlM × Int) (_:Int):Prop:=(0≤x.2∧x.2 < x.1.1.length)∧okCap x.1.2.1
def LTd0M:LoopCon:=boundF 1 (norm2 1 [] [0] sTdM) TTdM gTdM (fun x=>x.1.1.length) okTdM nxtTdM ETdM
theorem lTd0M (hs:SubOf c193.P 205 (.loop (loopAt c193.P 205 5))):SoundLoop c193 (loopAt c193.P 205 5) LTd0M :=
 bound_fold (C:=c193) (g:=205) (l:=5) c193_good 60 1 _ _ (Weak.norm2 1 [] [0] sTdM) (Weak.norm2 1 [] [0] eTdM) hs TTdM gTdM (fun x=>x.1.1.length) okTdM nxtTdM ETdM
  (fun _=>by intro h; cases h) (fun x j=>by
   unfold nxtTdM
   cases (!qIo x.1.2.1 (rd .aim x.1.1 j)) with
   | true=>simp [setAM,upd]
   | false=>rfl)
  (fun x j h0 hj hm hok=>.of_eq (bTdM x.1 x.2 j) (by
   unfold maxI64 at hm
   rw [wrap_fits (n:=j+1) (by omega) (by omega)]
   refine (Tree.out_ite_true (decide_eq_true hj)).2 ⟨⟨h0,hj⟩,⟨h0,hj⟩,?_⟩
   unfold nxtTdM
   cases h:(!qIo x.1.2.1 (rd .aim x.1.1 j)) with
   | true=>exact (Tree.out_ite_true rfl).2 ⟨hok.1,hok.1,rfl⟩
   | false=>exact (Tree.out_ite_false rfl).2 rfl))
  (fun x j hj=>.of_eq (bTdM x.1 x.2 j) ((Tree.out_ite_false (decide_eq_false (by omega))).2 rfl))
def nxtDlM (g:Int) (p:List Fu.Aim × Int) (j:Int):List Fu.Aim × Int:=bif !qIo g (rd .aim p.1 j) then (upd .aim p.1 p.2 (rd .aim p.1 j),p.2+1) else p
def delNM (g:Int) (p:List Fu.Aim × Int) (j:Int):List Fu.Aim × Int:=foldI (nxtDlM g) ((p.1.length:Int)-j).toNat p j
def LTdM:LoopCon:=entry 1 (norm2 1 [] [0] sTdM) TTdM gTdM fun p=>.asrt ((0≤p.1.2∧p.1.2 < p.2∧p.2≤p.1.1.1.length)∧(p.1.1.1.length:Int) < 17592186044416∧okCap p.1.1.2.1)
 (.ret (ETdM (setAM p.1.1 (delNM p.1.1.2.1 (p.1.1.1,p.1.2) p.2).1,(delNM p.1.1.2.1 (p.1.1.1,p.1.2) p.2).2)))
theorem foldTdM (k : Nat) : ∀ (x : XDlM) (i j : Int), 0 ≤ i → i < j → j + k ≤ x.1.length → (x.1.length : Int) < 17592186044416 → okCap x.2.1 →
    foldI nxtTdM k (x,i) j=(setAM x (foldI (nxtDlM x.2.1) k (x.1,i) j).1,(foldI (nxtDlM x.2.1) k (x.1,i) j).2)∧okI nxtTdM (fun _ _=>(none:Option Unit)) okTdM k (x,i) j:=by
  induction k with
  | zero=>intro x i j _ _ _ _ _; exact ⟨rfl,trivial⟩
  | succ k ih =>
    intro x i j h0 h1 h2 h3 h4
    have hok:okTdM (x,i) j:=⟨⟨h0,by show i < (x.1.length:Int); omega⟩,h4⟩
    unfold foldI
    cases hb:(!qIo x.2.1 (rd .aim x.1 j)) with
    | true =>
      have e1:nxtTdM (x,i) j=(setAM x (upd .aim x.1 i (rd .aim x.1 j)),i+1):=by
        unfold nxtTdM
        simp only [hb,cond_true]
        rw [wrap_fits (n:=i+1) (by omega) (by omega)]
      have e2:nxtDlM x.2.1 (x.1,i) j=(upd .aim x.1 i (rd .aim x.1 j),i+1):=by
        unfold nxtDlM
        simp only [hb,cond_true]
      have hl:(upd .aim x.1 i (rd .aim x.1 j)).length=x.1.length:=by simp [upd]
      obtain ⟨k1,k2⟩:=ih (setAM x (upd .aim x.1 i (rd .aim x.1 j))) (i+1) (j+1) (by omega) (by omega) (by show j+1+(k:Int)≤((upd .aim x.1 i (rd .aim x.1 j)).length:Int); rw [hl]; omega) (by show ((upd .aim x.1 i (rd .aim x.1 j)).length:Int) < _; rw [hl]; exact h3) h4
      rw [e1,e2]
      exact ⟨k1,hok,fun _=>by rw [e1]; exact k2⟩
    | false =>
      have e1:nxtTdM (x,i) j=(x,i):=by unfold nxtTdM; simp only [hb,cond_false]
      have e2:nxtDlM x.2.1 (x.1,i) j=(x.1,i):=by unfold nxtDlM; simp only [hb,cond_false]
      obtain ⟨k1,k2⟩:=ih x i (j+1) h0 (by omega) (by omega) h3 h4
      rw [e1,e2]
      exact ⟨k1,hok,fun _=>by rw [e1]; exact k2⟩
theorem lTdM (hs:SubOf c193.P 205 (.loop (loopAt c193.P 205 5))):SoundLoop c193 (loopAt c193.P 205 5) LTdM:=by
 intro w0 S φ σ a w Q R hx
 refine lTd0M hs w0 S φ σ a w Q R ?_
 obtain ⟨r,hr,hq⟩:=Tree.wp_out.1 hx
 refine Tree.wp_of_out ?_ hq
 unfold LTdM entry at hr
 unfold LTd0M boundF entry
 split at hr
 ·rename_i p hp
  obtain ⟨h1,⟨⟨h2,h3,h4⟩,h5,h6⟩,h7⟩:=hr
  obtain ⟨⟨x,i⟩,j⟩:=p
  simp only at h2 h3 h4 h5 h6
  obtain ⟨k1,k2⟩:=foldTdM ((x.1.length:Int)-j).toNat x i j h2 h3 (by omega) h5 h6
  simp only [hp]
  refine ⟨h1,⟨by omega,by unfold maxI64; omega,k2⟩,?_⟩
  rw [← h7]
  show ETdM (foldI nxtTdM ((x.1.length:Int)-j).toNat (x,i) j)=_
  rw [k1]
  rfl
 ·exact hr.elim
noncomputable def c194:Cfg:=c193.addLoop 205 5 LTdM
theorem c194_good:GoodCfg c194:=c193_good.addLoop (by unfold OneLoop; kernel_rfl) lTdM
def zeroApeM:Fu.Aim:=⟨0,⟨0,0,0,0,0,0⟩,0⟩
def delZM (D:List Fu.Aim) (n:Int):List Fu.Aim:=D.take (D.length-(D.length-n.toNat)) ++ List.replicate (D.length-n.toNat) zeroApeM
def delEM (D:List Fu.Aim) (n:Int) (e:TypeId):Tree (AV × Heap × Nat):=.asrt (0≤n∧n≤D.length∧0 < D.length) (.asrt (n.toNat*RTy.aim.size=(D.length-(D.length-n.toNat))*RTy.aim.size∧D.length-n.toNat≤D.length)
 (.asrt (0≤n∧n≤(delZM D n).length∧0 < (delZM D n).length) (.ret (.own 1,[(1,.rows .aim e ((delZM D n).take n.toNat))],2))))
def delTM (A:List Fu.Aim) (g:Int) (e:TypeId):Tree (AV × Heap × Nat):=.asrt ((A.length:Int) < 17592186044416) (.ite (atIo A g == -1) (.ret (.own 0,[(0,.rows .aim e A)],1)) (.asrt (1=1∧TTdM (((A,g,e),atIo A g),IntKind.i64.wrap (atIo A g+1))=TTdM (((A,g,e),atIo A g),IntKind.i64.wrap (atIo A g+1)))
 (.asrt ((0≤atIo A g∧atIo A g < IntKind.i64.wrap (atIo A g+1)∧IntKind.i64.wrap (atIo A g+1)≤A.length)∧(A.length:Int) < 17592186044416∧okCap g)
  (delEM (delNM g (A,atIo A g) (IntKind.i64.wrap (atIo A g+1))).1 (delNM g (A,atIo A g) (IntKind.i64.wrap (atIo A g+1))).2 e))))
theorem fDelGoM (A:List Fu.Aim) (g:Int) (e:TypeId):inlineX c194 (exec c194 60) 205 [.own 0,fnIo g] [(0,.rows .aim e A)] 1=delTM A g e:=by kernel_rfl
def dropAM (g:Int) (A:List Fu.Aim):List Fu.Aim:=A.filter fun a=>!qIo g a
theorem foldDlM (g : Int) (k : Nat) : ∀ (A : List Fu.Aim) (i j : Int), 0 ≤ i → i < j → j + k = A.length →
    (foldI (nxtDlM g) k (A,i) j).1.length=A.length∧(i≤(foldI (nxtDlM g) k (A,i) j).2∧(foldI (nxtDlM g) k (A,i) j).2≤i+k)∧(foldI (nxtDlM g) k (A,i) j).1.take (foldI (nxtDlM g) k (A,i) j).2.toNat=A.take i.toNat ++ dropAM g (A.drop j.toNat):=by
  induction k with
  | zero =>
    intro A i j h0 h1 h2
    rw [drop_end (by omega)]
    exact ⟨rfl,⟨Int.le_refl _,by simp [foldI]⟩,by simp [foldI,dropAM]⟩
  | succ k ih =>
    intro A i j h0 h1 h2
    have hd:=drop_rd (r:=.aim) (xs:=A) (i:=j) (by omega) (by omega)
    have hd':dropAM g (A.drop j.toNat)=bif !qIo g (rd .aim A j) then rd .aim A j :: dropAM g (A.drop (j+1).toNat) else dropAM g (A.drop (j+1).toNat):=by
      rw [hd]
      unfold dropAM
      rw [List.filter_cons]
      cases qIo g (rd .aim A j) <;> rfl
    rw [hd']
    unfold foldI
    cases hb:(!qIo g (rd .aim A j)) with
    | true =>
      have e2:nxtDlM g (A,i) j=(upd .aim A i (rd .aim A j),i+1):=by
        unfold nxtDlM
        simp only [hb,cond_true]
      rw [e2]
      have hl:(upd .aim A i (rd .aim A j)).length=A.length:=by simp [upd]
      obtain ⟨k1,k2,k3⟩:=ih (upd .aim A i (rd .aim A j)) (i+1) (j+1) (by omega) (by omega) (by rw [hl]; omega)
      refine ⟨k1.trans hl,⟨by omega,by omega⟩,?_⟩
      rw [k3]
      have hi:i.toNat < A.length:=by omega
      have t1:(upd .aim A i (rd .aim A j)).take (i+1).toNat=A.take i.toNat ++ [rd .aim A j]:=by
        unfold upd
        rw [show (i+1).toNat=i.toNat+1 by omega,List.take_add_one,List.take_set_of_le (Nat.le_refl _),List.getElem?_set_self hi]
        rfl
      have t2:(upd .aim A i (rd .aim A j)).drop (j+1).toNat=A.drop (j+1).toNat:=by
        unfold upd
        exact List.drop_set_of_lt (by omega)
      rw [t1,t2]
      simp
    | false =>
      have e2:nxtDlM g (A,i) j=(A,i):=by unfold nxtDlM; simp only [hb,cond_false]
      rw [e2]
      obtain ⟨k1,k2,k3⟩:=ih A i (j+1) h0 (by omega) (by omega)
      exact ⟨k1,⟨by omega,by omega⟩,k3⟩
theorem atIo_specM (A:List Fu.Aim) (g:Int):(atIo A g = -1∧dropAM g A=A)∨((0≤atIo A g∧atIo A g < A.length)∧dropAM g A=A.take (atIo A g).toNat ++ dropAM g (A.drop (atIo A g+1).toNat)):=by
 have all:∀ n:Nat,n≤A.length→(∀ k:Int,0≤k→k < n→pIo (A,g) k=false)→dropAM g (A.take n)=A.take n:=by
  intro n hn h
  unfold dropAM
  rw [List.filter_eq_self]
  intro a ha
  obtain ⟨m,hm,e⟩:=List.getElem_of_mem ha
  rw [List.length_take] at hm
  have h1:=h m (by omega) (by omega)
  have e1:rd .aim A m=a:=by
   rw [← e,List.getElem_take]
   have:m < A.length:=by omega
   simp [rd,this]
  unfold pIo at h1
  simp only [e1] at h1
  rw [h1]
  rfl
 unfold atIo
 cases hf:firstP (pIo (A,g)) A.length 0 with
 | none =>
  left
  refine ⟨rfl,?_⟩
  have:=all A.length (Nat.le_refl _) fun k h1 h2=>firstP_none hf k h1 (by omega)
  rwa [List.take_length] at this
 | some k =>
  right
  obtain ⟨⟨h1,h2⟩,h3,h4⟩:=firstP_some hf
  simp only [Option.getD_some]
  refine ⟨⟨h1,by omega⟩,?_⟩
  have hk:=all k.toNat (by omega) fun i h5 h6=>h4 i h5 (by omega)
  have hd:=drop_rd (r:=.aim) (xs:=A) (i:=k) h1 (by omega)
  have e:dropAM g A=dropAM g (A.take k.toNat) ++ dropAM g (A.drop k.toNat):=by
   unfold dropAM
   rw [← List.filter_append,List.take_append_drop]
  rw [e,hk,hd]
  congr 1
  unfold dropAM
  rw [List.filter_cons]
  unfold pIo at h3
  simp only at h3
  rw [h3]
  rfl
def eatGoM:TypeId→List AV→Tree Blk
 | e,[.view .aim A,f]=>match decIo f with
  | some g=>.asrt ((A.length:Int) < 17592186044416∧okCap g) (.ret (.rows .aim e (dropAM g A)))
  | none=>.fail
 | _,_=>.fail
theorem eatGo_outM {r : RTy} {e : TypeId} {xs : List r.carrier} {rest : List AV} {blk : Blk} (h : (eatGoM e (.view r xs :: rest)).Out blk) :
    ∃ A f g,r=.aim∧HEq xs A∧rest=[f]∧decIo f=some g∧((A.length:Int) < 17592186044416∧okCap g)∧blk=Blk.rows .aim e (dropAM g A):=by
  match r,rest with
  | .aim,[f] =>
    have h':(match decIo f with | some g=>Tree.asrt ((xs.length:Int) < 17592186044416∧okCap g) (Tree.ret (Blk.rows .aim e (dropAM g xs))) | none=>Tree.fail).Out blk:=h
    cases hg:decIo f with
    | none=>rw [hg] at h'; exact h'.elim
    | some g =>
      rw [hg] at h'
      exact ⟨xs,f,g,rfl,HEq.rfl,rfl,hg,h'.1,h'.2.symm⟩
  | .aim,[]=>exact h.elim
  | .aim,_ :: _ :: _=>exact h.elim
  | .int _,_=>exact h.elim
  | .bool,_=>exact h.elim
  | .str,_=>exact h.elim
  | .ints _,_=>exact h.elim
  | .spec,_=>exact h.elim
  | .spr,_=>exact h.elim
  | .fix,_=>exact h.elim
  | .item,_=>exact h.elim
  | .live,_=>exact h.elim
  | .opt,_=>exact h.elim
  | .task,_=>exact h.elim
  | .ape,_=>exact h.elim
theorem eatGo_validM:ValidEat c194.P 205 eatGoM:=eat_of (C:=c194) c194_good 60 (by kernel_rfl) fun r e xs' rest blk hout=>by
 obtain ⟨A,f,g,rfl,e1,rfl,hg,⟨h1,h2⟩,rfl⟩:=eatGo_outM hout
 cases e1
 rcases atIo_specM A g with ⟨k1,k2⟩ | ⟨⟨k0,k1⟩,k2⟩
 ·have key:Gets (inlineX c194 (exec c194 60) 205 [.own 0,fnIo g] [(0,.rows .aim e A)] 1) (.own 0,[(0,.rows .aim e A)],1):=by
   refine .of_eq (fDelGoM A g e) ⟨h1,?_⟩
   rw [k1]
   exact (Tree.out_ite_true rfl).2 rfl
  exact ⟨[fnIo g],0,_,_,.aim,e,A,.cons (dIo.ok _ _ hg) .nil,rfl,key,rfl,rfl,by rw [k2]⟩
 ·have hw:IntKind.i64.wrap (atIo A g+1)=atIo A g+1:=wrap_fits (by omega) (by omega)
  obtain ⟨q1,q2,q3⟩:=foldDlM g ((A.length:Int)-(atIo A g+1)).toNat A (atIo A g) (atIo A g+1) k0 (by omega) (by omega)
  have eD:delNM g (A,atIo A g) (atIo A g+1)=foldI (nxtDlM g) ((A.length:Int)-(atIo A g+1)).toNat (A,atIo A g) (atIo A g+1):=rfl
  rw [← eD] at q1 q2 q3
  generalize delNM g (A,atIo A g) (atIo A g+1)=D at q1 q2 q3 eD
  obtain ⟨D,n⟩:=D
  simp only at q1 q2 q3
  have hz:(delZM D n).take n.toNat=D.take n.toNat:=by
   unfold delZM
   rw [show D.length-(D.length-n.toNat)=n.toNat by omega,List.take_append_of_le_length (by rw [List.length_take]; omega),List.take_take,Nat.min_self]
  have hzl:(delZM D n).length=D.length:=by
   unfold delZM
   rw [List.length_append,List.length_take,List.length_replicate]
   omega
  have key:Gets (inlineX c194 (exec c194 60) 205 [.own 0,fnIo g] [(0,.rows .aim e A)] 1) (.own 1,[(1,.rows .aim e (dropAM g A))],2):=by
   refine .of_eq (fDelGoM A g e) ?_
   unfold delTM
   rw [hw]
   refine ⟨h1,(Tree.out_ite_false (by rw [beq_eq_false_iff_ne]; omega)).2 ⟨⟨rfl,rfl⟩,⟨⟨k0,by omega,by omega⟩,h1,h2⟩,?_⟩⟩
   have eD':delNM g (A,atIo A g) (atIo A g+1)=(D,n):=eD ▸ rfl
   rw [eD']
   show (delEM D n e).Out _
   unfold delEM
   refine ⟨⟨by omega,by omega,by omega⟩,⟨by rw [show D.length-(D.length-n.toNat)=n.toNat by omega],by omega⟩,⟨by omega,by rw [hzl]; omega,by rw [hzl]; omega⟩,?_⟩
   rw [hz,q3,← k2]
   rfl
  have hget:Heap.get [(1,Blk.rows .aim e (dropAM g A))] 1=some (.rows .aim e (dropAM g A)):=rfl
  refine ⟨[fnIo g],1,[(1,.rows .aim e (dropAM g A))],2,.aim,e,dropAM g A,.cons (dIo.ok _ _ hg) .nil,?_,?_,hget,?_,?_⟩
  ·rfl
  ·exact key
  ·rfl
  ·rfl
noncomputable def c195:Cfg:=c194.addEat 205 eatGoM
theorem c195_good:GoodCfg c195:=c194_good.addEat eatGo_validM
theorem fClear:callC c195 60 78 []=.ret (.agg [.blit false,.lit .i64 0,.lit .i64 0,.lit .i64 (-1),.nils],[]):=by kernel_rfl
def conClear:Con:=plainCon Ds.none fun _=>.agg [.blit false,.lit .i64 0,.lit .i64 0,.lit .i64 (-1),.nils]
theorem conClear_valid:ValidCon c195.P 78 conClear:=plainCon_valid c195_good 60 (by kernel_rfl) fun _=>⟨_,fClear,.ret (.refl _) rfl⟩
noncomputable def c196:Cfg:=c195.addQuiet 78 conClear
theorem c196_good:GoodCfg c196:=c195_good.addQuiet conClear_valid plainCon_quiet
abbrev ATr:=Fu.Serv × List Fu.Task
def hTr (x:ATr):Heap:=[(0,.cells (encS x.1)),(1,.cells [.lit .i64 0,.nils,.nils,.lit .i64 0]),(60,.rows .ape 93 x.1.W.A),(173,.cells [.int .i64 x.1.W.Now,.own 174,.own 60,.int .i64 x.1.W.Cur]),(174,.rows .task 48 x.2)]
def TTr (x:ATr × Int):St:=⟨puts (J 39) [(1,.ptr 0 0),(2,.ptr 1 0),(4,.ptr 173 0),(5,.fn (.func 140) [] [.ptr 173 0]),(24,.view .aim x.1.1.R.L),(25,.int .i64 x.1.1.R.L.length),(26,.int .i64 x.2)],hTr x.1,175⟩
def sTr:List Sh:=sets (Js 39) [(1,.keep),(2,.keep),(4,.keep),(5,.keep),(24,.keep),(25,.int),(26,.int)]
def eTr:List Sh:=sets (Js 39) [(1,.keep),(2,.keep),(4,.keep)]
def ETr (x:ATr):Ex × St:=(.exit 0,⟨puts (J 39) [(1,.ptr 0 0),(2,.ptr 1 0),(4,.ptr 173 0)],hTr x,175⟩)
def fTr (ss:List Sh) (σ:St):St:=ordH [0,1,60,173,174] (norm2 174 [.cell 173 1] [0,1,60,173,174] ss σ)
theorem weak_fTr (ss:List Sh) (σ:St):Weak 174 σ (fTr ss σ):=(Weak.norm2 174 [.cell 173 1] [0,1,60,173,174] ss σ).trans (Weak.ordH 174 [0,1,60,173,174] _)
def nxtTr (x:ATr) (i:Int):ATr:=(x.1,bif decide (i < (x.2.length:Int)) then upd .task x.2 i (turnK (rd .task x.2 i) (rd .aim x.1.R.L i).S (rd .aim x.1.R.L i).P)
 else bif mayK (newK (rd .aim x.1.R.L i).ID (rd .aim x.1.R.L i).S (rd .aim x.1.R.L i).P x.1.W.Now) x.1.W.Now then x.2 ++ [newKR (rd .aim x.1.R.L i).ID (rd .aim x.1.R.L i).S (rd .aim x.1.R.L i).P x.1.W.Now] else x.2)
theorem bTr (x : ATr) (i : Int) : roundN c196 60 77 (loopAt c196.P 77 6) (fTr sTr) (fTr eTr) (TTr (x, i)) =
    .ite (decide (i < x.1.R.L.length)) (.asrt (0≤i∧i < x.1.R.L.length) (.ite (decide (i < (x.2.length:Int))) (.asrt (0≤i∧i < x.2.length) (.asrt (0≤i∧i < x.2.length) (.asrt (0≤i∧i < x.2.length) (.asrt (0≤i∧i < x.2.length)
      (.ret (.normal,TTr ((x.1,upd .task x.2 i (turnK (rd .task x.2 i) (rd .aim x.1.R.L i).S (rd .aim x.1.R.L i).P)),IntKind.i64.wrap (i+1))))))))
      (.ite (mayK (newK (rd .aim x.1.R.L i).ID (rd .aim x.1.R.L i).S (rd .aim x.1.R.L i).P x.1.W.Now) x.1.W.Now) (.asrt ((x.2 ++ [newKR (rd .aim x.1.R.L i).ID (rd .aim x.1.R.L i).S (rd .aim x.1.R.L i).P x.1.W.Now]).length*176≤140737488355328)
        (.ret (.normal,TTr ((x.1,x.2 ++ [newKR (rd .aim x.1.R.L i).ID (rd .aim x.1.R.L i).S (rd .aim x.1.R.L i).P x.1.W.Now]),IntKind.i64.wrap (i+1)))))
        (.ret (.normal,TTr (x,IntKind.i64.wrap (i+1))))))) (.ret (ETr x)):=by kernel_rfl
def gTr (σ:St):Option (ATr × Int) :=
 match nth σ.tmps 26,σ.heap with
 | .int .i64 i,[(_,.cells [.int .i64 a,.view .task t,.view .ape p,.int .i64 cu,.bool o,.int .i64 si,.int .i64 b,.int .i64 n,.view .aim l,.int .i64 y,.int .i64 z]),_,_,_,(_,.rows .task _ T)]=>some ((⟨⟨a,t,p,cu⟩,⟨o,si,b,n,l⟩,y,z⟩,T),i)
 | _,_=>none
def okTr (x:ATr) (_:Int):Prop:=(x.2.length+1)*176≤140737488355328
def LTr:LoopCon:=boundF 174 (fTr sTr) TTr gTr (fun x=>x.1.R.L.length) okTr nxtTr ETr
theorem lTr (hs:SubOf c196.P 77 (.loop (loopAt c196.P 77 6))):SoundLoop c196 (loopAt c196.P 77 6) LTr :=
 bound_fold (C:=c196) (g:=77) (l:=6) c196_good 60 174 _ _ (weak_fTr sTr) (weak_fTr eTr) hs TTr gTr (fun x=>x.1.R.L.length) okTr nxtTr ETr
  (fun _=>by intro h; cases h) (fun _ _=>rfl)
  (fun x i h0 hi hm hok=>.of_eq (bTr x i) (by
   unfold maxI64 at hm
   rw [wrap_fits (n:=i+1) (by omega) (by omega)]
   refine (Tree.out_ite_true (decide_eq_true hi)).2 ⟨⟨h0,hi⟩,?_⟩
   unfold nxtTr
   cases h:decide (i < (x.2.length:Int)) with
   | true =>
    have hz:=of_decide_eq_true h
    exact (Tree.out_ite_true rfl).2 ⟨⟨h0,hz⟩,⟨h0,hz⟩,⟨h0,hz⟩,⟨h0,hz⟩,rfl⟩
   | false =>
    refine (Tree.out_ite_false rfl).2 ?_
    cases h2:mayK (newK (rd .aim x.1.R.L i).ID (rd .aim x.1.R.L i).S (rd .aim x.1.R.L i).P x.1.W.Now) x.1.W.Now with
    | true=>exact (Tree.out_ite_true rfl).2 ⟨by rw [List.length_append]; exact hok,rfl⟩
    | false=>exact (Tree.out_ite_false rfl).2 rfl))
  (fun x i hi=>.of_eq (bTr x i) ((Tree.out_ite_false (decide_eq_false (by omega))).2 rfl))
noncomputable def c197:Cfg:=c196.addLoop 77 6 LTr
theorem c197_good:GoodCfg c197:=c196_good.addLoop (by unfold OneLoop; kernel_rfl) lTr
def tryA (s:Fu.Serv):ATr:=foldI nxtTr ((s.R.L.length:Int)-0).toNat (s,s.W.T) 0
def tryV (s:Fu.Serv):Fu.World × Bool:=bif !mayE s || !s.R.On then (s.W,false) else ({ s.W with T:=(tryA s).2 },safeW { s.W with T:=(tryA s).2 })
theorem foldTr (s:Fu.Serv):∀ (k:Nat) (T:List Fu.Task) (i:Int),T.length+k≤1000→(foldI nxtTr k (s,T) i).1=s∧(foldI nxtTr k (s,T) i).2.length≤T.length+k∧okI nxtTr (fun _ _=>(none:Option Unit)) okTr k (s,T) i
 | 0,_,_,_=>⟨rfl,Nat.le_refl _,trivial⟩
 | k+1,T,i,h=>by
  have hl:(nxtTr (s,T) i).2.length≤T.length+1:=by
   unfold nxtTr
   simp only
   cases decide (i < (T.length:Int)) with
   | true=>simp [upd]
   | false =>
    cases mayK (newK (rd .aim s.R.L i).ID (rd .aim s.R.L i).S (rd .aim s.R.L i).P s.W.Now) s.W.Now with
    | true=>simp
    | false=>simp
  obtain ⟨k1,k2,k3⟩:=foldTr s k (nxtTr (s,T) i).2 (i+1) (by omega)
  exact ⟨k1,Nat.le_trans k2 (by omega),by show (T.length+1)*176≤140737488355328; omega,fun _=>k3⟩
theorem mayE_safe {s:Fu.Serv} (h:mayE s=true):safeW s.W=true∧(0≤s.NextID∧s.NextID≤65536)∧(0≤s.NextAp∧s.NextAp≤65536):=by
 unfold mayE at h
 cases hc:(!safeW s.W || (decide (s.NextID < 0) || (decide (s.NextID > 65536) || (decide (s.NextAp < 0) || decide (s.NextAp > 65536))))) with
 | true=>rw [hc] at h; cases h
 | false =>
  simp only [Bool.or_eq_false_iff,Bool.not_eq_false',decide_eq_false_iff_not] at hc
  obtain ⟨h1,h2,h3,h4,h5⟩:=hc
  exact ⟨h1,by omega,by omega⟩
theorem mayE_ids {s:Fu.Serv} (h:mayE s=true):¬ atIm s.W.T s≥0∧¬ atIv s.W.A s≥0:=by
 unfold mayE at h
 cases hc:(!safeW s.W || (decide (s.NextID < 0) || (decide (s.NextID > 65536) || (decide (s.NextAp < 0) || decide (s.NextAp > 65536))))) with
 | true=>rw [hc] at h; cases h
 | false =>
  rw [hc] at h
  cases h1:decide (atIm s.W.T s≥0) with
  | true=>rw [h1] at h; cases h
  | false =>
   rw [h1] at h
   cases h2:decide (atIv s.W.A s≥0) with
   | true=>rw [h2] at h; cases h
   | false=>exact ⟨of_decide_eq_false h1,of_decide_eq_false h2⟩
def askE (s:Fu.Serv):Bool:=bif !s.R.On then s.R.New == -1 && (s.R.Since == 0 && (s.R.By == 0 && (s.R.L.length:Int) == 0)) else decide (s.R.Since≥0) && (decide (s.R.Since≤s.W.Now) && (decide (s.R.By≥s.R.Since) && (decide (s.R.By≤1099511627776) && (decide (s.R.New≥-1) && aimsV s))))
theorem mayE_iff {s:Fu.Serv}:mayE s=true↔(safeW s.W=true∧(0≤s.NextID∧s.NextID≤65536)∧(0≤s.NextAp∧s.NextAp≤65536))∧(¬ atIm s.W.T s≥0∧¬ atIv s.W.A s≥0)∧askE s=true:=by
 constructor
 ·intro h
  refine ⟨mayE_safe h,mayE_ids h,?_⟩
  obtain ⟨h1,h2,h3⟩:=mayE_safe h
  obtain ⟨h4,h5⟩:=mayE_ids h
  unfold mayE at h
  rw [h1,decide_eq_false (show ¬ s.NextID < 0 by omega),decide_eq_false (show ¬ s.NextID > 65536 by omega),decide_eq_false (show ¬ s.NextAp < 0 by omega),decide_eq_false (show ¬ s.NextAp > 65536 by omega),decide_eq_false h4,decide_eq_false h5] at h
  exact h
 ·rintro ⟨⟨h1,h2,h3⟩,⟨h4,h5⟩,h⟩
  unfold mayE
  rw [h1,decide_eq_false (show ¬ s.NextID < 0 by omega),decide_eq_false (show ¬ s.NextID > 65536 by omega),decide_eq_false (show ¬ s.NextAp < 0 by omega),decide_eq_false (show ¬ s.NextAp > 65536 by omega),decide_eq_false h4,decide_eq_false h5]
  exact h
theorem askE_on {s:Fu.Serv} (hon:s.R.On=true):askE s=true↔(0≤s.R.Since∧s.R.Since≤s.W.Now)∧(s.R.Since≤s.R.By∧s.R.By≤1099511627776)∧-1≤s.R.New∧aimsV s=true:=by
 unfold askE
 rw [hon]
 simp only [Bool.not_true,cond_false,Bool.and_eq_true,decide_eq_true_eq]
 constructor
 ·rintro ⟨h1,h2,h3,h4,h5,h6⟩
  exact ⟨⟨by omega,by omega⟩,⟨by omega,by omega⟩,by omega,h6⟩
 ·rintro ⟨⟨h1,h2⟩,⟨h3,h4⟩,h5,h6⟩
  exact ⟨by omega,by omega,by omega,by omega,by omega,h6⟩
theorem askE_off {s:Fu.Serv} (hon:s.R.On=false):askE s=true↔s.R.New = -1∧s.R.Since=0∧s.R.By=0∧s.R.L=[]:=by
 unfold askE
 rw [hon]
 simp only [Bool.not_false,cond_true,Bool.and_eq_true,beq_iff_eq]
 constructor
 ·rintro ⟨h1,h2,h3,h4⟩
  exact ⟨h1,h2,h3,List.length_eq_zero_iff.1 (by omega)⟩
 ·rintro ⟨h1,h2,h3,h4⟩
  rw [h4]
  exact ⟨h1,h2,h3,rfl⟩
theorem aimsV_iff {s:Fu.Serv}:aimsV s=true↔((s.R.L.length:Int)=manyV s∧manyV s≤4)∧firstP (badA s) s.R.L.length 0=none∧testV (s.R.L.map fixA)=true:=by
 unfold aimsV
 cases hc:((s.R.L.length:Int) != manyV s || decide (manyV s > 4)) with
 | true =>
  simp only [cond_true]
  constructor
  ·intro h; cases h
  ·rintro ⟨⟨h1,h2⟩,_⟩
   rw [Bool.or_eq_true] at hc
   rcases hc with hc | hc
   ·exact absurd h1 (by simpa using hc)
   ·have:=of_decide_eq_true hc; omega
 | false =>
  rw [Bool.or_eq_false_iff] at hc
  have h1:(s.R.L.length:Int)=manyV s:=bne_eq_false_iff_eq.1 hc.1
  have h2:=of_decide_eq_false hc.2
  simp only [cond_false]
  cases hf:firstP (badA s) s.R.L.length 0 with
  | some j=>simp
  | none=>simp; omega
theorem safeE_may {s:Fu.Serv} (h:mayE s=true):mayW s.W=true:=by
 have:=(mayE_safe h).1
 unfold safeW at this
 rw [Bool.and_eq_true] at this
 exact this.1
def ownOk (s:Fu.Serv) (t:Tree (AV × List Blk)):Tree (AV × List Blk):=.asrt (boundLT s.W.T) (.asrt (boundLA s.W.A) (.asrt (boundLM s.R.L) t))
theorem ownOk_rez {s:Fu.Serv} (h:smallS s) {t:Tree (AV × List Blk)} {r:AV × List Blk} (ht:Rez t r):Rez (ownOk s t) r:=.asrt h.1.1 (.asrt h.1.2 (.asrt h.2 ht))
def tryT (s : Fu.Serv) : Tree (AV × List Blk) := ownOk s (.asrt (smallS s) (.ite (!mayE s || !s.R.On) (.ret (.tup [.agg (encW s.W), .blit false], [])) (.asrt (174 = 174 ∧ TTr ((s, s.W.T), 0) = TTr ((s, s.W.T), 0)) (.asrt (0 ≤ (0 : Int) ∧ (s.R.L.length : Int) ≤ maxI64 ∧ okI nxtTr (fun _ _ => (none : Option Unit)) okTr ((s.R.L.length : Int) - 0).toNat (s, s.W.T) 0)
    (.asrt (smallW { (tryA s).1.W with T:=(tryA s).2 }) (.ret (.tup [.agg (encW { (tryA s).1.W with T:=(tryA s).2 }),.bool (safeW { (tryA s).1.W with T:=(tryA s).2 })],[])))))))
theorem fTry (s:Fu.Serv):frozen (callC c197 60 77) [.agg (encS s)]=tryT s:=by kernel_rfl
theorem try_rez {s:Fu.Serv} (h:smallS s):Rez (tryT s) (.tup [.agg (encW (tryV s).1),.bool (tryV s).2],[]):=by
 refine ownOk_rez h (.asrt h ?_)
 unfold tryV
 cases hc:(!mayE s || !s.R.On) with
 | true=>exact .itet rfl (.ret (.tup (.cons (.refl _) (.cons (.blit rfl) .nil))) rfl)
 | false =>
  rw [Bool.or_eq_false_iff,Bool.not_eq_false',Bool.not_eq_false'] at hc
  obtain ⟨hm,hon⟩:=hc
  obtain ⟨_,_,_,ha⟩:=(askE_on hon).1 (mayE_iff.1 hm).2.2
  obtain ⟨⟨ha1,ha2⟩,_⟩:=aimsV_iff.1 ha
  obtain ⟨_,hT,_⟩:=mayW_iff.1 (safeE_may hm)
  obtain ⟨k1,k2,k3⟩:=foldTr s ((s.R.L.length:Int)-0).toNat s.W.T 0 (by omega)
  have e1:(tryA s).1=s:=k1
  have e2:(tryA s).2.length≤8:=Nat.le_trans k2 (by omega)
  refine .itee rfl (.asrt ⟨rfl,rfl⟩ (.asrt ⟨Int.le_refl _,by unfold maxI64; omega,k3⟩ ?_))
  rw [e1]
  exact .asrt ⟨by simp only; omega,h.1.2⟩ (.ret (.refl _) rfl)
def conTry:Con:=flatCon (d1 dServ) smallS fun s=>.tup [.agg (encW (tryV s).1),.bool (tryV s).2]
theorem conTry_valid:ValidCon c197.P 77 conTry:=frozenCon_valid c197_good 60 (by kernel_rfl) fun s h=>⟨_,fTry s,try_rez h⟩
noncomputable def c198:Cfg:=c197.addQuiet 77 conTry
theorem c198_good:GoodCfg c198:=c197_good.addQuiet conTry_valid flatCon_quiet
def first2 (a b:Int):Int:=bif a != 0 then a else b
def fullE (s:Fu.Serv):Int:=bif decide ((s.W.T.length:Int)≥4) then whenE true 3 else whenE (s.NextID == 65536) 3
def joinW (s:Fu.Serv):Int:=first2 (readyE s) (fullE s)
def specsJ (s:Fu.Serv) (p:Fu.Spec):List Fu.Spec:=specsV s ++ [p]
def joinR (s:Fu.Serv) (p:Fu.Spec):(Fu.Serv × Int) × Int:=bif joinW s != 0 then ((s,-1),joinW s) else bif (targetV (specsJ s p)).2 != 0 then ((s,-1),(targetV (specsJ s p)).2) else ((putV { s with NextID:=s.NextID+1 } s.NextID (targetV (specsJ s p)).1,s.NextID),0)
def joinT (s : Fu.Serv) (p : Fu.Spec) : Tree (AV × List Blk) := .asrt (smallS s) (.asrt (([readyE s, fullE s].length : Int) = 2) (.ite (joinW s != 0) (ownOk s (.ret (.tup [.agg (encS s), .lit .i64 (-1), .int .i64 (joinW s)], []))) (.asrt (smallS s) (.asrt ((specsJ s p).length * 48 ≤ 140737488355328) (.asrt True
    (.ite ((targetV (specsJ s p)).2 != 0) (ownOk s (.ret (.tup [.agg (encS s),.lit .i64 (-1),.int .i64 (targetV (specsJ s p)).2],[]))) (.asrt (okPut ({ s with NextID:=IntKind.i64.wrap (s.NextID+1) },s.NextID,(targetV (specsJ s p)).1)) (.ret (.tup [.agg (encS (putV { s with NextID:=IntKind.i64.wrap (s.NextID+1) } s.NextID (targetV (specsJ s p)).1)),.int .i64 s.NextID,.lit .i64 0],[])))))))))
theorem fJoin (s:Fu.Serv) (p:Fu.Spec):frozen (callC c198 60 15) [.agg (encS s),.agg (encSpec p)]=joinT s p:=by kernel_rfl
theorem readyE_zero {s:Fu.Serv} (h:readyE s=0):mayE s=true∧s.R.On=false:=by
 unfold readyE at h
 cases hm:mayE s with
 | false=>rw [hm] at h; exact absurd h (by show ¬ (1:Int)=0; decide)
 | true =>
  rw [hm] at h
  cases ho:s.R.On with
  | true=>rw [ho] at h; exact absurd h (by show ¬ (4:Int)=0; decide)
  | false=>exact ⟨rfl,rfl⟩
theorem first2_zero {a b:Int} (h:(first2 a b != 0)=false):a=0∧b=0:=by
 have h:first2 a b=0:=bne_eq_false_iff_eq.1 h
 unfold first2 at h
 cases ha:(a != 0) with
 | true=>rw [ha] at h; simp only [cond_true] at h; rw [h] at ha; exact absurd ha (by decide)
 | false=>rw [ha] at h; exact ⟨bne_eq_false_iff_eq.1 ha,h⟩
theorem fullE_zero {s:Fu.Serv} (h:fullE s=0):(s.W.T.length:Int) < 4∧s.NextID≠65536:=by
 unfold fullE at h
 cases h1:decide ((s.W.T.length:Int)≥4) with
 | true=>rw [h1] at h; exact absurd h (by show ¬ (3:Int)=0; decide)
 | false =>
  rw [h1] at h
  cases h2:(s.NextID == 65536) with
  | true=>rw [h2] at h; exact absurd h (by show ¬ (3:Int)=0; decide)
  | false =>
   have:=of_decide_eq_false h1
   exact ⟨by omega,beq_eq_false_iff_ne.1 h2⟩
theorem targetV_len {l:List Fu.Spec} (hl:l.length≤4):(targetV l).1.length≤4:=by
 unfold targetV
 cases h1:decide ((l.length:Int) > 4) with
 | true=>simp
 | false =>
  cases h2:(springsV l).2 with
  | false=>simp
  | true =>
   cases h3:(unitsU l).2 with
   | false=>simp
   | true =>
    have e:(fixesV l (unitsU l).1).length=((l.length:Int)-0).toNat:=mapF_length _ _ _
    cases h4:testV (fixesV l (unitsU l).1) with
    | false=>simp
    | true=>simp; omega
theorem join_rez {s:Fu.Serv} {p:Fu.Spec} (h:smallS s):Rez (joinT s p) (.tup [.agg (encS (joinR s p).1.1),.int .i64 (joinR s p).1.2,.int .i64 (joinR s p).2],[]):=by
 refine .asrt h (.asrt rfl ?_)
 unfold joinR
 cases h1:(joinW s != 0) with
 | true=>exact .itet rfl (ownOk_rez h (.ret (.tup (.cons (.refl _) (.cons (.lit rfl) (.cons (.refl _) .nil)))) rfl))
 | false =>
  obtain ⟨hr,hf⟩:=first2_zero h1
  obtain ⟨hm,hon⟩:=readyE_zero hr
  obtain ⟨hl,hn⟩:=fullE_zero hf
  have hlen:(specsJ s p).length=s.W.T.length+1:=by simp [specsJ,specsV]
  refine .itee rfl (.asrt h (.asrt (by omega) (.asrt trivial ?_)))
  cases h2:((targetV (specsJ s p)).2 != 0) with
  | true=>exact .itet rfl (ownOk_rez h (.ret (.tup (.cons (.refl _) (.cons (.lit rfl) (.cons (.refl _) .nil)))) rfl))
  | false =>
   have ht:=targetV_len (l:=specsJ s p) (by omega)
   have hmw:mayW s.W=true:=safeE_may hm
   refine .itee rfl (.asrt ⟨h,hmw,ht⟩ ?_)
   have:=(mayE_safe hm).2.1
   rw [wrap_fits (n:=s.NextID+1) (by omega) (by omega)]
   exact .ret (.tup (.cons (.refl _) (.cons (.refl _) (.cons (.lit rfl) .nil)))) rfl
def conJoin:Con:=flatCon (d2 dServ dSpec) (fun x=>smallS x.1) fun x=>.tup [.agg (encS (joinR x.1 x.2).1.1),.int .i64 (joinR x.1 x.2).1.2,.int .i64 (joinR x.1 x.2).2]
theorem conJoin_valid:ValidCon c198.P 15 conJoin:=frozenCon_valid c198_good 60 (by kernel_rfl) fun x h=>⟨_,fJoin x.1 x.2,join_rez h⟩
noncomputable def c199:Cfg:=c198.addQuiet 15 conJoin
theorem c199_good:GoodCfg c199:=c198_good.addQuiet conJoin_valid flatCon_quiet
def rateE (s:Fu.Serv) (id:Int):Int:=first2 (readyE s) (whenE (atIa s.W.T id == -1) 2)
def rateQ (s:Fu.Serv) (id t h:Int):Fu.Spec × Bool:=stretchV (rd .spec (specsV s) (atIa s.W.T id)) t h
def rateL (s:Fu.Serv) (id t h:Int):List Fu.Spec:=upd .spec (specsV s) (atIa s.W.T id) (rateQ s id t h).1
def rateR (s:Fu.Serv) (id t h:Int):Fu.Serv × Int:=bif rateE s id != 0 then (s,rateE s id) else bif !(rateQ s id t h).2 then (s,1) else bif (targetV (rateL s id t h)).2 != 0 then (s,(targetV (rateL s id t h)).2) else (putV s (-1) (targetV (rateL s id t h)).1,0)
def inL (s:Fu.Serv) (id:Int):Prop:=0≤atIa s.W.T id∧atIa s.W.T id < (specsV s).length
def rateT (s : Fu.Serv) (id t h : Int) : Tree (AV × List Blk) := .asrt (smallS s) (.asrt (smallS s) (.asrt (([readyE s, whenE (atIa s.W.T id == -1) 2].length : Int) = 2) (.ite (rateE s id != 0) (ownOk s (.ret (.tup [.agg (encS s), .int .i64 (rateE s id)], []))) (.asrt (smallS s) (.asrt (inL s id) (.asrt (inL s id)
    (.ite (!(rateQ s id t h).2) (ownOk s (.ret (.tup [.agg (encS s),.lit .i64 1],[]))) (.asrt (inL s id) (.asrt (inL s id) (.asrt True (.ite ((targetV (rateL s id t h)).2 != 0) (ownOk s (.ret (.tup [.agg (encS s),.int .i64 (targetV (rateL s id t h)).2],[])))
      (.asrt (okPut (s,-1,(targetV (rateL s id t h)).1)) (.ret (.tup [.agg (encS (putV s (-1) (targetV (rateL s id t h)).1)),.lit .i64 0],[]))))))))))))))
theorem fRate (s:Fu.Serv) (id t h:Int):frozen (callC c199 60 169) [.agg (encS s),.int .i64 id,.int .i64 t,.int .i64 h]=rateT s id t h:=by kernel_rfl
theorem whenE_zero {b:Bool} {e:Int} (he:e≠0) (h:whenE b e=0):b=false:=by
 unfold whenE at h
 cases b with
 | true=>exact absurd h he
 | false=>rfl
theorem atIa_range {T:List Fu.Task} {id:Int} (h:atIa T id≠-1):0≤atIa T id∧atIa T id < T.length:=by
 unfold atIa at h ⊢
 cases hf:firstP (pIa (T,id)) T.length 0 with
 | none=>rw [hf] at h; exact absurd rfl h
 | some j =>
  have:=(firstP_some hf).1
  simp only [Option.getD_some]
  omega
theorem rate_rez {s:Fu.Serv} {id t h:Int} (hs:smallS s):Rez (rateT s id t h) (.tup [.agg (encS (rateR s id t h).1),.int .i64 (rateR s id t h).2],[]):=by
 refine .asrt hs (.asrt hs (.asrt rfl ?_))
 unfold rateR
 cases h1:(rateE s id != 0) with
 | true=>exact .itet rfl (ownOk_rez hs (.ret (.refl _) rfl))
 | false =>
  obtain ⟨hr,hf⟩:=first2_zero h1
  obtain ⟨hm,hon⟩:=readyE_zero hr
  have hat:=atIa_range (beq_eq_false_iff_ne.1 (whenE_zero (by decide) hf))
  have hlen:(specsV s).length=s.W.T.length:=by simp [specsV]
  have hin:inL s id:=⟨hat.1,by omega⟩
  have hT:=(mayW_iff.1 (safeE_may hm)).2.1
  refine .itee rfl (.asrt hs (.asrt hin (.asrt hin ?_)))
  cases h2:(rateQ s id t h).2 with
  | false=>exact .itet rfl (ownOk_rez hs (.ret (.tup (.cons (.refl _) (.cons (.lit rfl) .nil))) rfl))
  | true =>
   refine .itee rfl (.asrt hin (.asrt hin (.asrt trivial ?_)))
   cases h3:((targetV (rateL s id t h)).2 != 0) with
   | true=>exact .itet rfl (ownOk_rez hs (.ret (.refl _) rfl))
   | false =>
    have ht:=targetV_len (l:=rateL s id t h) (by unfold rateL; rw [upd_len]; omega)
    exact .itee rfl (.asrt ⟨hs,safeE_may hm,ht⟩ (.ret (.tup (.cons (.refl _) (.cons (.lit rfl) .nil))) rfl))
def conRate:Con:=flatCon (d4 dServ dInt dInt dInt) (fun x=>smallS x.1) fun x=>.tup [.agg (encS (rateR x.1 x.2.1 x.2.2.1 x.2.2.2).1),.int .i64 (rateR x.1 x.2.1 x.2.2.1 x.2.2.2).2]
theorem conRate_valid:ValidCon c199.P 169 conRate:=frozenCon_valid c199_good 60 (by kernel_rfl) fun x h=>⟨_,fRate x.1 x.2.1 x.2.2.1 x.2.2.2,rate_rez h⟩
noncomputable def c200:Cfg:=c199.addQuiet 169 conRate
theorem c200_good:GoodCfg c200:=c199_good.addQuiet conRate_valid flatCon_quiet
def freshE (s:Fu.Serv) (id:Int):Bool:=s.R.On && (s.R.New == id && id != -1)
def clearR:Fu.Ask:=⟨false,0,0,-1,[]⟩
def leaveE (s:Fu.Serv) (id:Int):Int:=first2 (whenE (!mayE s) 1) (whenE (atIa s.W.T id == -1 && !freshE s id) 2)
def dropS (s:Fu.Serv) (id:Int):Fu.Serv:={ s with W:={ s.W with T:=dropAT id s.W.T },R:={ s.R with L:=dropAM id s.R.L } }
def leaveR (s:Fu.Serv) (id:Int):Fu.Serv × Int:=bif leaveE s id != 0 then (s,leaveE s id) else bif freshE s id then ({ s with R:=clearR },0) else (dropS s id,0)
def leaveT1 (s : Fu.Serv) (id : Int) (b : Bool) : Tree (AV × List Blk) := .asrt (([whenE (!mayE s) 1, whenE b 2].length : Int) = 2) (.ite (first2 (whenE (!mayE s) 1) (whenE b 2) != 0) (.ret (.tup [.agg (encS s), .int .i64 (first2 (whenE (!mayE s) 1) (whenE b 2))], []))
    (.ite (freshE s id) (.ret (.tup [.agg (encW s.W ++ [.blit false,.lit .i64 0,.lit .i64 0,.lit .i64 (-1),.nils,.int .i64 s.NextID,.int .i64 s.NextAp]),.lit .i64 0],[])) (.asrt ((s.W.T.length:Int) < 17592186044416∧okCap id) (.asrt ((s.R.L.length:Int) < 17592186044416∧okCap id) (.ret (.tup [.agg (encS (dropS s id)),.lit .i64 0],[]))))))
theorem fLeave (s:Fu.Serv) (id:Int):frozen (callC c200 60 170) [.agg (encS s),.int .i64 id]=ownOk s (.asrt (smallS s) (.asrt (smallS s) (.ite (atIa s.W.T id == -1) (leaveT1 s id (!freshE s id)) (leaveT1 s id false)))):=by kernel_rfl
theorem leaveT1_rez {s:Fu.Serv} {id:Int} {b:Bool} (h:smallS s) (hb:b=(atIa s.W.T id == -1 && !freshE s id)):Rez (leaveT1 s id b) (.tup [.agg (encS (leaveR s id).1),.int .i64 (leaveR s id).2],[]):=by
 refine .asrt rfl ?_
 have e:first2 (whenE (!mayE s) 1) (whenE b 2)=leaveE s id:=by rw [hb]; rfl
 rw [e]
 unfold leaveR
 have hl:=smallS_len h
 cases h1:(leaveE s id != 0) with
 | true=>exact .itet rfl (.ret (.refl _) rfl)
 | false =>
  refine .itee rfl ?_
  cases h2:freshE s id with
  | true=>exact .itet rfl (.ret (.tup (.cons (.agg (.cons (.refl _) (.cons (.refl _) (.cons (.refl _) (.cons (.refl _) (.cons (.blit rfl) (.cons (.lit rfl) (.cons (.lit rfl) (.cons (.lit rfl) (.cons (.view rfl) (.cons (.refl _) (.cons (.refl _) .nil)))))))))))) (.cons (.lit rfl) .nil))) rfl)
  | false=>exact .itee rfl (.asrt ⟨hl.1,trivial⟩ (.asrt ⟨hl.2.2,trivial⟩ (.ret (.tup (.cons (.refl _) (.cons (.lit rfl) .nil))) rfl)))
theorem leave_rez {s:Fu.Serv} {id:Int} (h:smallS s):Rez (ownOk s (.asrt (smallS s) (.asrt (smallS s) (.ite (atIa s.W.T id == -1) (leaveT1 s id (!freshE s id)) (leaveT1 s id false))))) (.tup [.agg (encS (leaveR s id).1),.int .i64 (leaveR s id).2],[]):=by
 refine ownOk_rez h (.asrt h (.asrt h ?_))
 cases hc:(atIa s.W.T id == -1) with
 | true=>exact .itet rfl (leaveT1_rez h (by rw [hc]; rfl))
 | false=>exact .itee rfl (leaveT1_rez h (by rw [hc]; rfl))
def conLeave:Con:=flatCon (d2 dServ dInt) (fun x=>smallS x.1) fun x=>.tup [.agg (encS (leaveR x.1 x.2).1),.int .i64 (leaveR x.1 x.2).2]
theorem conLeave_valid:ValidCon c200.P 170 conLeave:=frozenCon_valid c200_good 60 (by kernel_rfl) fun x h=>⟨_,fLeave x.1 x.2,leave_rez h⟩
noncomputable def c201:Cfg:=c200.addQuiet 170 conLeave
theorem c201_good:GoodCfg c201:=c200_good.addQuiet conLeave_valid flatCon_quiet
def moveV (s:Fu.Serv):Fu.Serv × Bool:=bif (tryV s).2 then ({ s with W:=(tryV s).1,R:=clearR },true) else (s,false)
def moveT (s:Fu.Serv):Tree (AV × List Blk):=.asrt (smallS s) (ownOk s (.ite (tryV s).2 (.ret (.tup [.agg (encW (tryV s).1 ++ [.blit false,.lit .i64 0,.lit .i64 0,.lit .i64 (-1),.nils,.int .i64 s.NextID,.int .i64 s.NextAp]),.bool (tryV s).2],[])) (.ret (.tup [.agg (encS s),.bool (tryV s).2],[]))))
theorem fMove (s:Fu.Serv):frozen (callC c201 60 37) [.agg (encS s)]=moveT s:=by kernel_rfl
theorem move_rez {s:Fu.Serv} (h:smallS s):Rez (moveT s) (.tup [.agg (encS (moveV s).1),.bool (moveV s).2],[]):=by
 refine .asrt h (ownOk_rez h ?_)
 unfold moveV
 cases hb:(tryV s).2 with
 | true=>exact .itet rfl (.ret (.tup (.cons (.agg (.cons (.refl _) (.cons (.refl _) (.cons (.refl _) (.cons (.refl _) (.cons (.blit rfl) (.cons (.lit rfl) (.cons (.lit rfl) (.cons (.lit rfl) (.cons (.view rfl) (.cons (.refl _) (.cons (.refl _) .nil)))))))))))) (.cons (.refl _) .nil))) rfl)
 | false=>exact .itee rfl (.ret (.refl _) rfl)
def conMove:Con:=flatCon (d1 dServ) smallS fun s=>.tup [.agg (encS (moveV s).1),.bool (moveV s).2]
theorem conMove_valid:ValidCon c201.P 37 conMove:=frozenCon_valid c201_good 60 (by kernel_rfl) fun s h=>⟨_,fMove s,move_rez h⟩
noncomputable def c202:Cfg:=c201.addQuiet 37 conMove
theorem c202_good:GoodCfg c202:=c201_good.addQuiet conMove_valid flatCon_quiet
end Go.Fx
namespace Go.Fx
open Go Go.Proofs
def eqAimB (a b:Fu.Aim):Bool:=a.ID == b.ID && ((a.S.C == b.S.C && (a.S.T == b.S.T && (a.S.Max == b.S.Max && (a.S.M == b.S.M && (a.S.K == b.S.K && a.S.E == b.S.E))))) && a.P == b.P)
theorem eqAimB_eq (a b:Fu.Aim):eqAimB a b=decide (a=b):=by
 obtain ⟨a1,⟨a2,a3,a4,a5,a6,a7⟩,a8⟩:=a
 obtain ⟨b1,⟨b2,b3,b4,b5,b6,b7⟩,b8⟩:=b
 rw [Bool.eq_iff_iff]
 simp only [eqAimB,Bool.and_eq_true,beq_iff_eq,decide_eq_true_eq,Fu.Aim.mk.injEq,Fu.Spec.mk.injEq]
end Go.Fx
