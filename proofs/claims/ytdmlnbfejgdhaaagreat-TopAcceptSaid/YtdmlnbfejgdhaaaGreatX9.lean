import Derived.Test.YtdmlnbfejgdhaaaGreatQD
import Derived.Test.YtdmlnbfejgdhaaaGreatFxFr
namespace Go.Fx
open Go Go.Proofs
abbrev CX9:=Fu.Serv × Fu.Serv × Fu.Spec × Int
abbrev AX9:=CX9 × List Fu.Spr × List Fu.Spec × Int
def hX9 (c:CX9):Heap:=[(0,.cells (encSpec c.2.2.1)),(1,.cells (encS c.1)),(2,.cells (encS c.2.1))]
def TX9 (x:AX9 × Int):St:=⟨puts (J 224) [(3,.ptr 0 0),(6,.ptr 1 0),(7,.ptr 2 0),(9,.int .i64 x.1.1.2.2.2),(10,.own 3),(11,.own 4),(12,.int .i64 x.1.2.2.2),(13,.int .i64 x.2)],hX9 x.1.1 ++ [(4,.rows .spec 24 x.1.2.2.1),(3,.rows .spr 51 x.1.2.1)],5⟩
def sX9:List Sh:=sets (Js 224) [(3,.keep),(6,.keep),(7,.keep),(9,.int),(10,.keep),(11,.keep),(12,.int),(13,.int)]
def eX9:List Sh:=sets (Js 224) [(3,.keep),(6,.keep),(7,.keep),(9,.int),(10,.keep),(11,.keep),(12,.int)]
def fX9 (ss:List Sh) (σ:St):St:=norm2 3 [.tmp 10,.tmp 11] [0,1,2,3,4] ss (ownSlot 10 .spr 51 (ownSlot 11 .spec 24 σ))
theorem weak_fX9 (ss:List Sh) (σ:St):Weak 3 σ (fX9 ss σ):=((Weak.ownSlot 3 11 .spec 24 σ).trans (Weak.ownSlot 3 10 .spr 51 _)).trans (Weak.norm2 3 [.tmp 10,.tmp 11] [0,1,2,3,4] ss _)
def EX9 (x:AX9):Ex × St:=(.exit 0,⟨puts (J 224) [(3,.ptr 0 0),(6,.ptr 1 0),(7,.ptr 2 0),(9,.int .i64 x.1.2.2.2),(10,.own 3),(11,.own 4),(12,.int .i64 x.2.2.2)],hX9 x.1 ++ [(4,.rows .spec 24 x.2.2.1),(3,.rows .spr 51 x.2.1)],5⟩)
def addX9 (x:AX9) (q:Fu.Spec):AX9:=(x.1,x.2.1 ++ [sprOf q],x.2.2.1 ++ [q],IntKind.i64.wrap (x.2.2.2+unitsV q q.Max))
def moreX9 (x:AX9) (q:Fu.Spec) (i:Int):Tree (Ex × St):=.asrt ((x.2.2.1 ++ [q]).length*48≤140737488355328) (.asrt ((x.2.1 ++ [sprOf q]).length*24≤140737488355328) (.ret (.normal,TX9 (addX9 x q,IntKind.i64.wrap (i+1)))))
theorem bX9 (x : AX9) (i : Int) : roundN c242 60 3 (loopAt c242.P 3 14) (fX9 sX9) (fX9 eX9) (TX9 (x, i)) =
    .ite (decide (i≤x.1.1.W.T.length)) (.ite (decide (i < x.1.1.W.T.length)) (.asrt (0≤i∧i < x.1.1.W.T.length) (moreX9 x (rd .task x.1.1.W.T i).S i)) (moreX9 x x.1.2.2.1 i)) (.ret (EX9 x)):=by kernel_rfl
def gX9 (σ:St):Option (AX9 × Int) :=
 match nth σ.tmps 9,nth σ.tmps 12,nth σ.tmps 13,σ.heap with
 | .int .i64 e,.int .i64 n,.int .i64 i,[(_,.cells [.int .i64 q1,.int .i64 q2,.int .i64 q3,.int .i64 q4,.int .i64 q5,.int .i64 q6]),(_,.cells [.int .i64 a,.view .task t,.view .ape p,.int .i64 c,.bool o,.int .i64 si,.int .i64 by',.int .i64 nw,.view .aim l,.int .i64 y,.int .i64 z]),(_,.cells [.int .i64 a2,.view .task t2,.view .ape p2,.int .i64 c2,.bool o2,.int .i64 si2,.int .i64 by2,.int .i64 n2,.view .aim l2,.int .i64 y2,.int .i64 z2]),(_,.rows .spec _ vb),(_,.rows .spr _ va)] =>
  some (((⟨⟨a,t,p,c⟩,⟨o,si,by',nw,l⟩,y,z⟩,⟨⟨a2,t2,p2,c2⟩,⟨o2,si2,by2,n2,l2⟩,y2,z2⟩,⟨q1,q2,q3,q4,q5,q6⟩,e),va,vb,n),i)
 | _,_,_,_=>none
def allX9 (c:CX9):List Fu.Spec:=specsJ c.1 c.2.2.1
def finX9 (c:CX9):AX9:=(c,(allX9 c).map sprOf,allX9 c,leastS (allX9 c))
def okX9 (x:AX9 × Int):Prop:=(0≤x.2∧x.2≤x.1.1.1.W.T.length+1∧x.1.1.1.W.T.length≤3)∧(∀ q ∈ allX9 x.1.1,mayS q=true)∧x.1.2=(((allX9 x.1.1).take x.2.toNat).map sprOf,(allX9 x.1.1).take x.2.toNat,leastS ((allX9 x.1.1).take x.2.toNat))
def LxX9 (x:AX9 × Int):Tree (Ex × St):=.asrt (okX9 x) (.ret (EX9 (finX9 x.1.1)))
def LX9:LoopCon:=entry 3 (fX9 sX9) TX9 gX9 LxX9
theorem allX9_len (c:CX9):(allX9 c).length=c.1.W.T.length+1:=by unfold allX9 specsJ; rw [List.length_append,specsV_len]; rfl
theorem least_small {L:List Fu.Spec} (h:∀ q ∈ L,mayS q=true):0≤leastS L∧leastS L≤1048576*L.length:=by
 unfold leastS
 induction L with
 | nil=>simp
 | cons q L ih =>
  have h1:=ih fun y hy=>h y (by simp [hy])
  obtain ⟨h2,h3⟩:=spr_may (h q (by simp))
  have h4:=least_range h2
  obtain ⟨m1,m2,m3,_⟩:=mayR_iff.1 h2
  have h5:=unitsV_pos (per_top (h q (by simp))).2
  simp only [List.map_cons,List.sum_cons,List.length_cons]
  omega
theorem take_succ6 {q:RTy} {L:List q.carrier} {i:Int} (h0:0≤i) (h1:i < L.length):L.take (i+1).toNat=L.take i.toNat ++ [rd q L i]:=by
 obtain ⟨n,rfl⟩:∃ n:Nat,i=n:=⟨i.toNat,by omega⟩
 rw [show ((n:Int)+1).toNat=n+1 by omega,Int.toNat_natCast,rd_of (r:=q) (xs:=L) (by omega),List.take_append_getElem]
theorem lX9 (hs:SubOf c242.P 3 (.loop (loopAt c242.P 3 14))):SoundLoop c242 (loopAt c242.P 3 14) LX9:=by
 refine loop_rule3 (C:=c242) (g:=3) (l:=14) c242_good 60 3 _ _ (weak_fX9 sX9) (weak_fX9 eX9) hs TX9 LxX9 (fun x=>(x.1.1.1.W.T.length+1-x.2).toNat) (fun x r h=>?_) entry_out
 obtain ⟨⟨c,y⟩,i⟩:=x
 obtain ⟨⟨⟨h0,h1,h2⟩,h3,h4⟩,h⟩:=Tree.out_asrt.1 h
 simp only at h0 h1 h2 h3 h4
 subst h4
 have hlen:=allX9_len c
 have step:∀ q:Fu.Spec,i≤c.1.W.T.length→q=rd .spec (allX9 c) i→(moreX9 (c,((allX9 c).take i.toNat).map sprOf,(allX9 c).take i.toNat,leastS ((allX9 c).take i.toNat)) q i).wp (Rnd TX9 (fun x=>(x.1.1.1.W.T.length+1-x.2).toNat) LxX9 ((c,((allX9 c).take i.toNat).map sprOf,(allX9 c).take i.toNat,leastS ((allX9 c).take i.toNat)),i) r):=by
  intro q hi hq
  have htk:=take_succ6 (q:=.spec) (L:=allX9 c) (i:=i) h0 (by omega)
  have hsm:=least_small (L:=(allX9 c).take (i+1).toNat) fun y hy=>h3 y (List.mem_of_mem_take hy)
  have e1:(allX9 c).take i.toNat ++ [q]=(allX9 c).take (i+1).toNat:=by rw [htk,hq]
  have hl1:((allX9 c).take (i+1).toNat).length≤4:=by rw [List.length_take]; omega
  have e2:((allX9 c).take i.toNat).map sprOf ++ [sprOf q]=((allX9 c).take (i+1).toNat).map sprOf:=by rw [← e1,List.map_append]; rfl
  have e3:leastS ((allX9 c).take i.toNat)+unitsV q q.Max=leastS ((allX9 c).take (i+1).toNat):=by
   rw [← e1]
   unfold leastS
   rw [List.map_append,List.sum_append]
   simp
  unfold moreX9 addX9
  simp only
  rw [e1,e2,e3,wrap_fits (n:=leastS ((allX9 c).take (i+1).toNat)) (by omega) (by omega),wrap_fits (n:=i+1) (by omega) (by omega)]
  exact ⟨by omega,by rw [List.length_map]; omega,Rnd.go (m:=fun x:AX9 × Int=>(x.1.1.1.W.T.length+1-x.2).toNat) (x:=((c,((allX9 c).take i.toNat).map sprOf,(allX9 c).take i.toNat,leastS ((allX9 c).take i.toNat)),i)) ((c,((allX9 c).take (i+1).toNat).map sprOf,(allX9 c).take (i+1).toNat,leastS ((allX9 c).take (i+1).toNat)),i+1) (by simp only; omega) (Tree.out_asrt.2 ⟨⟨⟨by simp only; omega,by simp only; omega,h2⟩,h3,rfl⟩,h⟩)⟩
 refine .of_eq (bX9 _ i) (Tree.wp_ite.2 ⟨fun hi=>Tree.wp_ite.2 ⟨fun hj=>?_,fun hj=>?_⟩,fun hi=>?_⟩)
 ·have hj:i < (c.1.W.T.length:Int):=of_decide_eq_true hj
  refine ⟨⟨h0,hj⟩,step _ (by omega) ?_⟩
  unfold allX9 specsJ
  rw [rd_left h0 (by rw [specsV_len]; exact hj),specs_rd c.1 h0 hj]
 ·have hi:i≤(c.1.W.T.length:Int):=of_decide_eq_true hi
  have hj:¬ i < (c.1.W.T.length:Int):=of_decide_eq_false hj
  refine step _ hi ?_
  have e:i=((specsV c.1).length:Int):=by rw [specsV_len]; omega
  unfold allX9 specsJ
  rw [e]
  show c.2.2.1=_
  exact (rd_last (r:=.spec)).symm
 ·have hi:¬ i≤(c.1.W.T.length:Int):=of_decide_eq_false hi
  have e:(allX9 c).take i.toNat=allX9 c:=List.take_of_length_le (by omega)
  rw [e]
  exact Rnd.out h
noncomputable def c243:Cfg:=c242.addLoop 3 14 LX9
theorem c243_good:GoodCfg c243:=c242_good.addLoop (by unfold OneLoop; kernel_rfl) lX9
def v1X9 (σ:St):St:=freeze 10 (freeze 11 σ)
theorem weak_v1X9 (σ:St):Weak 0 σ (v1X9 σ):=(Weak.freeze 0 11 σ).trans (Weak.freeze 0 10 _)
abbrev DX9:=Fu.Serv × Int × List Fu.Spec × List Int
abbrev BX9:=(DX9 × List Fu.Fix) × Int
def slX9 (x:BX9):List (Nat × AV):=[(7,.ptr 2 0),(9,.int .i64 x.1.1.2.1),(11,.view .spec x.1.1.2.2.1),(15,.view (.int .i64) x.1.1.2.2.2),(17,.own 5),(18,.int .i64 x.2)]
def heX9 (x:BX9):Heap:=[(2,.cells (encS x.1.1.1)),(5,.rows .fix 58 x.1.2)]
def TQ9 (x:BX9 × Int):St:=⟨puts (J 224) (slX9 x.1 ++ [(19,.int .i64 x.2)]),heX9 x.1,6⟩
def sQ9:List Sh:=sets (Js 224) [(7,.keep),(9,.int),(11,.keep),(15,.keep),(17,.keep),(18,.int),(19,.int)]
def fQ9 (σ:St):St:=norm2 6 [] [2,5] sQ9 σ
def spX9 (x:BX9):Fu.Spec:=rd .spec x.1.1.2.2.1 x.2
def unX9 (x:BX9):Int:=rd (.int .i64) x.1.1.2.2.2 x.2
def peX9 (x:BX9):Int:=(ofP (spX9 x) (unX9 x)).1
def EQ9 (x:BX9 × Int):Ex × St:=(.exit 4,TQ9 x)
def iL9 (x:BX9):Prop:=0≤x.2∧x.2 < x.1.1.2.2.1.length
def iU9 (x:BX9):Prop:=0≤x.2∧x.2 < x.1.1.2.2.2.length
theorem bQ9 (x : BX9) (q : Int) : roundN c243 60 3 (loopAt c243.P 3 32) fQ9 fQ9 (TQ9 (x, q)) =
    .asrt (iL9 x) (.asrt (decide (q < (spX9 x).Max)=true→iL9 x) (.asrt (decide (q < (spX9 x).Max)=true→iU9 x) (.ite (decide (q < (spX9 x).Max) && decide (unitsV (spX9 x) q > unX9 x)) (.ret (.normal,TQ9 (x,IntKind.i64.wrap (q+1)))) (.ret (EQ9 (x,q)))))):=by kernel_rfl
def getB9 (σ:St):Option BX9 :=
 match nth σ.tmps 9,nth σ.tmps 11,nth σ.tmps 15,nth σ.tmps 18,σ.heap with
 | .int .i64 e,.view .spec L,.view (.int .i64) u,.int .i64 i,[(_,.cells [.int .i64 a,.view .task t,.view .ape p,.int .i64 c,.bool o,.int .i64 si,.int .i64 by',.int .i64 nw,.view .aim l,.int .i64 y,.int .i64 z]),(_,.rows .fix _ f)] =>
  some (((⟨⟨a,t,p,c⟩,⟨o,si,by',nw,l⟩,y,z⟩,e,L,u),f),i)
 | _,_,_,_,_=>none
def gQ9 (σ:St):Option (BX9 × Int) :=
 match getB9 σ,nth σ.tmps 19 with
 | some x,.int .i64 q=>some (x,q)
 | _,_=>none
def okQ9 (x:BX9 × Int):Prop:=(iL9 x.1∧iU9 x.1)∧(mayS (spX9 x.1)=true∧unitsV (spX9 x.1) (spX9 x.1).Max≤unX9 x.1∧unX9 x.1≤1048576)∧(spX9 x.1).T≤x.2∧x.2≤peX9 x.1
def LxQ9 (x:BX9 × Int):Tree (Ex × St):=.asrt (okQ9 x) (.ret (EQ9 (x.1,peX9 x.1)))
def LQ9:LoopCon:=entry 6 fQ9 TQ9 gQ9 LxQ9
theorem lQ9 (hs:SubOf c243.P 3 (.loop (loopAt c243.P 3 32))):SoundLoop c243 (loopAt c243.P 3 32) LQ9:=by
 refine loop_rule3 (C:=c243) (g:=3) (l:=32) c243_good 60 6 _ _ (Weak.norm2 6 [] [2,5] sQ9) (Weak.norm2 6 [] [2,5] sQ9) hs TQ9 LxQ9 (fun x=>(peX9 x.1-x.2).toNat) (fun x r h=>?_) entry_out
 obtain ⟨x,q⟩:=x
 obtain ⟨⟨⟨h0,h1⟩,⟨h2,h3,h4⟩,h5,h6⟩,h⟩:=Tree.out_asrt.1 h
 simp only at h0 h1 h2 h3 h4 h5 h6
 obtain ⟨⟨k1,k2⟩,k3,k4⟩:=of_law h2 h3 h4
 have k1:(spX9 x).T≤peX9 x:=k1
 have k2:peX9 x≤(spX9 x).Max:=k2
 have k3:unitsV (spX9 x) (peX9 x)≤unX9 x:=k3
 have k4:∀ y,(spX9 x).T≤y→y < peX9 x→unX9 x < unitsV (spX9 x) y:=k4
 have hsp:=(mayS_iff.1 h2).2.1
 have hsc:=(mayS_iff.1 h2).1
 refine .of_eq (bQ9 x q) ⟨h0,fun _=>h0,fun _=>h1,Tree.wp_ite.2 ⟨fun hb=>?_,fun hb=>?_⟩⟩
 ·rw [Bool.and_eq_true,decide_eq_true_eq,decide_eq_true_eq] at hb
  have hne:q≠peX9 x:=fun e=>by rw [e] at hb; omega
  rw [wrap_fits (n:=q+1) (by omega) (by omega)]
  exact Rnd.go (m:=fun x:BX9 × Int=>(peX9 x.1-x.2).toNat) (x:=(x,q)) (x,q+1) (by simp only; omega) (Tree.out_asrt.2 ⟨⟨⟨h0,h1⟩,⟨h2,h3,h4⟩,by simp only; omega,by simp only; omega⟩,h⟩)
 ·have e:q=peX9 x:=by
   rw [Bool.and_eq_false_iff,decide_eq_false_iff_not,decide_eq_false_iff_not] at hb
   rcases Int.lt_or_le q (peX9 x) with hl | hl
   ·have:=k4 q h5 hl
    omega
   ·omega
  rw [e]
  exact Rnd.out h
noncomputable def c244:Cfg:=c243.addLoop 3 32 LQ9
theorem c244_good:GoodCfg c244:=c243_good.addLoop (by unfold OneLoop; kernel_rfl) lQ9
def TB9 (x:BX9):St:=⟨puts (J 224) (slX9 x),heX9 x,6⟩
def sB9:List Sh:=sets (Js 224) [(7,.keep),(9,.int),(11,.keep),(15,.keep),(17,.keep),(18,.int)]
def eB9:List Sh:=sets (Js 224) [(7,.keep),(9,.int),(17,.keep)]
def fB9 (ss:List Sh) (σ:St):St:=norm2 5 [.tmp 17] [2,5] ss (ownSlot 17 .fix 58 σ)
theorem weak_fB9 (ss:List Sh) (σ:St):Weak 5 σ (fB9 ss σ):=(Weak.ownSlot 5 17 .fix 58 σ).trans (Weak.norm2 5 [.tmp 17] [2,5] ss _)
def EB9 (x:Fu.Serv × Int × List Fu.Fix):Ex × St:=(.exit 2,⟨puts (J 224) [(7,.ptr 2 0),(9,.int .i64 x.2.1),(17,.own 5)],[(2,.cells (encS x.1)),(5,.rows .fix 58 x.2.2)],6⟩)
theorem bB9 (x : BX9) : roundN c244 60 3 (loopAt c244.P 3 29) (fB9 sB9) (fB9 eB9) (TB9 x) =
    .ite (decide (x.2 < x.1.1.2.2.1.length)) (.asrt (iL9 x) (.asrt (6=6∧TQ9 (x,(spX9 x).T)=TQ9 (x,(spX9 x).T)) (.asrt (okQ9 (x,(spX9 x).T)) (.asrt (iL9 x) (.asrt ((x.1.2 ++ [(⟨spX9 x,peX9 x⟩:Fu.Fix)]).length*56≤140737488355328)
      (.ret (.normal,TB9 ((x.1.1,x.1.2 ++ [⟨spX9 x,peX9 x⟩]),IntKind.i64.wrap (x.2+1)))))))))  (.ret (EB9 (x.1.1.1,x.1.1.2.1,x.1.2))):=by kernel_rfl
def okB9 (x:BX9):Prop:=(0≤x.2∧x.2≤x.1.1.2.2.1.length∧x.1.1.2.2.1.length≤4∧x.1.1.2.2.2.length=x.1.1.2.2.1.length)∧(∀ q ∈ x.1.1.2.2.1,mayS q=true) ∧
 (∀ i:Int,0≤i→i < x.1.1.2.2.1.length→unitsV (rd .spec x.1.1.2.2.1 i) (rd .spec x.1.1.2.2.1 i).Max≤rd (.int .i64) x.1.1.2.2.2 i∧rd (.int .i64) x.1.1.2.2.2 i≤1048576)∧x.1.2=(fixesV x.1.1.2.2.1 x.1.1.2.2.2).take x.2.toNat
def LxB9 (x:BX9):Tree (Ex × St):=.asrt (okB9 x) (.ret (EB9 (x.1.1.1,x.1.1.2.1,fixesV x.1.1.2.2.1 x.1.1.2.2.2)))
def LB9:LoopCon:=entry 5 (fB9 sB9) TB9 getB9 LxB9
theorem lB9 (hs:SubOf c244.P 3 (.loop (loopAt c244.P 3 29))):SoundLoop c244 (loopAt c244.P 3 29) LB9:=by
 refine loop_rule3 (C:=c244) (g:=3) (l:=29) c244_good 60 5 _ _ (weak_fB9 sB9) (weak_fB9 eB9) hs TB9 LxB9 (fun x=>(x.1.1.2.2.1.length-x.2).toNat) (fun x r h=>?_) entry_out
 obtain ⟨⟨⟨s,e,L,u⟩,f⟩,i⟩:=x
 obtain ⟨⟨⟨h0,h1,h2,h3⟩,h4,h5,h6⟩,hq⟩:=Tree.out_asrt.1 h
 clear h
 simp only at h0 h1 h2 h3 h4 h5 h6 hq
 subst h6
 have hfl:=fixesV_len L u
 refine .of_eq (bB9 _) (Tree.wp_ite.2 ⟨fun hi=>?_,fun hi=>?_⟩)
 ·have hi:i < (L.length:Int):=of_decide_eq_true hi
  have hm:=h4 _ (rd_mem' (r:=.spec) (xs:=L) h0 hi)
  obtain ⟨k1,k2⟩:=h5 i h0 hi
  have hiL:iL9 (((s,e,L,u),(fixesV L u).take i.toNat),i):=⟨h0,hi⟩
  have hT:(rd .spec L i).T≤(ofP (rd .spec L i) (rd (.int .i64) u i)).1:=(of_law hm k1 k2).1.1
  have hfix:(fixesV L u).take i.toNat ++ [(⟨spX9 (((s,e,L,u),(fixesV L u).take i.toNat),i),peX9 (((s,e,L,u),(fixesV L u).take i.toNat),i)⟩:Fu.Fix)]=(fixesV L u).take (i+1).toNat:=by
   rw [take_succ6 (q:=.fix) (L:=fixesV L u) h0 (by omega)]
   congr 2
   unfold fixesV
   rw [mapF_rd (q:=.fix) (vEf (L,u)) _ 0 i h0 (by omega),Int.zero_add]
   rfl
  have hlen:((fixesV L u).take (i+1).toNat).length≤4:=by rw [List.length_take]; omega
  refine ⟨hiL,⟨rfl,rfl⟩,⟨⟨hiL,h0,by show i < (u.length:Int); omega⟩,⟨hm,k1,k2⟩,Int.le_refl _,hT⟩,hiL,?_,?_⟩
  ·simp only [hfix]
   omega
  ·simp only [hfix]
   rw [wrap_fits (n:=i+1) (by omega) (by omega)]
   exact Rnd.go (m:=fun x:BX9=>(x.1.1.2.2.1.length-x.2).toNat) (x:=(((s,e,L,u),(fixesV L u).take i.toNat),i)) (((s,e,L,u),(fixesV L u).take (i+1).toNat),i+1) (by simp only; omega) (Tree.out_asrt.2 ⟨⟨⟨by simp only; omega,by simp only; omega,h2,h3⟩,h4,h5,rfl⟩,hq⟩)
 ·have hi:¬ i < (L.length:Int):=of_decide_eq_false hi
  have e9:(fixesV L u).take i.toNat=fixesV L u:=List.take_of_length_le (by omega)
  simp only [e9]
  exact Rnd.out hq
noncomputable def c245:Cfg:=c244.addLoop 3 29 LB9
theorem c245_good:GoodCfg c245:=c244_good.addLoop (by unfold OneLoop; kernel_rfl) lB9
abbrev EX9':=(Fu.Serv × Int × List Fu.Fix) × Int
def hE9 (s:Fu.Serv):Heap:=[(2,.cells (encS s))]
def TD9 (x:EX9'):St:=⟨puts (J 224) [(7,.ptr 2 0),(9,.int .i64 x.1.2.1),(17,.view .fix x.1.2.2),(20,.int .i64 x.2)],hE9 x.1.1,6⟩
def sD9:List Sh:=sets (Js 224) [(7,.keep),(9,.int),(17,.keep),(20,.int)]
def eD9:List Sh:=sets (Js 224) [(4,.bool),(7,.keep),(9,.int),(17,.keep)]
def fD9 (ss:List Sh) (σ:St):St:=norm2 6 [] [2] ss σ
def TG9 (x:(Fu.Serv × List Fu.Fix) × Int):St:=⟨puts (J 224) [(7,.ptr 2 0),(17,.view .fix x.1.2),(21,.int .i64 x.2)],hE9 x.1.1,6⟩
def sG9:List Sh:=sets (Js 224) [(7,.keep),(17,.keep),(21,.int)]
def eG9:List Sh:=sets (Js 224) [(4,.keep)]
def RD9 (b:Bool) (x:Fu.Serv × Int × List Fu.Fix):Ex × St:=(.ret,⟨puts (J 224) [(4,.bool b),(7,.ptr 2 0),(9,.int .i64 x.2.1),(17,.view .fix x.2.2)],hE9 x.1,6⟩)
def ED9 (x:Fu.Serv × Int × List Fu.Fix):Ex × St:=(.exit 6,⟨puts (J 224) [(7,.ptr 2 0),(9,.int .i64 x.2.1),(17,.view .fix x.2.2)],hE9 x.1,6⟩)
theorem bD9 (x : Fu.Serv × Int × List Fu.Fix) (n : Int) : roundN c245 60 3 (loopAt c245.P 3 36) (fD9 sD9) (fD9 eD9) (TD9 (x, n)) =
    .asrt ((x.2.2.length:Int) < 17592186044416) (.ite (decide (n < hzV x.2.2)) (.ite (decide (allV x.2.2 n > n)) (.ret (RD9 (x.2.1 == 6) x)) (.ret (.normal,TD9 (x,IntKind.i64.wrap (n+1))))) (.ret (ED9 x))):=by kernel_rfl
def gD9 (σ:St):Option EX9' :=
 match nth σ.tmps 9,nth σ.tmps 17,nth σ.tmps 20,σ.heap with
 | .int .i64 e,.view .fix f,.int .i64 n,[(_,.cells [.int .i64 a,.view .task t,.view .ape p,.int .i64 c,.bool o,.int .i64 si,.int .i64 by',.int .i64 nw,.view .aim l,.int .i64 y,.int .i64 z])]=>some ((⟨⟨a,t,p,c⟩,⟨o,si,by',nw,l⟩,y,z⟩,e,f),n)
 | _,_,_,_=>none
def okD9 (x:EX9'):Prop:=(1≤x.2∧mayFs x.1.2.2=true∧x.1.2.2.length≤4)∧(testV x.1.2.2=false→x.1.2.1=6)∧∀ d:Int,0≤d→d < x.2→sumOf x.1.2.2 d≤d
def LxD9 (x:EX9'):Tree (Ex × St):=.asrt (okD9 x) (.ite (testV x.1.2.2) (.ret (ED9 x.1)) (.ret (RD9 true x.1)))
def LD9:LoopCon:=entry 6 (fD9 sD9) TD9 gD9 LxD9
theorem lD9 (hs:SubOf c245.P 3 (.loop (loopAt c245.P 3 36))):SoundLoop c245 (loopAt c245.P 3 36) LD9:=by
 refine loop_rule3 (C:=c245) (g:=3) (l:=36) c245_good 60 6 _ _ (Weak.norm2 6 [] [2] sD9) (Weak.norm2 6 [] [2] eD9) hs TD9 LxD9 (fun x=>(385-x.2).toNat) (fun x r h=>?_) entry_out
 obtain ⟨x,n⟩:=x
 obtain ⟨⟨⟨h0,h1,h2⟩,h3,h4⟩,hq⟩:=Tree.out_asrt.1 h
 simp only at h0 h1 h2 h3 h4
 have hq:Tree.Out (.ite (testV x.2.2) (.ret (ED9 x)) (.ret (RD9 true x))) r:=hq
 have hz:=hzV_range h1
 have ea:allV x.2.2 n=sumOf x.2.2 n:=by unfold allV; rw [decide_eq_false (show ¬ (x.2.2.length:Int) > 1000 by omega)]; rfl
 refine .of_eq (bD9 x n) ⟨by omega,Tree.wp_ite.2 ⟨fun hi=>Tree.wp_ite.2 ⟨fun hb=>?_,fun hb=>?_⟩,fun hi=>?_⟩⟩
 ·have hi:n < hzV x.2.2:=of_decide_eq_true hi
  have hb:=of_decide_eq_true hb
  rw [ea] at hb
  have ht:testV x.2.2=false:=by
   cases ht:testV x.2.2 with
   | false=>rfl
   | true =>
    have:=(testV_iff.1 ht).2 n (by omega) hi
    omega
  rw [ht] at hq
  rw [h3 ht]
  exact Rnd.ret ((Tree.out_ite_false rfl).1 hq)
 ·have hi:n < hzV x.2.2:=of_decide_eq_true hi
  have hb:=of_decide_eq_false hb
  rw [ea] at hb
  rw [wrap_fits (n:=n+1) (by omega) (by omega)]
  refine Rnd.go (m:=fun x:EX9'=>(385-x.2).toNat) (x:=(x,n)) (x,n+1) (by simp only; omega) (Tree.out_asrt.2 ⟨⟨⟨by simp only; omega,h1,h2⟩,h3,fun d d0 d1=>?_⟩,hq⟩)
  simp only at d1 ⊢
  by_cases hd:d=n
  ·rw [hd]; omega
  ·exact h4 d d0 (by omega)
 ·have hi:¬ n < hzV x.2.2:=of_decide_eq_false hi
  have ht:testV x.2.2=true:=testV_iff.2 ⟨h1,fun d d0 d1=>h4 d d0 (by omega)⟩
  rw [ht] at hq
  exact Rnd.out ((Tree.out_ite_true rfl).1 hq)
noncomputable def c246:Cfg:=c245.addLoop 3 36 LD9
theorem c246_good:GoodCfg c246:=c245_good.addLoop (by unfold OneLoop; kernel_rfl) lD9
def RG9:Ex × St:=(.ret,⟨puts (J 224) [(4,.blit false)],[],6⟩)
def EG9:Ex × St:=(.exit 8,⟨J 224,[],6⟩)
def iA9 (s:Fu.Serv) (i:Int):Prop:=0≤i∧i < s.R.L.length
def iF9 (f:List Fu.Fix) (i:Int):Prop:=0≤i∧i < f.length
def neS9 (a b:Fu.Spec):Bool:=!(a.C == b.C && (a.T == b.T && (a.Max == b.Max && (a.M == b.M && (a.K == b.K && a.E == b.E)))))
theorem bG9 (s : Fu.Serv) (f : List Fu.Fix) (i : Int) : roundN c246 60 3 (loopAt c246.P 3 43) (fD9 sG9) (norm2 6 [] [] eG9) (TG9 ((s, f), i)) =
    .ite (decide (i < f.length)) (.asrt (iA9 s i) (.asrt (iF9 f i) (.asrt (((rd .aim s.R.L i).P != (rd .fix f i).P)=false→iA9 s i) (.asrt (((rd .aim s.R.L i).P != (rd .fix f i).P)=false→iF9 f i)
      (.ite ((rd .aim s.R.L i).P != (rd .fix f i).P || neS9 (rd .aim s.R.L i).S (rd .fix f i).S) (.ret RG9) (.ret (.normal,TG9 ((s,f),IntKind.i64.wrap (i+1))))))))) (.ret EG9):=by kernel_rfl
def gG9 (σ:St):Option ((Fu.Serv × List Fu.Fix) × Int) :=
 match nth σ.tmps 17,nth σ.tmps 21,σ.heap with
 | .view .fix f,.int .i64 n,[(_,.cells [.int .i64 a,.view .task t,.view .ape p,.int .i64 c,.bool o,.int .i64 si,.int .i64 by',.int .i64 nw,.view .aim l,.int .i64 y,.int .i64 z])]=>some ((⟨⟨a,t,p,c⟩,⟨o,si,by',nw,l⟩,y,z⟩,f),n)
 | _,_,_=>none
def okG9 (x:(Fu.Serv × List Fu.Fix) × Int):Prop:=(0≤x.2∧x.1.2.length≤4∧x.1.1.R.L.length=x.1.2.length)∧∀ i:Int,0≤i→i < x.1.2.length→(rd .aim x.1.1.R.L i).P=(rd .fix x.1.2 i).P∧(rd .aim x.1.1.R.L i).S=(rd .fix x.1.2 i).S
def LxG9 (x:(Fu.Serv × List Fu.Fix) × Int):Tree (Ex × St):=.asrt (okG9 x) (.ret EG9)
def LG9:LoopCon:=entry 6 (fD9 sG9) TG9 gG9 LxG9
theorem lG9 (hs:SubOf c246.P 3 (.loop (loopAt c246.P 3 43))):SoundLoop c246 (loopAt c246.P 3 43) LG9:=by
 refine loop_rule3 (C:=c246) (g:=3) (l:=43) c246_good 60 6 _ _ (Weak.norm2 6 [] [2] sG9) (Weak.norm2 6 [] [] eG9) hs TG9 LxG9 (fun x=>(x.1.2.length-x.2).toNat) (fun x r h=>?_) entry_out
 obtain ⟨⟨s,f⟩,i⟩:=x
 obtain ⟨⟨⟨h0,h1,h2⟩,h3⟩,hq⟩:=Tree.out_asrt.1 h
 simp only at h0 h1 h2 h3
 refine .of_eq (bG9 s f i) (Tree.wp_ite.2 ⟨fun hi=>?_,fun hi=>Rnd.out hq⟩)
 have hi:i < (f.length:Int):=of_decide_eq_true hi
 obtain ⟨k1,k2⟩:=h3 i h0 hi
 have iA:iA9 s i:=⟨h0,by omega⟩
 refine ⟨iA,⟨h0,hi⟩,fun _=>iA,fun _=>⟨h0,hi⟩,Tree.wp_ite.2 ⟨fun hb=>?_,fun _=>?_⟩⟩
 ·rw [k1,k2] at hb
  unfold neS9 at hb
  simp at hb
 ·rw [wrap_fits (n:=i+1) (by omega) (by omega)]
  exact Rnd.go (m:=fun x:(Fu.Serv × List Fu.Fix) × Int=>(x.1.2.length-x.2).toNat) (x:=((s,f),i)) ((s,f),i+1) (by simp only; omega) (Tree.out_asrt.2 ⟨⟨⟨by simp only; omega,h1,h2⟩,h3⟩,hq⟩)
noncomputable def c247:Cfg:=c246.addLoop 3 43 LG9
theorem c247_good:GoodCfg c247:=c246_good.addLoop (by unfold OneLoop; kernel_rfl) lG9
theorem weak_v2X9 (σ:St):Weak 0 σ (freeze 17 σ):=Weak.freeze 0 17 σ
def stX9:List (Nat × (St→St)):=[(11,v1X9),(5,freeze 17)]
def cX9 (l:List Fu.Op) (p:Fu.Spec):CX9:=(aftS l,(joinR (aftS l) p).1.1,p,(joinR (aftS l) p).2)
def uX9 (c:CX9):List Int:=(pressR ((allX9 c).map sprOf) 983040).1
def fiX9 (c:CX9):List Fu.Fix:=fixesV (allX9 c) (uX9 c)
def tacT (l:List Fu.Op) (p:Fu.Spec) (c:CX9):Tree (AV × List Blk) :=
 .ite (decide ((l.length:Int) > 100)) (.ret (.blit true,[])) (.asrt (l.length≤200∧∀ o ∈ l,(o.D.length:Int)≤17592186044415) (.asrt (smallS c.1)
  (.ite (c.1.R.On || (decide ((c.1.W.T.length:Int)≥4) || decide (c.1.NextID > 65535))) (.ret (.bool (c.2.2.2 == 4 || c.2.2.2 == 3),[]))
  (.ite (!mayS p) (.ret (.bool (c.2.2.2 == 1),[])) (.asrt (3=3∧TX9 ((c,[],[],0),0)=TX9 ((c,[],[],0),0)) (.asrt (okX9 ((c,[],[],0),0))
  (.ite (decide (leastS (allX9 c) > 983040)) (.ret (.bool (c.2.2.2 == 5),[]))
  (.ite (!(pressR ((allX9 c).map sprOf) 983040).2 || ((uX9 c).length:Int) != (allX9 c).length) (.ret (.blit false,[]))
  (.asrt (5=5∧TB9 (((c.2.1,c.2.2.2,allX9 c,uX9 c),[]),0)=TB9 (((c.2.1,c.2.2.2,allX9 c,uX9 c),[]),0)) (.asrt (okB9 (((c.2.1,c.2.2.2,allX9 c,uX9 c),[]),0))
  (.asrt (6=6∧TD9 ((c.2.1,c.2.2.2,fiX9 c),1)=TD9 ((c.2.1,c.2.2.2,fiX9 c),1)) (.asrt (okD9 ((c.2.1,c.2.2.2,fiX9 c),1))
  (.ite (testV (fiX9 c)) (.ite (c.2.2.2 != 0 || (c.2.1.R.L.length:Int) != (fiX9 c).length) (.ret (.blit false,[])) (.asrt (6=6∧TG9 ((c.2.1,fiX9 c),0)=TG9 ((c.2.1,fiX9 c),0)) (.asrt (okG9 ((c.2.1,fiX9 c),0)) (.ret (.blit true,[]))))) (.ret (.bool true,[])))))))))))))))
theorem fTac (l:List Fu.Op) (p:Fu.Spec):callW c247 stX9 60 3 [.view .op l,.agg (encSpec p)]=tacT l p (cX9 l p):=by kernel_rfl
theorem join_else {s:Fu.Serv} (h:mayE s=true) (ho:s.R.On=false) (hl:s.W.T.length < 4) (hn:s.NextID≠65536) (p:Fu.Spec):(joinR s p).2=(targetV (specsJ s p)).2:=by
 have hr:readyE s=0:=by unfold readyE; rw [h,ho]; rfl
 have hf:fullE s=0:=by unfold fullE; rw [decide_eq_false (show ¬ (s.W.T.length:Int)≥4 by omega),show (s.NextID == 65536)=false from beq_eq_false_iff_ne.2 hn]; rfl
 have e:joinW s=0:=by unfold joinW first2; rw [hr,hf]; rfl
 unfold joinR
 rw [e]
 cases hb:((targetV (specsJ s p)).2 != 0) with
 | true=>rfl
 | false=>exact (bne_eq_false_iff_eq.1 hb).symm
theorem join_bar {s:Fu.Serv} (h:mayE s=true) (hb:s.R.On=true∨4≤s.W.T.length∨s.NextID=65536) (p:Fu.Spec):(joinR s p).2=4∨(joinR s p).2=3:=by
 have key:joinW s=4∨joinW s=3:=by
  cases ho:s.R.On with
  | true =>
   left
   have hr:readyE s=4:=by unfold readyE; rw [h,ho]; rfl
   unfold joinW first2
   rw [hr]
   rfl
  | false =>
   right
   have hr:readyE s=0:=by unfold readyE; rw [h,ho]; rfl
   have hf:fullE s=3:=by
    unfold fullE
    by_cases h4:4≤s.W.T.length
    ·rw [decide_eq_true (show (s.W.T.length:Int)≥4 by omega)]; rfl
    ·rw [decide_eq_false (show ¬ (s.W.T.length:Int)≥4 by omega)]
     have:s.NextID=65536:=by
      rcases hb with hb | hb | hb
      ·rw [ho] at hb; cases hb
      ·exact absurd hb h4
      ·exact hb
     rw [this]
     rfl
   unfold joinW first2
   rw [hr,hf]
   rfl
 have hne:(joinW s != 0)=true:=bne_iff_ne.2 (by omega)
 have e:(joinR s p).2=joinW s:=by unfold joinR; rw [hne]; rfl
 rw [e]
 exact key
theorem old_may {s:Fu.Serv} (h:mayE s=true):∀ q ∈ specsV s,mayS q=true:=fun q hq=>by
 obtain ⟨t,ht,rfl⟩:=List.mem_map.1 hq
 obtain ⟨hA,_,_⟩:=mayL_of (mayW_live (safeE_may h))
 exact mayS_iff.2 (perOK_iff.1 (hA.2 (liveK t) (List.mem_map_of_mem ht)).1).1
theorem tacT_tru {l:List Fu.Op} {p:Fu.Spec} (hd:∀ o ∈ l,(o.D.length:Int)≤17592186044415):Tru (tacT l p (cX9 l p)):=by
 refine .ite (fun _=>.yes) fun hb=>?_
 have hb:=of_decide_eq_false hb
 have hm:mayE (aftS l)=true:=(aft_may (l:=l) (by omega)).1
 have hid:=(mayE_safe hm).2.1
 have hT4:=(mayW_iff.1 (safeE_may hm)).2.1
 refine .asrt ⟨by omega,hd⟩ (.asrt (mayE_small hm) (.ite (fun hx=>?_) fun hx=>?_))
 ·rw [Bool.or_eq_true,Bool.or_eq_true,decide_eq_true_eq,decide_eq_true_eq] at hx
  have hx:(aftS l).R.On=true∨((aftS l).W.T.length:Int)≥4∨(aftS l).NextID > 65535:=hx
  refine .of ?_
  show ((joinR (aftS l) p).2 == 4 || (joinR (aftS l) p).2 == 3)=true
  rcases join_bar hm (by rcases hx with h | h | h; exact .inl h; exact .inr (.inl (by omega)); exact .inr (.inr (by omega))) p with e | e <;> rw [e] <;> rfl
 simp only [Bool.or_eq_false_iff,decide_eq_false_iff_not] at hx
 obtain ⟨x1,x2,x3⟩:=hx
 have x1:(aftS l).R.On=false:=x1
 have x2:¬ ((aftS l).W.T.length:Int)≥4:=x2
 have x3:¬ (aftS l).NextID > 65535:=x3
 have he:(cX9 l p).2.2.2=(targetV (allX9 (cX9 l p))).2:=join_else hm x1 (by omega) (by omega) p
 have hlen:(allX9 (cX9 l p)).length=(aftS l).W.T.length+1:=allX9_len _
 have hl4:(allX9 (cX9 l p)).length≤4:=by omega
 have hn4:decide (((allX9 (cX9 l p)).length:Int) > 4)=false:=decide_eq_false (by omega)
 refine .ite (fun hp=>?_) fun hp=>?_
 ·rw [Bool.not_eq_true'] at hp
  refine .of ?_
  have hs:=(springs_law hl4).2 ⟨p,by unfold allX9 specsJ; exact List.mem_append.2 (.inr (by show p ∈ [p]; simp)),hp⟩
  rw [he]
  unfold targetV
  rw [hn4,hs]
  rfl
 rw [Bool.not_eq_false'] at hp
 have hall:∀ q ∈ allX9 (cX9 l p),mayS q=true:=fun q hq=>by
  unfold allX9 specsJ at hq
  rcases List.mem_append.1 hq with h | h
  ·exact old_may hm q h
  ·have:q=p:=by simpa [cX9] using h
   rw [this]
   exact hp
 obtain ⟨t1,t2⟩:=target_law hl4 hall
 have hsp:=(springs_law hl4).1 hall
 have eu:unitsU (allX9 (cX9 l p))=pressR ((allX9 (cX9 l p)).map sprOf) 983040:=by unfold unitsU; rw [hsp]
 have htg:∀ r,(bif !(unitsU (allX9 (cX9 l p))).2 then (([],5):List Fu.Fix × Int) else bif !testV (fixesV (allX9 (cX9 l p)) (unitsU (allX9 (cX9 l p))).1) then ([],6) else (fixesV (allX9 (cX9 l p)) (unitsU (allX9 (cX9 l p))).1,0))=r→targetV (allX9 (cX9 l p))=r:=fun r h=>by
  unfold targetV
  rw [hn4,hsp]
  exact h
 refine .asrt ⟨rfl,rfl⟩ (.asrt ⟨⟨Int.le_refl _,by simp only; omega,by show (aftS l).W.T.length≤3; omega⟩,hall,rfl⟩ (.ite (fun h5=>?_) fun h5=>?_))
 ·have h5:=of_decide_eq_true h5
  refine .of ?_
  rw [he,htg ([],5) (by rw [t1,decide_eq_false (by omega)]; rfl)]
  rfl
 have h5:=of_decide_eq_false h5
 obtain ⟨u1,u2,u3⟩:=t2 (by omega)
 rw [decide_eq_true (show leastS (allX9 (cX9 l p))≤983040 by omega)] at t1
 have eU:uX9 (cX9 l p)=(unitsU (allX9 (cX9 l p))).1:=by unfold uX9; rw [eu]
 have eF:fiX9 (cX9 l p)=fixesV (allX9 (cX9 l p)) (unitsU (allX9 (cX9 l p))).1:=by unfold fiX9; rw [eU]
 rw [eU,eF]
 have hfl:=fixesV_len (allX9 (cX9 l p)) (unitsU (allX9 (cX9 l p))).1
 refine .ite (fun hz=>?_) fun _=>.asrt ⟨rfl,rfl⟩ (.asrt ⟨⟨Int.le_refl _,by simp only; omega,hl4,u1⟩,hall,u3,rfl⟩ (.asrt ⟨rfl,rfl⟩ (.asrt ⟨⟨Int.le_refl _,u2,by simp only; omega⟩,fun ht=>?_,fun d d0 d1=>?_⟩ (.ite (fun ht=>?_) fun _=>.of rfl))))
 ·rw [← eu,t1,u1] at hz
  simp at hz
 ·have ht:testV (fixesV (allX9 (cX9 l p)) (unitsU (allX9 (cX9 l p))).1)=false:=ht
  show (cX9 l p).2.2.2=6
  rw [he,htg ([],6) (by rw [t1,ht]; rfl)]
 ·have d1:d < 1:=d1
  have:d=0:=by omega
  rw [this]
  have hf:=u2
  unfold mayFs at hf
  rw [Bool.and_eq_true,List.all_eq_true] at hf
  show sumOf (fixesV (allX9 (cX9 l p)) (unitsU (allX9 (cX9 l p))).1) 0≤0
  rw [sumOf_zero hf.1]
  exact Int.le_refl _
 ·have e0:targetV (allX9 (cX9 l p))=(fixesV (allX9 (cX9 l p)) (unitsU (allX9 (cX9 l p))).1,0):=htg _ (by rw [t1,ht]; rfl)
  have ez:(joinR (aftS l) p).2=0:=by
   have:(cX9 l p).2.2.2=0:=by rw [he,e0]
   exact this
  have ej:=(join_ok ez).2.2.2
  have eL:(cX9 l p).2.1.R.L=aimsP (aftS l).W.T (aftS l).NextID (fixesV (allX9 (cX9 l p)) (unitsU (allX9 (cX9 l p))).1):=by
   show (joinR (aftS l) p).1.1.R.L=_
   rw [ej]
   show aimsP (aftS l).W.T (aftS l).NextID (targetV (specsJ (aftS l) p)).1=_
   have:targetV (specsJ (aftS l) p)=(fixesV (allX9 (cX9 l p)) (unitsU (allX9 (cX9 l p))).1,0):=e0
   rw [this]
  have eN:(cX9 l p).2.2.2=0:=ez
  have eLen:(cX9 l p).2.1.R.L.length=(fixesV (allX9 (cX9 l p)) (unitsU (allX9 (cX9 l p))).1).length:=by rw [eL,aimsP_len]
  refine .ite (fun hz=>?_) fun _=>.asrt ⟨rfl,rfl⟩ (.asrt ⟨⟨Int.le_refl _,by simp only; omega,eLen⟩,fun i i0 i1=>?_⟩ .yes)
  ·rw [eN,eLen] at hz
   simp at hz
  ·show (rd .aim (cX9 l p).2.1.R.L i).P=_∧(rd .aim (cX9 l p).2.1.R.L i).S=_
   rw [eL,aimsP_rd _ _ _ i0 i1]
   exact ⟨rfl,rfl⟩
def good2A (args:List AV):Prop:=∃ (l:List Fu.Op) (p:Fu.Spec),args=[.view .op l,.agg (encSpec p)]∧∀ o ∈ l,(o.D.length:Int)≤17592186044415
theorem conTac_valid:ValidCon c247.P 3 (lawCon good2A):=by
 refine con_ofW (n:=60) (l:=stX9) c247_good (fun q hq σ=>?_) (by kernel_rfl) fun args r hr=>?_
 ·rcases List.mem_cons.1 hq with rfl | hq
  ·exact weak_v1X9 σ
  ·rcases List.mem_cons.1 hq with rfl | hq
   ·exact weak_v2X9 σ
   ·cases hq
 ·obtain ⟨⟨l,p,h1,h2⟩,h3⟩:=hr
  cases h3
  subst h1
  obtain ⟨v,h4,h5⟩:=tacT_tru (p:=p) h2
  exact ⟨_,v,AsArgs.refl _,h4,by rw [fTac]; exact h5⟩
end Go.Fx
