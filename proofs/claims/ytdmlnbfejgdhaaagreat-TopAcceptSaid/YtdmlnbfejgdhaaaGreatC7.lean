import Derived.Test.YtdmlnbfejgdhaaaGreatC6
namespace Go.Fx
open Go Go.Proofs
abbrev APk:=List Fu.Ape × Int × Int × List (Int × Fu.Ape) × List Int
def hPk (x:APk):Heap:=[(0,.imap .ape x.2.2.2.1),(1,.cells [.map 0,.own 3,.int .i64 x.2.2.1]),(2,.cells [.ptr 1 0]),(3,.rows (.int .i64) 3 x.2.2.2.2)]
def TP1 (x:APk × Int):St:=⟨puts (J 157) [(0,.view .ape x.1.1),(2,.int .i64 x.1.2.1),(8,.ptr 2 0),(9,.nils),(28,.view .ape x.1.1),(29,.int .i64 x.1.1.length),(30,.int .i64 x.2)],hPk x.1,4⟩
def sP1:List Sh:=sets (Js 157) [(0,.keep),(2,.int),(8,.keep),(9,.keep),(28,.keep),(29,.int),(30,.int)]
def eP1:List Sh:=sets (Js 157) [(0,.keep),(2,.int),(8,.keep),(9,.keep)]
def fPk (ss:List Sh) (σ:St):St:=norm2 3 [.cell 1 1] [0,1,2,3] ss (ownCell 1 1 (.int .i64) 3 σ)
theorem weak_fPk (ss:List Sh) (σ:St):Weak 3 σ (fPk ss σ):=(Weak.ownCell 3 1 1 (.int .i64) 3 σ).trans (Weak.norm2 3 [.cell 1 1] [0,1,2,3] ss _)
def EP1 (x:APk):Ex × St:=(.exit 0,⟨puts (J 157) [(0,.view .ape x.1),(2,.int .i64 x.2.1),(8,.ptr 2 0),(9,.nils)],hPk x,4⟩)
def nxtP1 (x:APk) (i:Int):APk:=bif decide (laxA (rd .ape x.1 i) x.2.1 < 0) then (x.1,x.2.1,x.2.2.1,mdel (mput x.2.2.2.1 (rd .ape x.1 i).ID (rd .ape x.1 i)) (rd .ape x.1 i).ID,x.2.2.2.2 ++ [(rd .ape x.1 i).ID]) else (x.1,x.2.1,x.2.2.1,mput x.2.2.2.1 (rd .ape x.1 i).ID (rd .ape x.1 i),x.2.2.2.2)
theorem bP1 (x : APk) (i : Int) : roundN c98 60 150 (loopAt c98.P 150 6) (fPk sP1) (fPk eP1) (TP1 (x, i)) =
    .ite (decide (i < x.1.length)) (.asrt (0≤i∧i < x.1.length) (.ite (decide (laxA (rd .ape x.1 i) x.2.1 < 0)) (.asrt ((x.2.2.2.2 ++ [(rd .ape x.1 i).ID]).length*8≤140737488355328)
      (.ret (.normal,TP1 ((x.1,x.2.1,x.2.2.1,mdel (mput x.2.2.2.1 (rd .ape x.1 i).ID (rd .ape x.1 i)) (rd .ape x.1 i).ID,x.2.2.2.2 ++ [(rd .ape x.1 i).ID]),IntKind.i64.wrap (i+1)))))
      (.ret (.normal,TP1 ((x.1,x.2.1,x.2.2.1,mput x.2.2.2.1 (rd .ape x.1 i).ID (rd .ape x.1 i),x.2.2.2.2),IntKind.i64.wrap (i+1)))))) (.ret (EP1 x)):=by kernel_rfl
def gP1 (σ:St):Option (APk × Int) :=
 match nth σ.tmps 0,nth σ.tmps 2,nth σ.tmps 30,σ.heap with
 | .view .ape A,.int .i64 n,.int .i64 i,[(_,.imap .ape by'),(_,.cells [_,_,.int .i64 c]),_,(_,.rows (.int .i64) _ g)]=>some ((A,n,c,by',g),i)
 | _,_,_,_=>none
def okP1 (x:APk) (_:Int):Prop:=(x.2.2.2.2.length+1)*8≤140737488355328
def LP1:LoopCon:=boundF 3 (fPk sP1) TP1 gP1 (fun x=>x.1.length) okP1 nxtP1 EP1
theorem lP1 (hs:SubOf c98.P 150 (.loop (loopAt c98.P 150 6))):SoundLoop c98 (loopAt c98.P 150 6) LP1 :=
 bound_fold (C:=c98) (g:=150) (l:=6) c98_good 60 3 _ _ (weak_fPk sP1) (weak_fPk eP1) hs TP1 gP1 (fun x=>x.1.length) okP1 nxtP1 EP1
  (fun _=>by intro h; cases h) (fun x i=>by unfold nxtP1; cases decide (laxA (rd .ape x.1 i) x.2.1 < 0) <;> rfl)
  (fun x i h0 hi hm hok=>.of_eq (bP1 x i) (by
   unfold maxI64 at hm
   rw [wrap_fits (n:=i+1) (by omega) (by omega)]
   refine (Tree.out_ite_true (decide_eq_true hi)).2 ⟨⟨h0,hi⟩,?_⟩
   unfold nxtP1
   cases h:decide (laxA (rd .ape x.1 i) x.2.1 < 0) with
   | true=>exact (Tree.out_ite_true rfl).2 ⟨by rw [List.length_append]; exact hok,rfl⟩
   | false=>exact (Tree.out_ite_false rfl).2 rfl))
  (fun x i hi=>.of_eq (bP1 x i) ((Tree.out_ite_false (decide_eq_false (by omega))).2 rfl))
noncomputable def c99:Cfg:=c98.addLoop 150 6 LP1
theorem c99_good:GoodCfg c99:=c98_good.addLoop (by unfold OneLoop; kernel_rfl) lP1
abbrev CPk:=Int × Int × List (Int × Fu.Ape) × List Int
abbrev AP2:=List Fu.Ape × CPk × List Fu.Ape
def hP2 (c:CPk) (th:List Fu.Ape):Heap:=[(0,.imap .ape c.2.2.1),(1,.cells [.map 0,.own 3,.int .i64 c.2.1]),(2,.cells [.ptr 1 0]),(3,.rows (.int .i64) 3 c.2.2.2),(4,.rows .ape 93 th)]
def stillFn:AV:=.fn (.func 183) [] [.ptr 2 0]
def TP2 (x:AP2 × Int):St:=⟨puts (J 157) [(2,.int .i64 x.1.2.1.1),(8,.ptr 2 0),(9,.own 4),(12,stillFn),(52,.view .ape x.1.1),(53,.int .i64 x.1.1.length),(54,.int .i64 x.2)],hP2 x.1.2.1 x.1.2.2,5⟩
def sP2:List Sh:=sets (Js 157) [(2,.int),(8,.keep),(9,.keep),(12,.keep),(52,.keep),(53,.int),(54,.int)]
def eP2:List Sh:=sets (Js 157) [(2,.int),(8,.keep),(9,.keep),(12,.keep)]
def fP2 (ss:List Sh) (σ:St):St:=norm2 4 [.tmp 9] [0,1,2,3,4] ss (ownSlot 9 .ape 93 σ)
theorem weak_fP2 (ss:List Sh) (σ:St):Weak 4 σ (fP2 ss σ):=(Weak.ownSlot 4 9 .ape 93 σ).trans (Weak.norm2 4 [.tmp 9] [0,1,2,3,4] ss _)
def EP2 (x:AP2):Ex × St:=(.exit 2,⟨puts (J 157) [(2,.int .i64 x.2.1.1),(8,.ptr 2 0),(9,.own 4),(12,stillFn)],hP2 x.2.1 x.2.2,5⟩)
def stillA (by':List (Int × Fu.Ape)) (a:Fu.Ape):Bool:=(mget by' a.ID).isSome && eqApeB a ((mget by' a.ID).getD ⟨0,0,0,0,0⟩)
def nxtP2 (x:AP2) (i:Int):AP2:=(x.1,x.2.1,bif stillA x.2.1.2.2.1 (rd .ape x.1 i) then x.2.2 ++ [rd .ape x.1 i] else x.2.2)
theorem bP2 (x : AP2) (i : Int) : roundN c99 60 150 (loopAt c99.P 150 14) (fP2 sP2) (fP2 eP2) (TP2 (x, i)) =
    .ite (decide (i < x.1.length)) (.asrt (0≤i∧i < x.1.length) (.ite (stillA x.2.1.2.2.1 (rd .ape x.1 i)) (.asrt ((x.2.2 ++ [rd .ape x.1 i]).length*40≤140737488355328) (.ret (.normal,TP2 ((x.1,x.2.1,x.2.2 ++ [rd .ape x.1 i]),IntKind.i64.wrap (i+1)))))
      (.ret (.normal,TP2 (x,IntKind.i64.wrap (i+1)))))) (.ret (EP2 x)):=by kernel_rfl
def gP2 (σ:St):Option (AP2 × Int) :=
 match nth σ.tmps 2,nth σ.tmps 52,nth σ.tmps 54,σ.heap with
 | .int .i64 n,.view .ape l,.int .i64 i,[(_,.imap .ape by'),(_,.cells [_,_,.int .i64 c]),_,(_,.rows (.int .i64) _ g),(_,.rows .ape _ th)]=>some ((l,(n,c,by',g),th),i)
 | _,_,_,_=>none
def okP2 (x:AP2) (_:Int):Prop:=(x.2.2.length+1)*40≤140737488355328
def LP2:LoopCon:=boundF 4 (fP2 sP2) TP2 gP2 (fun x=>x.1.length) okP2 nxtP2 EP2
theorem lP2 (hs:SubOf c99.P 150 (.loop (loopAt c99.P 150 14))):SoundLoop c99 (loopAt c99.P 150 14) LP2 :=
 bound_fold (C:=c99) (g:=150) (l:=14) c99_good 60 4 _ _ (weak_fP2 sP2) (weak_fP2 eP2) hs TP2 gP2 (fun x=>x.1.length) okP2 nxtP2 EP2
  (fun _=>by intro h; cases h) (fun _ _=>rfl)
  (fun x i h0 hi hm hok=>.of_eq (bP2 x i) (by
   unfold maxI64 at hm
   rw [wrap_fits (n:=i+1) (by omega) (by omega)]
   refine (Tree.out_ite_true (decide_eq_true hi)).2 ⟨⟨h0,hi⟩,?_⟩
   unfold nxtP2
   cases h:stillA x.2.1.2.2.1 (rd .ape x.1 i) with
   | true=>exact (Tree.out_ite_true rfl).2 ⟨by rw [List.length_append]; exact hok,rfl⟩
   | false=>exact (Tree.out_ite_false rfl).2 rfl))
  (fun x i hi=>.of_eq (bP2 x i) ((Tree.out_ite_false (decide_eq_false (by omega))).2 rfl))
noncomputable def c100:Cfg:=c99.addLoop 150 14 LP2
theorem c100_good:GoodCfg c100:=c99_good.addLoop (by unfold OneLoop; kernel_rfl) lP2
abbrev AP3:=CPk × List Fu.Ape
def hP3 (x:AP3):Heap:=[(0,.imap .ape x.1.2.2.1),(1,.cells [.map 0,.own 5,.int .i64 x.1.2.1]),(2,.cells [.ptr 1 0]),(4,.rows .ape 93 x.2),(5,.rows (.int .i64) 3 x.1.2.2.2)]
def TP3 (x:AP3 × Int):St:=⟨puts (J 157) [(2,.int .i64 x.1.1.1),(8,.ptr 2 0),(9,.own 4),(12,stillFn),(84,.own 4),(85,.int .i64 x.1.2.length),(86,.int .i64 x.2)],hP3 x.1,6⟩
def sP3:List Sh:=sets (Js 157) [(2,.int),(8,.keep),(9,.keep),(12,.keep),(84,.keep),(85,.int),(86,.int)]
def eP3:List Sh:=sets (Js 157) [(8,.keep),(9,.keep),(12,.keep)]
def pickH:List Nat→Heap→Heap
 | [],_=>[]
 | i :: l,h=>match h.get i with
  | some x=>(i,x) :: pickH l h
  | none=>pickH l h
theorem pickH_get:∀ (l:List Nat) (h:Heap) (b:Nat) (x:Blk),(pickH l h).get b=some x→h.get b=some x
 | [],_,_,_,hb=>by cases hb
 | i :: l,h,b,x,hb=>by
  unfold pickH at hb
  cases hg:h.get i with
  | none=>rw [hg] at hb; exact pickH_get l h b x hb
  | some y =>
   rw [hg] at hb
   by_cases e:i=b
   ·subst e
    rw [get_cons,if_pos rfl] at hb
    rw [hg]; exact hb
   ·rw [get_cons,if_neg e] at hb
    exact pickH_get l h b x hb
def ordH (ids:List Nat) (σ:St):St:={ σ with heap:=pickH ids σ.heap }
theorem Weak.ordH (n0:Nat) (ids:List Nat) (σ:St):Weak n0 σ (ordH ids σ) :=
 fun _ _ _ _ φ _ _ _ h1 h2=>⟨φ,⟨h1.tmps,⟨h1.mem.heap.sub fun b x hb=>pickH_get ids _ b x hb,h1.mem.inj,h1.mem.rng,h1.mem.below,h1.mem.sb⟩,h1.fresh,h1.defers⟩,h2⟩
def fP3 (ss:List Sh) (σ:St):St:=ordH [0,1,2,4,5] (norm2 5 [.cell 1 1] [0,1,2,4,5] ss σ)
theorem weak_fP3 (ss:List Sh) (σ:St):Weak 5 σ (fP3 ss σ):=(Weak.norm2 5 [.cell 1 1] [0,1,2,4,5] ss σ).trans (Weak.ordH 5 [0,1,2,4,5] _)
def EP3 (x:AP3):Ex × St:=(.exit 4,⟨puts (J 157) [(8,.ptr 2 0),(9,.own 4),(12,stillFn)],hP3 x,6⟩)
def goA (c:CPk) (a:Fu.Ape):CPk:=bif a.ID == c.2.1 || decide (laxA a c.1 > 0) then c else bif !(mget c.2.2.1 c.2.1).isSome || beatsV a.V ((mget c.2.2.1 c.2.1).getD ⟨0,0,0,0,0⟩).V 4 then (c.1,a.ID,c.2.2.1,c.2.2.2) else (c.1,c.2.1,mdel c.2.2.1 a.ID,c.2.2.2 ++ [a.ID])
def nxtP3 (x:AP3) (i:Int):AP3:=(goA x.1 (rd .ape x.2 i),x.2)
theorem bP3 (x : AP3) (i : Int) : roundN c100 60 150 (loopAt c100.P 150 24) (fP3 sP3) (fP3 eP3) (TP3 (x, i)) =
    .ite (decide (i < x.2.length)) (.asrt (0≤i∧i < x.2.length) (.asrt (0≤i∧i < x.2.length) (.ite ((rd .ape x.2 i).ID == x.1.2.1 || decide (laxA (rd .ape x.2 i) x.1.1 > 0)) (.ret (.normal,TP3 (x,IntKind.i64.wrap (i+1))))
      (.ite (!(mget x.1.2.2.1 x.1.2.1).isSome || beatsV (rd .ape x.2 i).V ((mget x.1.2.2.1 x.1.2.1).getD ⟨0,0,0,0,0⟩).V 4) (.ret (.normal,TP3 (((x.1.1,(rd .ape x.2 i).ID,x.1.2.2.1,x.1.2.2.2),x.2),IntKind.i64.wrap (i+1))))
        (.asrt ((x.1.2.2.2 ++ [(rd .ape x.2 i).ID]).length*8≤140737488355328) (.ret (.normal,TP3 (((x.1.1,x.1.2.1,mdel x.1.2.2.1 (rd .ape x.2 i).ID,x.1.2.2.2 ++ [(rd .ape x.2 i).ID]),x.2),IntKind.i64.wrap (i+1))))))))) (.ret (EP3 x)):=by kernel_rfl
def gP3 (σ:St):Option (AP3 × Int) :=
 match nth σ.tmps 2,nth σ.tmps 86,σ.heap with
 | .int .i64 n,.int .i64 i,[(_,.imap .ape by'),(_,.cells [_,_,.int .i64 c]),_,(_,.rows .ape _ th),(_,.rows (.int .i64) _ g)]=>some (((n,c,by',g),th),i)
 | _,_,_=>none
def okP3 (x:AP3) (_:Int):Prop:=(x.1.2.2.2.length+1)*8≤140737488355328
def LP3:LoopCon:=boundF 5 (fP3 sP3) TP3 gP3 (fun x=>x.2.length) okP3 nxtP3 EP3
theorem lP3 (hs:SubOf c100.P 150 (.loop (loopAt c100.P 150 24))):SoundLoop c100 (loopAt c100.P 150 24) LP3 :=
 bound_fold (C:=c100) (g:=150) (l:=24) c100_good 60 5 _ _ (weak_fP3 sP3) (weak_fP3 eP3) hs TP3 gP3 (fun x=>x.2.length) okP3 nxtP3 EP3
  (fun _=>by intro h; cases h) (fun _ _=>rfl)
  (fun x i h0 hi hm hok=>.of_eq (bP3 x i) (by
   unfold maxI64 at hm
   rw [wrap_fits (n:=i+1) (by omega) (by omega)]
   refine (Tree.out_ite_true (decide_eq_true hi)).2 ⟨⟨h0,hi⟩,⟨h0,hi⟩,?_⟩
   unfold nxtP3 goA
   cases h:((rd .ape x.2 i).ID == x.1.2.1 || decide (laxA (rd .ape x.2 i) x.1.1 > 0)) with
   | true=>exact (Tree.out_ite_true rfl).2 rfl
   | false =>
    refine (Tree.out_ite_false rfl).2 ?_
    cases h2:(!(mget x.1.2.2.1 x.1.2.1).isSome || beatsV (rd .ape x.2 i).V ((mget x.1.2.2.1 x.1.2.1).getD ⟨0,0,0,0,0⟩).V 4) with
    | true=>exact (Tree.out_ite_true rfl).2 rfl
    | false=>exact (Tree.out_ite_false rfl).2 ⟨by rw [List.length_append]; exact hok,rfl⟩))
  (fun x i hi=>.of_eq (bP3 x i) ((Tree.out_ite_false (decide_eq_false (by omega))).2 rfl))
noncomputable def c101:Cfg:=c100.addLoop 150 24 LP3
theorem c101_good:GoodCfg c101:=c100_good.addLoop (by unfold OneLoop; kernel_rfl) lP3
def TPx (x:AP3 × Int):St:=⟨puts (J 19) [(0,.own 4),(1,stillFn),(7,.int .i64 x.1.2.length),(8,.int .i64 x.2)],hP3 x.1,126⟩
def sPx:List Sh:=sets (Js 19) [(0,.keep),(1,.keep),(7,.int),(8,.int)]
def ePx:List Sh:=sets (Js 19) [(4,.int)]
def RPx (x:AP3 × Int):Ex × St:=(.ret,⟨puts (J 19) [(4,.int .i64 x.2)],hP3 x.1,126⟩)
def EPx (x:AP3):Ex × St:=(.exit 0,⟨J 19,hP3 x,126⟩)
theorem bPx (x : AP3) (i : Int) : roundN c101 60 124 (loopAt c101.P 124 2) (norm2 126 [] [0, 1, 2, 4, 5] sPx) (norm2 126 [] [0, 1, 2, 4, 5] ePx) (TPx (x, i)) =
    .ite (decide (i < x.2.length)) (.asrt (0≤i∧i < x.2.length) (.asrt (0≤i∧i < x.2.length) (.ite (stillA x.1.2.2.1 (rd .ape x.2 i)) (.ret (RPx (x,i))) (.ret (.normal,TPx (x,IntKind.i64.wrap (i+1))))))) (.ret (EPx x)):=by kernel_rfl
def firstS (by':List (Int × Fu.Ape)):List Fu.Ape→Int→Option Int
 | [],_=>none
 | a :: l,i=>bif stillA by' a then some i else firstS by' l (i+1)
def LxPx (x:AP3 × Int):Tree (Ex × St):=.asrt (0≤x.2∧x.2≤x.1.2.length∧(x.1.2.length:Int) < 20) (optT 0 (firstS x.1.1.2.2.1 (x.1.2.drop x.2.toNat) x.2) (fun j=>.ret (RPx (x.1,j))) (.ret (EPx x.1)))
def gPx (σ:St):Option (AP3 × Int) :=
 match nth σ.tmps 8,σ.heap with
 | .int .i64 i,[(_,.imap .ape by'),(_,.cells [_,_,.int .i64 c]),_,(_,.rows .ape _ th),(_,.rows (.int .i64) _ g)]=>some (((0,c,by',g),th),i)
 | _,_=>none
def LPx:LoopCon:=entry 126 (norm2 126 [] [0,1,2,4,5] sPx) TPx gPx LxPx
theorem lPx (hs:SubOf c101.P 124 (.loop (loopAt c101.P 124 2))):SoundLoop c101 (loopAt c101.P 124 2) LPx:=by
 refine loop_rule3 (C:=c101) (g:=124) (l:=2) c101_good 60 126 _ _ (Weak.norm2 126 [] [0,1,2,4,5] sPx) (Weak.norm2 126 [] [0,1,2,4,5] ePx) hs TPx LxPx (fun x=>(x.1.2.length-x.2).toNat) (fun x q h=>?_) entry_out
 obtain ⟨⟨c,th⟩,i⟩:=x
 obtain ⟨⟨h0,h1,h2⟩,h⟩:=Tree.out_asrt.1 h
 simp only at h0 h1 h2 h
 refine .of_eq (bPx (c,th) i) ?_
 simp only
 rw [wrap_fits (n:=i+1) (by omega) (by omega)]
 refine Tree.wp_ite.2 ⟨fun hi=>?_,fun hi=>?_⟩
 ·have hi:=of_decide_eq_true hi
  rw [drop_rd (r:=.ape) (xs:=th) h0 hi] at h
  unfold firstS at h
  refine ⟨⟨h0,hi⟩,⟨h0,hi⟩,Tree.wp_ite.2 ⟨fun hb=>?_,fun hb=>?_⟩⟩
  ·rw [hb] at h
   exact Rnd.ret (optT_out.1 h)
  ·rw [hb] at h
   exact Rnd.go (m:=fun x:AP3 × Int=>(x.1.2.length-x.2).toNat) (x:=((c,th),i)) ((c,th),i+1) (by simp only; omega) (Tree.out_asrt.2 ⟨⟨by simp only; omega,by simp only; omega,h2⟩,h⟩)
 ·have hi:=of_decide_eq_false hi
  rw [drop_end (xs:=th) (by omega)] at h
  exact Rnd.out (optT_out.1 h)
noncomputable def c102:Cfg:=c101.addLoop 124 2 LPx
theorem c102_good:GoodCfg c102:=c101_good.addLoop (by unfold OneLoop; kernel_rfl) lPx
def putA (c:CPk) (a:Fu.Ape):CPk:=bif decide (laxA a c.1 < 0) then (c.1,c.2.1,mdel (mput c.2.2.1 a.ID a) a.ID,c.2.2.2 ++ [a.ID]) else (c.1,c.2.1,mput c.2.2.1 a.ID a,c.2.2.2)
def pick1 (A:List Fu.Ape) (cur now:Int):CPk:=A.foldl putA (now,cur,[],[])
def thereA (A:List Fu.Ape) (cur now:Int):List Fu.Ape:=(sortA A).filter (stillA (pick1 A cur now).2.2.1)
def pick3 (A:List Fu.Ape) (cur now:Int):CPk:=(thereA A cur now).foldl goA (pick1 A cur now)
def pickA (A:List Fu.Ape) (cur now:Int):Int × List Int :=
 bif !mayA A now then (-1,[]) else bif ((thereA A cur now).length:Int) == 0 then (-1,(pick1 A cur now).2.2.2) else bif fitsA (thereA A cur now) now then ((rd .ape (thereA A cur now) 0).ID,(pick1 A cur now).2.2.2)
 else bif (mget (pick3 A cur now).2.2.1 (pick3 A cur now).2.1).isSome then ((pick3 A cur now).2.1,(pick3 A cur now).2.2.2)
 else (match firstS (pick3 A cur now).2.2.1 (thereA A cur now) 0 with | some j=>(rd .ape (thereA A cur now) j).ID | none=>-1,(pick3 A cur now).2.2.2)
def intsB (l:List Int):List Blk:=[.rows (.int .i64) 3 l]
def p1F (A:List Fu.Ape) (cur now:Int):APk:=foldI nxtP1 ((A.length:Int)-0).toNat (A,now,cur,[],[]) 0
def p2F (x:APk):AP2:=foldI nxtP2 (((sortA x.1).length:Int)-0).toNat (sortA x.1,x.2,[]) 0
def p3F (x:AP2):AP3:=foldI nxtP3 ((x.2.2.length:Int)-0).toNat (x.2.1,x.2.2) 0
def pickT4 (x:AP3):Tree (AV × List Blk):=.ite (mget x.1.2.2.1 x.1.2.1).isSome (.ret (.tup [.int .i64 x.1.2.1,.own 0],intsB x.1.2.2.2)) (.asrt (126=126∧TPx (((0,x.1.2),x.2),0)=TPx (((0,x.1.2),x.2),0)) (.asrt (0≤(0:Int)∧(0:Int)≤x.2.length∧(x.2.length:Int) < 20)
 (.ite (firstS x.1.2.2.1 (x.2.drop (0:Int).toNat) 0).isSome (.ite (decide ((firstS x.1.2.2.1 (x.2.drop (0:Int).toNat) 0).getD 0 < 0)) (.ret (.tup [.lit .i64 (-1),.own 0],intsB x.1.2.2.2))
  (.asrt (inA x.2 ((firstS x.1.2.2.1 (x.2.drop (0:Int).toNat) 0).getD 0)) (.asrt (inA x.2 ((firstS x.1.2.2.1 (x.2.drop (0:Int).toNat) 0).getD 0)) (.ret (.tup [.int .i64 (rd .ape x.2 ((firstS x.1.2.2.1 (x.2.drop (0:Int).toNat) 0).getD 0)).ID,.own 0],intsB x.1.2.2.2)))))
  (.ret (.tup [.lit .i64 (-1),.own 0],intsB x.1.2.2.2)))))
def pickT3 (x:AP2):Tree (AV × List Blk):=.ite ((x.2.2.length:Int) == 0) (.ret (.tup [.lit .i64 (-1),.own 0],intsB x.2.1.2.2.2)) (.asrt ((x.2.2.length:Int) < 20) (.ite (fitsA x.2.2 x.2.1.1) (.asrt (inA x.2.2 0) (.asrt (inA x.2.2 0) (.ret (.tup [.int .i64 (rd .ape x.2.2 0).ID,.own 0],intsB x.2.1.2.2.2))))
 (.asrt (5=5∧TP3 ((x.2.1,x.2.2),0)=TP3 ((x.2.1,x.2.2),0)) (.asrt (0≤(0:Int)∧(x.2.2.length:Int)≤maxI64∧okI nxtP3 (fun _ _=>(none:Option Unit)) okP3 ((x.2.2.length:Int)-0).toNat (x.2.1,x.2.2) 0) (pickT4 (p3F x))))))
def pickT2 (x:APk):Tree (AV × List Blk):=.asrt ((x.1.length:Int) < 20) (.asrt (4=4∧TP2 ((sortA x.1,x.2,[]),0)=TP2 ((sortA x.1,x.2,[]),0)) (.asrt (0≤(0:Int)∧((sortA x.1).length:Int)≤maxI64∧okI nxtP2 (fun _ _=>(none:Option Unit)) okP2 (((sortA x.1).length:Int)-0).toNat (sortA x.1,x.2,[]) 0) (pickT3 (p2F x))))
def pickT (A:List Fu.Ape) (cur now:Int):Tree (AV × List Blk):=.asrt ((A.length:Int) < 17592186044416) (.ite (!mayA A now) (.ret (.tup [.lit .i64 (-1),.nils],[])) (.asrt (3=3∧TP1 ((A,now,cur,[],[]),0)=TP1 ((A,now,cur,[],[]),0))
 (.asrt (0≤(0:Int)∧(A.length:Int)≤maxI64∧okI nxtP1 (fun _ _=>(none:Option Unit)) okP1 ((A.length:Int)-0).toNat (A,now,cur,[],[]) 0) (pickT2 (p1F A cur now)))))
theorem fPick (A:List Fu.Ape) (cur now:Int):callC c102 60 150 [.view .ape A,.int .i64 cur,.int .i64 now]=pickT A cur now:=by kernel_rfl
theorem putA_len (c:CPk) (a:Fu.Ape):(putA c a).2.2.2.length≤c.2.2.2.length+1:=by
 unfold putA
 cases decide (laxA a c.1 < 0) <;> simp
theorem goA_len (c:CPk) (a:Fu.Ape):(goA c a).2.2.2.length≤c.2.2.2.length+1:=by
 unfold goA
 cases (a.ID == c.2.1 || decide (laxA a c.1 > 0)) with
 | true=>simp
 | false =>
  simp only [cond_false]
  cases (!(mget c.2.2.1 c.2.1).isSome || beatsV a.V ((mget c.2.2.1 c.2.1).getD ⟨0,0,0,0,0⟩).V 4) <;> simp
theorem foldP1 {A : List Fu.Ape} (k : Nat) : ∀ (c : CPk) (i : Int), 0 ≤ i → i + k = A.length → c.2.2.2.length + k ≤ 1000 →
    foldI nxtP1 k (A,c) i=(A,(A.drop i.toNat).foldl putA c)∧okI nxtP1 (fun _ _=>(none:Option Unit)) okP1 k (A,c) i:=by
  induction k with
  | zero=>intro c i h0 h1 h2; rw [drop_end (by omega)]; exact ⟨rfl,trivial⟩
  | succ k ih =>
    intro c i h0 h1 h2
    have hd:=drop_rd (r:=.ape) (xs:=A) h0 (by omega)
    have e:nxtP1 (A,c) i=(A,putA c (rd .ape A i)):=by
      unfold nxtP1 putA
      simp only
      cases decide (laxA (rd .ape A i) c.1 < 0) <;> rfl
    have hl:=putA_len c (rd .ape A i)
    obtain ⟨k1,k2⟩:=ih (putA c (rd .ape A i)) (i+1) (by omega) (by omega) (by omega)
    refine ⟨?_,⟨by show (c.2.2.2.length+1)*8≤140737488355328; omega,fun _=>by rw [e]; exact k2⟩⟩
    unfold foldI
    rw [e,hd,List.foldl_cons]
    exact k1
theorem foldP2 {l : List Fu.Ape} {c : CPk} (k : Nat) : ∀ (th : List Fu.Ape) (i : Int), 0 ≤ i → i + k = l.length → th.length + k ≤ 1000 →
    foldI nxtP2 k (l,c,th) i=(l,c,th ++ (l.drop i.toNat).filter (stillA c.2.2.1))∧okI nxtP2 (fun _ _=>(none:Option Unit)) okP2 k (l,c,th) i:=by
  induction k with
  | zero=>intro th i h0 h1 h2; rw [drop_end (by omega)]; exact ⟨by simp [foldI],trivial⟩
  | succ k ih =>
    intro th i h0 h1 h2
    have hd:=drop_rd (r:=.ape) (xs:=l) h0 (by omega)
    have e:nxtP2 (l,c,th) i=(l,c,bif stillA c.2.2.1 (rd .ape l i) then th ++ [rd .ape l i] else th):=rfl
    have hl:(bif stillA c.2.2.1 (rd .ape l i) then th ++ [rd .ape l i] else th).length≤th.length+1:=by
      cases stillA c.2.2.1 (rd .ape l i) <;> simp
    obtain ⟨k1,k2⟩:=ih (bif stillA c.2.2.1 (rd .ape l i) then th ++ [rd .ape l i] else th) (i+1) (by omega) (by omega) (by omega)
    refine ⟨?_,⟨by show (th.length+1)*40≤140737488355328; omega,fun _=>by rw [e]; exact k2⟩⟩
    unfold foldI
    rw [e,hd,List.filter_cons]
    refine k1.trans ?_
    cases stillA c.2.2.1 (rd .ape l i) <;> simp
theorem foldP3 {th : List Fu.Ape} (k : Nat) : ∀ (c : CPk) (i : Int), 0 ≤ i → i + k = th.length → c.2.2.2.length + k ≤ 1000 →
    foldI nxtP3 k (c,th) i=((th.drop i.toNat).foldl goA c,th)∧okI nxtP3 (fun _ _=>(none:Option Unit)) okP3 k (c,th) i:=by
  induction k with
  | zero=>intro c i h0 h1 h2; rw [drop_end (by omega)]; exact ⟨rfl,trivial⟩
  | succ k ih =>
    intro c i h0 h1 h2
    have hd:=drop_rd (r:=.ape) (xs:=th) h0 (by omega)
    have e:nxtP3 (c,th) i=(goA c (rd .ape th i),th):=rfl
    have hl:=goA_len c (rd .ape th i)
    obtain ⟨k1,k2⟩:=ih (goA c (rd .ape th i)) (i+1) (by omega) (by omega) (by omega)
    refine ⟨?_,⟨by show (c.2.2.2.length+1)*8≤140737488355328; omega,fun _=>by rw [e]; exact k2⟩⟩
    unfold foldI
    rw [e,hd,List.foldl_cons]
    exact k1
theorem foldl_len {f:CPk→Fu.Ape→CPk} (h:∀ c a,(f c a).2.2.2.length≤c.2.2.2.length+1):∀ (l:List Fu.Ape) (c:CPk),(l.foldl f c).2.2.2.length≤c.2.2.2.length+l.length
 | [],_=>by simp
 | a :: l,c=>by
  have h1:=foldl_len h l (f c a)
  have h2:=h c a
  rw [List.foldl_cons,List.length_cons]
  omega
theorem firstS_spec (by':List (Int × Fu.Ape)):∀ (l:List Fu.Ape) (i j:Int),firstS by' l i=some j→i≤j∧j < i+l.length∧stillA by' (rd .ape l (j-i))=true
 | [],_,_,h=>by cases h
 | a :: l,i,j,h=>by
  unfold firstS at h
  rw [List.length_cons]
  cases hs:stillA by' a with
  | true =>
   rw [hs] at h
   have:i=j:=by simpa using h
   subst this
   refine ⟨Int.le_refl _,by omega,?_⟩
   rw [show i-i=0 by omega]
   exact hs
  | false =>
   rw [hs] at h
   obtain ⟨h1,h2,h3⟩:=firstS_spec by' l (i+1) j h
   refine ⟨by omega,by omega,?_⟩
   have e:rd .ape (a :: l) (j-i)=rd .ape l (j-(i+1)):=by
    unfold rd
    rw [show (j-i).toNat=(j-(i+1)).toNat+1 by omega]
    rfl
   rw [e]; exact h3
theorem mayA_len {A:List Fu.Ape} {now:Int} (h:mayA A now=true):A.length≤4:=by
 unfold mayA at h
 simp only [Bool.and_eq_true,decide_eq_true_eq] at h
 omega
def pickRes (p:Int × List Int):AV × List Blk:=(.tup [.int .i64 p.1,.own 0],intsB p.2)
theorem retP {t:AV} {a:Int} {g:List Int} (h:AsArg t (.int .i64 a)):Rez (.ret (.tup [t,.own 0],intsB g)) (pickRes (a,g)):=.ret (.tup (.cons h (.cons (.refl _) .nil))) rfl
theorem pickT_rez {A:List Fu.Ape} {cur now:Int} (hl:(A.length:Int) < 17592186044416):Rez (pickT A cur now) (bif mayA A now then pickRes (pickA A cur now) else (.tup [.int .i64 (-1),.nils],[])):=by
 unfold pickA
 refine .asrt hl ?_
 cases hm:mayA A now with
 | false=>exact .itet rfl (.ret (.tup (.cons (.lit rfl) (.cons (.refl _) .nil))) rfl)
 | true =>
  have h4:=mayA_len hm
  obtain ⟨a1,a2⟩:=foldP1 (A:=A) ((A.length:Int)-0).toNat (now,cur,[],[]) 0 (Int.le_refl _) (by omega) (by simp only [List.length_nil]; omega)
  rw [show (0:Int).toNat=0 from rfl,List.drop_zero] at a1
  have e1:p1F A cur now=(A,pick1 A cur now):=a1
  have g1:=foldl_len putA_len A (now,cur,[],[])
  have hs:=sortA_len A
  obtain ⟨b1,b2⟩:=foldP2 (l:=sortA A) (c:=pick1 A cur now) (((sortA A).length:Int)-0).toNat [] 0 (Int.le_refl _) (by omega) (by simp only [List.length_nil]; omega)
  rw [show (0:Int).toNat=0 from rfl,List.drop_zero,List.nil_append] at b1
  have e2:p2F (A,pick1 A cur now)=(sortA A,pick1 A cur now,thereA A cur now):=b1
  have ht:(thereA A cur now).length≤(sortA A).length:=List.length_filter_le _ _
  have hg:(pick1 A cur now).2.2.2.length≤4:=by
   have:(pick1 A cur now).2.2.2.length≤([]:List Int).length+A.length:=g1
   simp only [List.length_nil] at this
   omega
  refine .itee rfl (.asrt ⟨rfl,rfl⟩ (.asrt ⟨Int.le_refl _,by unfold maxI64; omega,a2⟩ ?_))
  rw [e1]
  refine .asrt (by show (A.length:Int) < 20; omega) (.asrt ⟨rfl,rfl⟩ (.asrt ⟨Int.le_refl _,by unfold maxI64; show ((sortA A).length:Int)≤_; omega,b2⟩ ?_))
  rw [e2]
  simp only [Bool.not_true,cond_false,cond_true]
  generalize hth:thereA A cur now=th at ht ⊢
  cases h0:((th.length:Int) == 0) with
  | true=>exact .itet h0 (retP (.lit rfl))
  | false =>
   have hne:0 < th.length:=by
    have:(th.length:Int)≠0:=by simpa using h0
    omega
   refine .itee h0 (.asrt (by show (th.length:Int) < 20; omega) ?_)
   have in0:inA th 0:=⟨Int.le_refl _,by omega⟩
   simp only [cond_false]
   have en:(pick1 A cur now).1=now:=by
    have:∀ (l:List Fu.Ape) (c:CPk),(l.foldl putA c).1=c.1:=by
     intro l
     induction l with
     | nil=>intro c; rfl
     | cons a l ih =>
      intro c
      rw [List.foldl_cons,ih]
      unfold putA
      cases decide (laxA a c.1 < 0) <;> rfl
    exact this A _
   cases hf:fitsA th now with
   | true=>exact .itet (by show fitsA th (pick1 A cur now).1=true; rw [en]; exact hf) (.asrt in0 (.asrt in0 (retP (.refl _))))
   | false =>
    refine .itee (by show fitsA th (pick1 A cur now).1=false; rw [en]; exact hf) ?_
    obtain ⟨c1,c2⟩:=foldP3 (th:=th) ((th.length:Int)-0).toNat (pick1 A cur now) 0 (Int.le_refl _) (by omega) (by omega)
    rw [show (0:Int).toNat=0 from rfl,List.drop_zero] at c1
    have e3:p3F (sortA A,pick1 A cur now,th)=(pick3 A cur now,th):=by unfold pick3; rw [hth]; exact c1
    refine .asrt (by simp) (.asrt ⟨Int.le_refl _,by unfold maxI64; show (th.length:Int)≤_; omega,c2⟩ ?_)
    rw [e3]
    generalize pick3 A cur now=d
    simp only [cond_false]
    cases hi:(mget d.2.2.1 d.2.1).isSome with
    | true=>exact .itet hi (retP (.refl _))
    | false =>
     refine .itee hi (.asrt ⟨rfl,rfl⟩ (.asrt ⟨Int.le_refl _,by simp only; omega,by simp only; omega⟩ ?_))
     simp only [cond_false]
     rw [show (0:Int).toNat=0 from rfl,List.drop_zero]
     cases hj:firstS d.2.2.1 th 0 with
     | none=>exact .itee rfl (retP (.lit rfl))
     | some j =>
      obtain ⟨j1,j2,_⟩:=firstS_spec _ _ _ _ hj
      have inj:inA th j:=⟨j1,by omega⟩
      exact .itet rfl (.itee (decide_eq_false (by simp only [Option.getD_some]; omega)) (.asrt inj (.asrt inj (retP (.refl _)))))
def conPick0:Con:=resCon (d3 (dView .ape) dInt dInt) (fun x=>(x.1.length:Int) < 17592186044416) fun x=>bif mayA x.1 x.2.2 then pickRes (pickA x.1 x.2.1 x.2.2) else (.tup [.int .i64 (-1),.nils],[])
theorem conPick0_valid:ValidCon c102.P 150 conPick0:=resCon_valid c102_good 60 (by kernel_rfl) fun x h=>⟨_,fPick x.1 x.2.1 x.2.2,pickT_rez h⟩
def conPick:Con:=resCon (d3 (dView .ape) dInt dInt) (fun x=>(x.1.length:Int) < 17592186044416) fun x=>pickRes (pickA x.1 x.2.1 x.2.2)
theorem conPick_valid:ValidCon c102.P 150 conPick:=conPick0_valid.nilTail fun args r hr=>by
 unfold conPick resCon at hr
 unfold conPick0 resCon
 split at hr
 ·rename_i x hx
  obtain ⟨h1,h2⟩:=hr
  cases hm:mayA x.1 x.2.2 with
  | true=>exact .inl ⟨_,.refl _,h1,by simp only [hm,cond_true]; exact h2⟩
  | false =>
   refine .inr ⟨.int .i64 (-1),[],.int .i64,3,?_,h1,?_⟩
   ·rw [← h2]
    have e:pickA x.1 x.2.1 x.2.2=(-1,[]):=by unfold pickA; rw [hm]; rfl
    show pickRes (pickA x.1 x.2.1 x.2.2)=_
    rw [e]
    rfl
   ·simp only [hm,cond_false]; rfl
 ·exact hr.elim
noncomputable def c103:Cfg:=c102.addCon 150 conPick
theorem c103_good:GoodCfg c103:=c102_good.addCon conPick_valid (by kernel_rfl)
end Go.Fx
namespace Go.Fx
open Go Go.Proofs
def cmpI (a b:Int):Int:=bif decide (a < b) then -1 else bif decide (a > b) then 1 else 0
theorem fCmpI (a b:Int):callC c103 60 268 [.int .i64 a,.int .i64 b]=.ite (a != a) (.ite (b != b) (.ret (.lit .i64 0,[])) (.ret (.lit .i64 (-1),[]))) (.ite (b != b) (.ret (.lit .i64 1,[])) (.ite (decide (a < b)) (.ret (.lit .i64 (-1),[])) (.ite (decide (a > b)) (.ret (.lit .i64 1,[])) (.ret (.lit .i64 0,[]))))):=by kernel_rfl
def conCmpI:Con:=plainCon (d2 dInt dInt) fun x=>.int .i64 (cmpI x.1 x.2)
theorem conCmpI_valid:ValidCon c103.P 268 conCmpI:=plainCon_valid c103_good 60 (by kernel_rfl) fun x=>⟨_,fCmpI x.1 x.2,by
 unfold cmpI
 refine .itee (by simp) (.itee (by simp) ?_)
 refine ite_rez (fun h=>.ret (.lit (by rw [h]; rfl)) rfl) fun h=>ite_rez (fun h2=>.ret (.lit (by rw [h,h2]; rfl)) rfl) fun h2=>.ret (.lit (by rw [h,h2]; rfl)) rfl⟩
noncomputable def c104:Cfg:=c103.addQuiet 268 conCmpI
theorem c104_good:GoodCfg c104:=c103_good.addQuiet conCmpI_valid plainCon_quiet
abbrev ACl:=List Int × List Int
def TCl (x:ACl × Int):St:=⟨puts (J 36) [(0,.view (.int .i64) x.1.1),(1,.view (.int .i64) x.1.2),(9,.view (.int .i64) x.1.1),(10,.int .i64 x.1.1.length),(11,.int .i64 x.2)],[],0⟩
def sCl:List Sh:=sets (Js 36) [(0,.keep),(1,.keep),(9,.keep),(10,.int),(11,.int)]
def eCl (σ:St):St:=outE 0 4 [] [] (sets (Js 36) [(4,.int)]) (sets (Js 36) [(0,.keep),(1,.keep),(4,.int)]) σ
def RCl (n:Int):Ex × St:=(.ret,⟨puts (J 36) [(4,.int .i64 n)],[],0⟩)
def QCl (x:ACl) (n:Int):Ex × St:=(.ret,⟨puts (J 36) [(0,.view (.int .i64) x.1),(1,.view (.int .i64) x.2),(4,.int .i64 n)],[],0⟩)
def ECl (x:ACl):Ex × St:=(.exit 0,⟨puts (J 36) [(0,.view (.int .i64) x.1),(1,.view (.int .i64) x.2)],[],0⟩)
theorem bCl1 (x : ACl) (i : Int) : roundN c104 60 267 (loopAt c104.P 267 2) (norm2 0 [] [] sCl) eCl (TCl (x, i)) =
    .ite (decide (i < (x.1.length:Int))) (.asrt (0≤i∧i < (x.1.length:Int)) (.ite (decide (i≥(x.2.length:Int))) (.ret (RCl 1)) (.asrt (0≤i∧i < (x.2.length:Int)) (.ite (cmpI (rd (.int .i64) x.1 i) (rd (.int .i64) x.2 i) != 0) (.ret (QCl x (cmpI (rd (.int .i64) x.1 i) (rd (.int .i64) x.2 i))))
      (.ret (.normal,TCl (x,IntKind.i64.wrap (i+1)))))))) (.ret (ECl x)):=by kernel_rfl
def gCl (σ:St):Option (ACl × Int) :=
 match nth σ.tmps 0,nth σ.tmps 1,nth σ.tmps 11 with
 | .view (.int .i64) a,.view (.int .i64) b,.int .i64 i=>some ((a,b),i)
 | _,_,_=>none
def cmpF:List Int→List Int→Option Int
 | a :: l,b :: m=>bif cmpI a b != 0 then some (cmpI a b) else cmpF l m
 | _,_=>none
def LxCl (x:ACl × Int):Tree (Ex × St):=.asrt (0≤x.2∧x.2≤(x.1.1.length:Int)∧x.1.1.length=x.1.2.length∧(x.1.1.length:Int) < 17592186044416) (optT 0 (cmpF (x.1.1.drop x.2.toNat) (x.1.2.drop x.2.toNat)) (fun n=>.ret (QCl x.1 n)) (.ret (ECl x.1)))
def LCl:LoopCon:=entry 0 (norm2 0 [] [] sCl) TCl gCl LxCl
theorem lCl1 (hs:SubOf c104.P 267 (.loop (loopAt c104.P 267 2))):SoundLoop c104 (loopAt c104.P 267 2) LCl:=by
 refine loop_rule3 (C:=c104) (g:=267) (l:=2) c104_good 60 0 _ _ (Weak.norm2 0 [] [] sCl) (weak_outE 0 4 [] [] (sets (Js 36) [(4,.int)]) (sets (Js 36) [(0,.keep),(1,.keep),(4,.int)])) hs TCl LxCl (fun x=>(x.1.1.length-x.2).toNat) (fun x q h=>?_) entry_out
 obtain ⟨⟨a,b⟩,i⟩:=x
 obtain ⟨⟨h0,h1,h2,h3⟩,h⟩:=Tree.out_asrt.1 h
 simp only at h0 h1 h2 h3 h
 refine .of_eq (bCl1 (a,b) i) ?_
 simp only
 rw [wrap_fits (n:=i+1) (by omega) (by omega)]
 refine Tree.wp_ite.2 ⟨fun hi=>?_,fun hi=>?_⟩
 ·have hi:i < (a.length:Int):=of_decide_eq_true hi
  have ha:a.drop i.toNat=rd (.int .i64) a i :: a.drop (i+1).toNat:=drop_rd (r:=.int .i64) h0 hi
  have hb:b.drop i.toNat=rd (.int .i64) b i :: b.drop (i+1).toNat:=drop_rd (r:=.int .i64) h0 (by show i < (b.length:Int); omega)
  rw [ha,hb] at h
  unfold cmpF at h
  refine ⟨⟨h0,hi⟩,Tree.wp_ite.2 ⟨fun hc=>?_,fun _=>⟨⟨h0,by omega⟩,Tree.wp_ite.2 ⟨fun hb=>?_,fun hb=>?_⟩⟩⟩⟩
  ·have:=of_decide_eq_true hc; omega
  ·rw [hb] at h; exact Rnd.ret (optT_out.1 h)
  ·rw [hb] at h
   exact Rnd.go (m:=fun x:ACl × Int=>(x.1.1.length-x.2).toNat) (x:=((a,b),i)) ((a,b),i+1) (by simp only; omega) (Tree.out_asrt.2 ⟨⟨by simp only; omega,by simp only; omega,h2,h3⟩,h⟩)
 ·have hi:¬ i < (a.length:Int):=of_decide_eq_false hi
  have e:a.drop i.toNat=[]:=by rw [List.drop_eq_nil_iff]; omega
  rw [e] at h
  exact Rnd.out (optT_out.1 h)
noncomputable def c105:Cfg:=c104.addLoop 267 2 LCl
theorem c105_good:GoodCfg c105:=c104_good.addLoop (by unfold OneLoop; kernel_rfl) lCl1
def cmpLT (a b:List Int):Tree (AV × List Blk):=.asrt (0=0∧TCl ((a,b),0)=TCl ((a,b),0)) (.asrt (0≤(0:Int)∧(0:Int)≤(a.length:Int)∧a.length=b.length∧(a.length:Int) < 17592186044416)
 (.ite (cmpF (a.drop (0:Int).toNat) (b.drop (0:Int).toNat)).isSome (.ret (.int .i64 ((cmpF (a.drop (0:Int).toNat) (b.drop (0:Int).toNat)).getD 0),[])) (.ite (decide ((a.length:Int) < b.length)) (.ret (.lit .i64 (-1),[])) (.ret (.lit .i64 0,[])))))
theorem fCmpL (a b:List Int):callC c105 60 267 [.view (.int .i64) a,.view (.int .i64) b]=cmpLT a b:=by kernel_rfl
def cmpL (a b:List Int):Int:=(cmpF a b).getD 0
def conCmpL:Con:=flatCon (d2 (dView (.int .i64)) (dView (.int .i64))) (fun x=>(x.1:List Int).length=(x.2:List Int).length∧((x.1:List Int).length:Int) < 17592186044416) fun x=>.int .i64 (cmpL x.1 x.2)
theorem conCmpL_valid:ValidCon c105.P 267 conCmpL:=flatCon_valid c105_good 60 (by kernel_rfl) fun x h=>⟨_,fCmpL x.1 x.2,by
 obtain ⟨h1,h2⟩:=h
 refine .asrt ⟨rfl,rfl⟩ (.asrt ⟨Int.le_refl _,by omega,h1,h2⟩ ?_)
 rw [show (0:Int).toNat=0 from rfl,List.drop_zero,List.drop_zero]
 unfold cmpL
 cases hc:cmpF x.1 x.2 with
 | some n=>exact .itet rfl (.ret (.refl _) rfl)
 | none=>exact .itee rfl (.itee (decide_eq_false (by omega)) (.ret (.lit rfl) rfl))⟩
noncomputable def c106:Cfg:=c105.addQuiet 267 conCmpL
theorem c106_good:GoodCfg c106:=c105_good.addQuiet conCmpL_valid flatCon_quiet
def leftJ (j:Fu.Job):Int:=bif j.On then maxI (minI (IntKind.i64.wrap (j.C-j.Ran)) (IntKind.i64.wrap (j.D-j.Ran))) 0 else 0
theorem fLeftJ (j:Fu.Job):callC c106 60 263 [.agg (encJob j)]=.ite (!j.On) (.ret (.lit .i64 0,[])) (.ret (.int .i64 (maxI (minI (IntKind.i64.wrap (j.C-j.Ran)) (IntKind.i64.wrap (j.D-j.Ran))) 0),[])):=by kernel_rfl
def conLeftJ:Con:=plainCon (d1 dJob) fun j=>.int .i64 (leftJ j)
theorem conLeftJ_valid:ValidCon c106.P 263 conLeftJ:=plainCon_valid c106_good 60 (by kernel_rfl) fun j=>⟨_,fLeftJ j,by
 unfold leftJ
 exact ite_rez (fun h=>.ret (.lit (by rw [show j.On=false by simpa using h]; rfl)) rfl) fun h=>.ret (.eq (by rw [show j.On=true by simpa using h]; rfl)) rfl⟩
noncomputable def c107:Cfg:=c106.addQuiet 263 conLeftJ
theorem c107_good:GoodCfg c107:=c106_good.addQuiet conLeftJ_valid plainCon_quiet
def ones1 (m k x:Int):Int:=IntKind.u64.wrap (andI .u64 (shrI .u64 x k) m+andI .u64 x m)
def ones2 (k x:Int):Int:=IntKind.u64.wrap (x+shrI .u64 x k)
def onesV (x:Int):Int:=andI .i64 (IntKind.i64.wrap (ones2 32 (ones2 16 (ones2 8 (andI .u64 (IntKind.u64.wrap (shrI .u64 (ones1 3689348814741910323 2 (ones1 6148914691236517205 1 x)) 4+ones1 3689348814741910323 2 (ones1 6148914691236517205 1 x))) 1085102592571150095))))) 127
theorem fOnes (x:Int):callC c107 60 61 [.int .u64 x]=.ret (.int .i64 (onesV x),[]):=by kernel_rfl
def conOnes:Con:=plainCon (d1 (dI .u64)) fun x=>.int .i64 (onesV x)
theorem conOnes_valid:ValidCon c107.P 61 conOnes:=plainCon_valid c107_good 60 (by kernel_rfl) fun x=>⟨_,fOnes x,.ret (.refl _) rfl⟩
noncomputable def c108:Cfg:=c107.addQuiet 61 conOnes
theorem c108_good:GoodCfg c108:=c107_good.addQuiet conOnes_valid plainCon_quiet
abbrev AFr:=Int × Int × Int
def TFr (x:AFr × Int):St:=⟨puts (J 43) [(1,.int .i64 x.1.1),(2,.int .i64 x.1.2.1),(8,.int .u64 x.1.2.2),(27,.int .i64 x.1.2.1),(28,.int .i64 x.2)],[],90⟩
def sFr:List Sh:=sets (Js 43) [(1,.int),(2,.int),(8,.int),(27,.int),(28,.int)]
def eFr (σ:St):St:=norm2 90 [] [] (sets (Js 43) [(2,.int),(6,.int)]) σ
def RFr (x:AFr × Int):Ex × St:=(.ret,⟨puts (J 43) [(2,.int .i64 x.1.2.1),(6,.int .i64 x.2)],[],90⟩)
def EFr (x:AFr):Ex × St:=(.exit 0,⟨puts (J 43) [(2,.int .i64 x.2.1)],[],90⟩)
def fewF (x:AFr) (i:Int):Bool:=decide (onesV (andI .u64 x.2.2 (maskV (IntKind.i64.wrap (x.2.1-i)))) < x.1)
theorem bFr1 (x : AFr) (i : Int) : roundN c108 60 264 (loopAt c108.P 264 6) (norm2 90 [] [] sFr) eFr (TFr (x, i)) =
    .ite (decide (i < x.2.1)) (.asrt (0≤IntKind.i64.wrap (x.2.1-i)) (.ite (fewF x i) (.ret (RFr (x,i))) (.ret (.normal,TFr (x,IntKind.i64.wrap (i+1)))))) (.ret (EFr x)):=by kernel_rfl
def gFr (σ:St):Option (AFr × Int) :=
 match nth σ.tmps 1,nth σ.tmps 2,nth σ.tmps 8,nth σ.tmps 28 with
 | .int .i64 m,.int .i64 k,.int .u64 v,.int .i64 i=>some ((m,k,v),i)
 | _,_,_,_=>none
def brkFr (x:AFr) (i:Int):Option (AFr × Int):=bif fewF x i then some (x,i) else none
def nxtFr (x:AFr) (_:Int):AFr:=x
def okFr (x:AFr) (_:Int):Prop:=x.2.1≤60
def LFr:LoopCon:=boundB 90 (norm2 90 [] [] sFr) TFr gFr (fun x=>x.2.1) okFr nxtFr brkFr ((0,0,0),0) RFr EFr
theorem lFr (hs:SubOf c108.P 264 (.loop (loopAt c108.P 264 6))):SoundLoop c108 (loopAt c108.P 264 6) LFr :=
 bound_loop (C:=c108) (g:=264) (l:=6) c108_good 60 90 _ _ (Weak.norm2 90 [] [] sFr) (Weak.norm2 90 [] [] (sets (Js 43) [(2,.int),(6,.int)])) hs TFr gFr (fun x=>x.2.1) okFr nxtFr brkFr ((0,0,0),0) RFr EFr
  (fun _=>by intro h; cases h) (fun _=>by intro h; cases h) (fun _ _=>rfl)
  (fun x i h0 hi hm hok=>.of_eq (bFr1 x i) (by
   unfold maxI64 at hm
   have hok:x.2.1≤60:=hok
   rw [wrap_fits (n:=i+1) (by omega) (by omega),wrap_fits (n:=x.2.1-i) (by omega) (by omega)]
   refine (Tree.out_ite_true (decide_eq_true hi)).2 ⟨by omega,?_⟩
   unfold brkFr
   cases h:fewF x i with
   | true=>exact (Tree.out_ite_true rfl).2 rfl
   | false=>exact (Tree.out_ite_false rfl).2 rfl))
  (fun x i hi=>.of_eq (bFr1 x i) ((Tree.out_ite_false (decide_eq_false (by omega))).2 rfl))
noncomputable def c109:Cfg:=c108.addLoop 264 6 LFr
theorem c109_good:GoodCfg c109:=c108_good.addLoop (by unfold OneLoop; kernel_rfl) lFr
def farX0 (h:Fu.Ring) (m k:Int):AFr:=(m,k,orI .u64 (ofRing h).B (shlI .u64 (maskV k) (ofRing h).N))
def farV (h:Fu.Ring) (m k:Int):Int:=bif mayP m k then (match brkI nxtFr brkFr (k-0).toNat (farX0 h m k) 0 with | some b=>b.2 | none=>k) else k
def farT (h:Fu.Ring) (m k:Int):Tree (AV × List Blk):=.ite (!mayP m k) (.ret (.int .i64 k,[])) (.asrt (0≤k) (.asrt (0≤(ofRing h).N) (.asrt (90=90∧TFr (farX0 h m k,0)=TFr (farX0 h m k,0)) (.asrt (0≤(0:Int)∧k≤maxI64∧okI nxtFr brkFr okFr (k-0).toNat (farX0 h m k) 0)
 (.ite (brkI nxtFr brkFr (k-0).toNat (farX0 h m k) 0).isSome (.ret (.int .i64 ((brkI nxtFr brkFr (k-0).toNat (farX0 h m k) 0).getD ((0,0,0),0)).2,[])) (.ret (.int .i64 (foldI nxtFr (k-0).toNat (farX0 h m k) 0).2.1,[])))))))
theorem fFar (h:Fu.Ring) (m k:Int):callC c109 60 264 [.agg (encRing h),.int .i64 m,.int .i64 k]=farT h m k:=by kernel_rfl
theorem okFr_all (x:AFr) (h:x.2.1≤60):∀ (k:Nat) (i:Int),okI nxtFr brkFr okFr k x i
 | 0,_=>trivial
 | k+1,i=>⟨h,fun _=>okFr_all x h k (i+1)⟩
theorem foldFr (x:AFr):∀ (k:Nat) (i:Int),foldI nxtFr k x i=x
 | 0,_=>rfl
 | k+1,i=>foldFr x k (i+1)
def conFar:Con:=plainCon (d3 dRing dInt dInt) fun x=>.int .i64 (farV x.1 x.2.1 x.2.2)
theorem conFar_valid:ValidCon c109.P 264 conFar:=plainCon_valid c109_good 60 (by kernel_rfl) fun ⟨h,m,k⟩=>⟨_,fFar h m k,by
 show Rez (farT h m k) (.int .i64 (farV h m k),[])
 unfold farV
 cases hm:mayP m k with
 | false=>exact .itet (by rw [hm]; rfl) (.ret (.refl _) rfl)
 | true =>
  have hk:1≤k∧k≤60:=by
   unfold mayP at hm
   simp only [Bool.and_eq_true,decide_eq_true_eq] at hm
   omega
  have hr:=ofRing_N h
  refine .itee (by rw [hm]; rfl) (.asrt (by omega) (.asrt hr.1 (.asrt ⟨rfl,rfl⟩ (.asrt ⟨Int.le_refl _,by unfold maxI64; omega,okFr_all _ hk.2 _ _⟩ ?_))))
  simp only [cond_true]
  cases hb:brkI nxtFr brkFr (k-0).toNat (farX0 h m k) 0 with
  | some b=>exact .itet rfl (.ret (.refl _) rfl)
  | none=>exact .itee rfl (.ret (.eq (by rw [foldFr]; rfl)) rfl)⟩
noncomputable def c110:Cfg:=c109.addQuiet 264 conFar
theorem c110_good:GoodCfg c110:=c109_good.addQuiet conFar_valid plainCon_quiet
end Go.Fx
namespace Go.Fx
open Go Go.Proofs
def dOpt:Dc Fu.Opt:=dRow .opt
theorem fRank (o:Fu.Opt):callC c110 60 266 [.agg (RTy.opt.enc o)]=.ret (.agg [.int .i64 o.Far,.int .i64 o.Due,.int .i64 o.ID],[]):=by kernel_rfl
def conRank:Con:=plainCon (d1 dOpt) fun o=>.agg [.int .i64 o.Far,.int .i64 o.Due,.int .i64 o.ID]
theorem conRank_valid:ValidCon c110.P 266 conRank:=plainCon_valid c110_good 60 (by kernel_rfl) fun o=>⟨_,fRank o,.ret (.refl _) rfl⟩
noncomputable def c111:Cfg:=c110.addQuiet 266 conRank
theorem c111_good:GoodCfg c111:=c110_good.addQuiet conRank_valid plainCon_quiet
def rankO (o:Fu.Opt):List Int:=[o.Far,o.Due,o.ID]
def lessO (a b:Fu.Opt):Bool:=!(a.Far == b.Far && (a.Due == b.Due && a.ID == b.ID)) && decide (cmpL (rankO a) (rankO b) < 0)
theorem fLess18 (a b:Fu.Opt):callC c111 60 265 [.agg (RTy.opt.enc a),.agg (RTy.opt.enc b)]=.asrt ((!(a.Far == b.Far && (a.Due == b.Due && a.ID == b.ID)))=true→(rankO a).length=(rankO b).length∧((rankO a).length:Int) < 17592186044416) (.ret (.bool (lessO a b),[])):=by kernel_rfl
def conLessO:Con:=plainCon (d2 dOpt dOpt) fun x=>.bool (lessO x.1 x.2)
theorem conLessO_valid:ValidCon c111.P 265 conLessO:=plainCon_valid c111_good 60 (by kernel_rfl) fun x=>⟨_,fLess18 x.1 x.2,.asrt (fun _=>⟨rfl,by show (3:Int) < _; omega⟩) (.ret (.refl _) rfl)⟩
noncomputable def c112:Cfg:=c111.addQuiet 265 conLessO
theorem c112_good:GoodCfg c112:=c111_good.addQuiet conLessO_valid plainCon_quiet
def isOpt (j:Fu.Job):Bool:=!(!j.On || (j.Mand || leftJ j == 0))
def optR (id:Int) (s:Fu.Spec) (j:Fu.Job) (h:Fu.Ring):Fu.Opt:=bif isOpt j then ⟨farV h s.M s.K,j.Due,id⟩ else ⟨0,0,0⟩
theorem fOptOf (id:Int) (s:Fu.Spec) (j:Fu.Job) (h:Fu.Ring):callC c112 60 261 [.int .i64 id,.agg (encSpec s),.agg (encJob j),.agg (encRing h)] =
 .ite (!j.On || (j.Mand || leftJ j == 0)) (.ret (.tup [.agg [.lit .i64 0,.lit .i64 0,.lit .i64 0],.blit false],[])) (.ret (.tup [.agg [.int .i64 (farV h s.M s.K),.int .i64 j.Due,.int .i64 id],.blit true],[])):=by kernel_rfl
def conOptOf:Con:=plainCon (d4 dInt dSpec dJob dRing) fun x=>.tup [.agg (RTy.opt.enc (optR x.1 x.2.1 x.2.2.1 x.2.2.2)),.bool (isOpt x.2.2.1)]
theorem conOptOf_valid:ValidCon c112.P 261 conOptOf:=plainCon_valid c112_good 60 (by kernel_rfl) fun ⟨id,s,j,h⟩=>⟨_,fOptOf id s j h,by
 show Rez _ (.tup [.agg (RTy.opt.enc (optR id s j h)),.bool (isOpt j)],[])
 unfold optR
 cases hc:(!j.On || (j.Mand || leftJ j == 0)) with
 | true =>
  have e:isOpt j=false:=by unfold isOpt; rw [hc]; rfl
  rw [e]
  exact .itet rfl (.ret (.tup (.cons (.agg (.cons (.lit rfl) (.cons (.lit rfl) (.cons (.lit rfl) .nil)))) (.cons (.blit rfl) .nil))) rfl)
 | false =>
  have e:isOpt j=true:=by unfold isOpt; rw [hc]; rfl
  rw [e]
  exact .itee rfl (.ret (.tup (.cons (.refl _) (.cons (.blit rfl) .nil))) rfl)⟩
noncomputable def c113:Cfg:=c112.addQuiet 261 conOptOf
theorem c113_good:GoodCfg c113:=c112_good.addQuiet conOptOf_valid plainCon_quiet
abbrev AFo:=List Fu.Opt × Int
def TFo (x:AFo × Int):St:=⟨puts (J 26) [(0,.view .opt x.1.1),(3,.int .i64 x.1.2),(6,.view .opt x.1.1),(7,.int .i64 x.1.1.length),(8,.int .i64 x.2)],[],0⟩
def sFo:List Sh:=sets (Js 26) [(0,.keep),(3,.int),(6,.keep),(7,.int),(8,.int)]
def eFo:List Sh:=sets (Js 26) [(3,.int)]
def EFo (x:AFo):Ex × St:=(.exit 0,⟨puts (J 26) [(3,.int .i64 x.2)],[],0⟩)
def fstO (l:List Fu.Opt) (at' i:Int):Bool:=at' == -1 || lessO (rd .opt l i) (rd .opt l at')
def nxtFo (x:AFo) (i:Int):AFo:=(x.1,bif fstO x.1 x.2 i then i else x.2)
theorem bFo (x : AFo) (i : Int) : roundN c113 60 262 (loopAt c113.P 262 3) (norm2 0 [] [] sFo) (norm2 0 [] [] eFo) (TFo (x, i)) =
    .ite (decide (i < x.1.length)) (.asrt (0≤i∧i < x.1.length) (.asrt ((x.2 == -1)=false→0≤x.2∧x.2 < x.1.length) (.ret (.normal,TFo (nxtFo x i,IntKind.i64.wrap (i+1)))))) (.ret (EFo x)):=by kernel_rfl
def gFo (σ:St):Option (AFo × Int) :=
 match nth σ.tmps 0,nth σ.tmps 3,nth σ.tmps 8 with
 | .view .opt l,.int .i64 a,.int .i64 i=>some ((l,a),i)
 | _,_,_=>none
def okFo (x:AFo) (_:Int):Prop:=x.2 = -1∨(0≤x.2∧x.2 < x.1.length)
def LFo:LoopCon:=boundF 0 (norm2 0 [] [] sFo) TFo gFo (fun x=>x.1.length) okFo nxtFo EFo
theorem lFo (hs:SubOf c113.P 262 (.loop (loopAt c113.P 262 3))):SoundLoop c113 (loopAt c113.P 262 3) LFo :=
 bound_fold (C:=c113) (g:=262) (l:=3) c113_good 60 0 _ _ (Weak.norm2 0 [] [] sFo) (Weak.norm2 0 [] [] eFo) hs TFo gFo (fun x=>x.1.length) okFo nxtFo EFo
  (fun _=>by intro h; cases h) (fun _ _=>rfl)
  (fun x i h0 hi hm hok=>.of_eq (bFo x i) (by
   unfold maxI64 at hm
   rw [wrap_fits (n:=i+1) (by omega) (by omega)]
   refine (Tree.out_ite_true (decide_eq_true hi)).2 ⟨⟨h0,hi⟩,fun hn=>?_,rfl⟩
   rcases hok with h | h
   ·rw [h] at hn; cases hn
   ·exact h))
  (fun x i hi=>.of_eq (bFo x i) ((Tree.out_ite_false (decide_eq_false (by omega))).2 rfl))
noncomputable def c114:Cfg:=c113.addLoop 262 3 LFo
theorem c114_good:GoodCfg c114:=c113_good.addLoop (by unfold OneLoop; kernel_rfl) lFo
def firstO (l:List Fu.Opt):Int:=(foldI nxtFo ((l.length:Int)-0).toNat (l,-1) 0).2
def firstOT (l:List Fu.Opt):Tree (AV × List Blk):=.asrt (0=0∧TFo ((l,-1),0)=TFo ((l,-1),0)) (.asrt (0≤(0:Int)∧(l.length:Int)≤maxI64∧okI nxtFo (fun _ _=>(none:Option Unit)) okFo ((l.length:Int)-0).toNat (l,-1) 0) (.ret (.int .i64 (firstO l),[])))
theorem fFirstO (l:List Fu.Opt):callC c114 60 262 [.view .opt l]=firstOT l:=by kernel_rfl
theorem foldFo (l:List Fu.Opt) (k:Nat):∀ (a i:Int),0≤i→i+k=l.length→(a = -1∧i=0∨(0≤a∧a < l.length))→okI nxtFo (fun _ _=>(none:Option Unit)) okFo k (l,a) i∧(foldI nxtFo k (l,a) i).1=l∧((foldI nxtFo k (l,a) i).2 = -1∧l=[]∨(0≤(foldI nxtFo k (l,a) i).2∧(foldI nxtFo k (l,a) i).2 < l.length)):=by
 induction k with
 | zero =>
  intro a i h0 h1 h2
  refine ⟨trivial,rfl,?_⟩
  rcases h2 with ⟨h2,h3⟩ | h2
  ·exact .inl ⟨h2,List.eq_nil_of_length_eq_zero (by omega)⟩
  ·exact .inr h2
 | succ k ih =>
  intro a i h0 h1 h2
  have hn:(bif fstO l a i then i else a) = -1∧i+1=0∨(0≤(bif fstO l a i then i else a)∧(bif fstO l a i then i else a) < l.length):=by
   right
   cases hf:fstO l a i with
   | true=>simp only [cond_true]; omega
   | false =>
    rcases h2 with ⟨h2,_⟩ | h2
    ·unfold fstO at hf; rw [h2] at hf; cases hf
    ·simp only [cond_false]; exact h2
  obtain ⟨k1,k2,k3⟩:=ih (bif fstO l a i then i else a) (i+1) (by omega) (by omega) hn
  exact ⟨⟨h2.imp (·.1) id,fun _=>k1⟩,k2,k3⟩
theorem firstO_spec (l:List Fu.Opt):firstO l = -1∧l=[]∨(0≤firstO l∧firstO l < l.length):=(foldFo l ((l.length:Int)-0).toNat (-1) 0 (Int.le_refl _) (by omega) (.inl ⟨rfl,rfl⟩)).2.2
def conFirstO:Con:=flatCon (d1 (dView .opt)) (fun l=>(l.length:Int) < 17592186044416) fun l=>.int .i64 (firstO l)
theorem conFirstO_valid:ValidCon c114.P 262 conFirstO:=flatCon_valid c114_good 60 (by kernel_rfl) fun l h=>⟨_,fFirstO l,.asrt ⟨rfl,rfl⟩ (.asrt ⟨Int.le_refl _,by unfold maxI64; omega,(foldFo l _ (-1) 0 (Int.le_refl _) (by omega) (.inl ⟨rfl,rfl⟩)).1⟩ (.ret (.refl _) rfl))⟩
noncomputable def c115:Cfg:=c114.addQuiet 262 conFirstO
theorem c115_good:GoodCfg c115:=c114_good.addQuiet conFirstO_valid flatCon_quiet
end Go.Fx
namespace Go.Fx
open Go Go.Proofs
def decNo:AV→Option Unit
 | .agg []=>some ()
 | _=>none
def dNo:Dc Unit:=⟨decNo,fun _=>.agg [],fun v a h=>by
 unfold decNo at h
 split at h
 ·exact .refl _
 ·cases h⟩
def livesW (w:Fu.World):List Fu.Live:=w.T.map liveK
def okWho (w:Fu.World):Prop:=smallW w∧okF (livesW w)
def mustW (w:Fu.World):Int × Bool:=bif firstL (livesW w) == -1 then (0,false) else ((rd .task w.T (firstL (livesW w))).ID,true)
def pairA (p:Int × Bool):AV:=.tup [.int .i64 p.1,.bool p.2]
theorem fMust18 (w:Fu.World):callC c115 60 258 [.agg [],.agg (encW w)]=.asrt (smallW w) (.asrt (okF (livesW w)) (.ite (firstL (livesW w) == -1) (.ret (.tup [.lit .i64 0,.blit false],[])) (.asrt (0≤firstL (livesW w)∧firstL (livesW w) < w.T.length) (.ret (.tup [.int .i64 (rd .task w.T (firstL (livesW w))).ID,.blit true],[]))))):=by kernel_rfl
def conMust18:Con:=flatCon (d2 dNo dWorld) (fun x=>okWho x.2) fun x=>pairA (mustW x.2)
theorem conMust18_valid:ValidCon c115.P 258 conMust18:=flatCon_valid c115_good 60 (by kernel_rfl) fun x h=>⟨_,fMust18 x.2,by
 obtain ⟨h1,h2⟩:=h
 refine .asrt h1 (.asrt h2 ?_)
 have hr:=firstL_range (livesW x.2)
 unfold mustW
 cases hf:(firstL (livesW x.2) == -1) with
 | true=>exact .itet rfl (.ret (.tup (.cons (.lit rfl) (.cons (.blit rfl) .nil))) rfl)
 | false =>
  refine .itee rfl (.asrt ?_ (.ret (.tup (.cons (.refl _) (.cons (.blit rfl) .nil))) rfl))
  have:firstL (livesW x.2)≠-1:=by simpa using hf
  have hl:(livesW x.2).length=x.2.T.length:=by unfold livesW; simp
  rcases hr with hr | hr
  ·exact absurd hr this
  ·rw [hl] at hr; exact hr⟩
noncomputable def c116:Cfg:=c115.addQuiet 258 conMust18
theorem c116_good:GoodCfg c116:=c115_good.addQuiet conMust18_valid flatCon_quiet
def pickW (w:Fu.World):Int × List Int:=pickA w.A w.Cur w.Now
def onceW (w:Fu.World):Int × Bool:=(maxI (pickW w).1 0,(pickW w).1 != -1)
theorem fOnce18 (w:Fu.World):callC c116 60 259 [.agg [],.agg (encW w)]=.asrt ((w.A.length:Int) < 17592186044416) (.ret (pairA (onceW w),[])):=by kernel_rfl
def conOnce18:Con:=flatCon (d2 dNo dWorld) (fun x=>okWho x.2) fun x=>pairA (onceW x.2)
theorem conOnce18_valid:ValidCon c116.P 259 conOnce18:=flatCon_valid c116_good 60 (by kernel_rfl) fun x h=>⟨_,fOnce18 x.2,.asrt (by have:=h.1.2; omega) (.ret (.refl _) rfl)⟩
noncomputable def c117:Cfg:=c116.addQuiet 259 conOnce18
theorem c117_good:GoodCfg c117:=c116_good.addQuiet conOnce18_valid flatCon_quiet
abbrev AMo:=List Fu.Task × List Fu.Opt
def TMo (x:AMo × Int):St:=⟨puts (J 46) [(6,.own 2),(13,.view .task x.1.1),(14,.int .i64 x.1.1.length),(15,.int .i64 x.2)],[(2,.rows .opt 340 x.1.2)],3⟩
def sMo:List Sh:=sets (Js 46) [(6,.keep),(13,.keep),(14,.int),(15,.int)]
def eMo:List Sh:=sets (Js 46) [(6,.keep)]
def fMo (ss:List Sh) (σ:St):St:=norm2 2 [.tmp 6] [2] ss (ownSlot 6 .opt 340 σ)
theorem weak_fMo (ss:List Sh) (σ:St):Weak 2 σ (fMo ss σ):=(Weak.ownSlot 2 6 .opt 340 σ).trans (Weak.norm2 2 [.tmp 6] [2] ss _)
def EMo (x:AMo):Ex × St:=(.exit 0,⟨puts (J 46) [(6,.own 2)],[(2,.rows .opt 340 x.2)],3⟩)
def optT1 (t:Fu.Task):Fu.Opt:=optR t.ID t.S t.J t.H
def nxtMo (x:AMo) (i:Int):AMo:=(x.1,bif isOpt (rd .task x.1 i).J then x.2 ++ [optT1 (rd .task x.1 i)] else x.2)
theorem bMo (x : AMo) (i : Int) : roundN c117 60 260 (loopAt c117.P 260 3) (fMo sMo) (fMo eMo) (TMo (x, i)) =
    .ite (decide (i < x.1.length)) (.asrt (0≤i∧i < x.1.length) (.ite (isOpt (rd .task x.1 i).J) (.asrt ((x.2 ++ [optT1 (rd .task x.1 i)]).length*24≤140737488355328) (.ret (.normal,TMo ((x.1,x.2 ++ [optT1 (rd .task x.1 i)]),IntKind.i64.wrap (i+1))))) (.ret (.normal,TMo (x,IntKind.i64.wrap (i+1)))))) (.ret (EMo x)):=by kernel_rfl
def gMo (σ:St):Option (AMo × Int) :=
 match nth σ.tmps 13,nth σ.tmps 15,σ.heap with
 | .view .task T,.int .i64 i,[(_,.rows .opt _ o)]=>some ((T,o),i)
 | _,_,_=>none
def okMo (x:AMo) (_:Int):Prop:=(x.2.length+1)*24≤140737488355328
def LMo:LoopCon:=boundF 2 (fMo sMo) TMo gMo (fun x=>x.1.length) okMo nxtMo EMo
theorem lMo (hs:SubOf c117.P 260 (.loop (loopAt c117.P 260 3))):SoundLoop c117 (loopAt c117.P 260 3) LMo :=
 bound_fold (C:=c117) (g:=260) (l:=3) c117_good 60 2 _ _ (weak_fMo sMo) (weak_fMo eMo) hs TMo gMo (fun x=>x.1.length) okMo nxtMo EMo
  (fun _=>by intro h; cases h) (fun _ _=>rfl)
  (fun x i h0 hi hm hok=>.of_eq (bMo x i) (by
   unfold maxI64 at hm
   rw [wrap_fits (n:=i+1) (by omega) (by omega)]
   refine (Tree.out_ite_true (decide_eq_true hi)).2 ⟨⟨h0,hi⟩,?_⟩
   unfold nxtMo
   cases h:isOpt (rd .task x.1 i).J with
   | true=>exact (Tree.out_ite_true rfl).2 ⟨by rw [List.length_append]; exact hok,rfl⟩
   | false=>exact (Tree.out_ite_false rfl).2 rfl))
  (fun x i hi=>.of_eq (bMo x i) ((Tree.out_ite_false (decide_eq_false (by omega))).2 rfl))
noncomputable def c118:Cfg:=c117.addLoop 260 3 LMo
theorem c118_good:GoodCfg c118:=c117_good.addLoop (by unfold OneLoop; kernel_rfl) lMo
def optsW (T:List Fu.Task):List Fu.Opt:=(T.filter fun t=>isOpt t.J).map optT1
def mayBand (w:Fu.World):Int × Bool:=bif firstO (optsW w.T) == -1 then (0,false) else ((rd .opt (optsW w.T) (firstO (optsW w.T))).ID,true)
def moF (T:List Fu.Task):AMo:=foldI nxtMo ((T.length:Int)-0).toNat (T,[]) 0
def moE (l:List Fu.Opt):Tree (AV × List Blk):=.asrt ((l.length:Int) < 17592186044416) (.ite (firstO l == -1) (.ret (.tup [.lit .i64 0,.blit false],[])) (.asrt (0≤firstO l∧firstO l < l.length) (.asrt (0≤firstO l∧firstO l < l.length) (.ret (.tup [.int .i64 (rd .opt l (firstO l)).ID,.blit true],[])))))
def moT (w:Fu.World):Tree (AV × List Blk):=.asrt (2=2∧TMo ((w.T,[]),0)=TMo ((w.T,[]),0)) (.asrt (0≤(0:Int)∧(w.T.length:Int)≤maxI64∧okI nxtMo (fun _ _=>(none:Option Unit)) okMo ((w.T.length:Int)-0).toNat (w.T,[]) 0) (moE (moF w.T).2))
theorem fMay18 (w:Fu.World):callC c118 60 260 [.agg [],.agg (encW w)]=moT w:=by kernel_rfl
theorem foldMo {T : List Fu.Task} (hT : (T.length : Int) * 24 ≤ 140737488355328) (k : Nat) : ∀ (o : List Fu.Opt) (i : Int), 0 ≤ i → i + k = T.length → o.length + k ≤ T.length →
    foldI nxtMo k (T,o) i=(T,o ++ optsW (T.drop i.toNat))∧okI nxtMo (fun _ _=>(none:Option Unit)) okMo k (T,o) i:=by
  induction k with
  | zero=>intro o i h0 h1 h2; rw [drop_end (by omega)]; exact ⟨by simp [foldI,optsW],trivial⟩
  | succ k ih =>
    intro o i h0 h1 h2
    have hd:=drop_rd (r:=.task) (xs:=T) h0 (by omega)
    have e:nxtMo (T,o) i=(T,bif isOpt (rd .task T i).J then o ++ [optT1 (rd .task T i)] else o):=rfl
    have hl:(bif isOpt (rd .task T i).J then o ++ [optT1 (rd .task T i)] else o).length≤o.length+1:=by
      cases isOpt (rd .task T i).J <;> simp
    obtain ⟨k1,k2⟩:=ih (bif isOpt (rd .task T i).J then o ++ [optT1 (rd .task T i)] else o) (i+1) (by omega) (by omega) (by omega)
    refine ⟨?_,⟨by show (o.length+1)*24≤140737488355328; omega,fun _=>by rw [e]; exact k2⟩⟩
    unfold foldI
    rw [e]
    refine k1.trans ?_
    rw [hd]
    unfold optsW
    rw [List.filter_cons]
    cases isOpt (rd .task T i).J <;> simp
def conMay18:Con:=flatCon (d2 dNo dWorld) (fun x=>okWho x.2) fun x=>pairA (mayBand x.2)
theorem conMay18_valid:ValidCon c118.P 260 conMay18:=flatCon_valid c118_good 60 (by kernel_rfl) fun x h=>⟨_,fMay18 x.2,by
 obtain ⟨h1,_⟩:=h
 have hT:=h1.1
 obtain ⟨k1,k2⟩:=foldMo (T:=x.2.T) (by omega) ((x.2.T.length:Int)-0).toNat [] 0 (Int.le_refl _) (by omega) (by simp)
 rw [show (0:Int).toNat=0 from rfl,List.drop_zero,List.nil_append] at k1
 have e:moF x.2.T=(x.2.T,optsW x.2.T):=k1
 refine .asrt ⟨rfl,rfl⟩ (.asrt ⟨Int.le_refl _,by unfold maxI64; omega,k2⟩ ?_)
 rw [e]
 have hl:(optsW x.2.T).length≤x.2.T.length:=by unfold optsW; rw [List.length_map]; exact List.length_filter_le _ _
 have hf:=firstO_spec (optsW x.2.T)
 refine .asrt (by show ((optsW x.2.T).length:Int) < _; omega) ?_
 show Rez (.ite (firstO (optsW x.2.T) == -1) _ _) _
 unfold mayBand
 cases hc:(firstO (optsW x.2.T) == -1) with
 | true=>exact .itet rfl (.ret (.tup (.cons (.lit rfl) (.cons (.blit rfl) .nil))) rfl)
 | false =>
  have:firstO (optsW x.2.T)≠-1:=by simpa using hc
  have hr:=hf.resolve_left fun h=>this h.1
  exact .itee rfl (.asrt hr (.asrt hr (.ret (.tup (.cons (.refl _) (.cons (.blit rfl) .nil))) rfl)))⟩
noncomputable def c119:Cfg:=c118.addQuiet 260 conMay18
theorem c119_good:GoodCfg c119:=c118_good.addQuiet conMay18_valid flatCon_quiet
def bandsR:AV × List Blk:=(.slc 0 0 3 1,[.cells [.iface 263 (.agg []),.iface 264 (.agg []),.iface 265 (.agg [])]])
theorem fBands:callC c119 60 151 []=.ret bandsR:=by kernel_rfl
def conBands:Con
 | []=>.ret bandsR
 | _=>.fail
theorem conBands_valid:ValidCon c119.P 151 conBands:=by
 refine con_of (C:=c119) (n:=60) c119_good (by kernel_rfl) fun args r hr=>?_
 unfold conBands at hr
 split at hr
 ·cases hr
  exact ⟨[],bandsR.1,.nil,.refl _,.of_eq fBands rfl⟩
 ·exact hr.elim
noncomputable def c120:Cfg:=c119.addCon 151 conBands
theorem c120_good:GoodCfg c120:=c119_good.addCon conBands_valid (by kernel_rfl)
def whoW (w:Fu.World):Int × Int:=bif (mustW w).2 then (1,(mustW w).1) else bif (onceW w).2 then (2,(onceW w).1) else bif (mayBand w).2 then (3,(mayBand w).1) else (0,0)
def whoR (b:AV) (i:AV) (g:List Int):Tree (AV × List Blk):=.ret (.tup [.agg [b,i],.own 0],intsB g)
def whoT (w:Fu.World):Tree (AV × List Blk):=.asrt ((w.A.length:Int) < 17592186044416) (.asrt (okWho w) (.ite (mustW w).2 (whoR (.lit .i64 1) (.int .i64 (mustW w).1) (pickW w).2) (.asrt (okWho w) (.ite (onceW w).2 (whoR (.lit .i64 2) (.int .i64 (onceW w).1) (pickW w).2)
 (.asrt (okWho w) (.ite (mayBand w).2 (whoR (.lit .i64 3) (.int .i64 (mayBand w).1) (pickW w).2) (whoR (.lit .i64 0) (.lit .i64 0) (pickW w).2)))))))
theorem fWho (w:Fu.World):callC c120 60 83 [.agg (encW w)]=whoT w:=by kernel_rfl
def whoRes (p:Int × Int) (g:List Int):AV × List Blk:=(.tup [.agg [.int .i64 p.1,.int .i64 p.2],.own 0],intsB g)
theorem whoR_rez {b i:AV} {x y:Int} {g:List Int} (hb:AsArg b (.int .i64 x)) (hi:AsArg i (.int .i64 y)):Rez (whoR b i g) (whoRes (x,y) g):=.ret (.tup (.cons (.agg (.cons hb (.cons hi .nil))) (.cons (.refl _) .nil))) rfl
def conWho:Con:=resCon (d1 dWorld) okWho fun w=>whoRes (whoW w) (pickW w).2
theorem conWho_valid:ValidCon c120.P 83 conWho:=resCon_valid c120_good 60 (by kernel_rfl) fun w h=>⟨_,fWho w,by
 unfold whoW
 refine .asrt (by have:=h.1.2; omega) (.asrt h ?_)
 cases h1:(mustW w).2 with
 | true=>exact .itet rfl (whoR_rez (.lit rfl) (.refl _))
 | false =>
  refine .itee rfl (.asrt h ?_)
  cases h2:(onceW w).2 with
  | true=>exact .itet rfl (whoR_rez (.lit rfl) (.refl _))
  | false =>
   refine .itee rfl (.asrt h ?_)
   cases h3:(mayBand w).2 with
   | true=>exact .itet rfl (whoR_rez (.lit rfl) (.refl _))
   | false=>exact .itee rfl (whoR_rez (.lit rfl) (.lit rfl))⟩
noncomputable def c121:Cfg:=c120.addCon 83 conWho
theorem c121_good:GoodCfg c121:=c120_good.addCon conWho_valid (by kernel_rfl)
end Go.Fx
namespace Go.Fx
open Go Go.Proofs
end Go.Fx
