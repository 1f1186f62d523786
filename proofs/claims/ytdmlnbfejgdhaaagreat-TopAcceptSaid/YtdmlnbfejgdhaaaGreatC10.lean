import Derived.Test.YtdmlnbfejgdhaaaGreatC9
import Derived.Test.YtdmlnbfejgdhaaaGreatD1
namespace Go.Fx
open Go Go.Proofs
def encR (r:Fu.Ask):List AV:=[.bool r.On,.int .i64 r.Since,.int .i64 r.By,.int .i64 r.New,.view .aim r.L]
def encS (s:Fu.Serv):List AV:=encW s.W ++ encR s.R ++ [.int .i64 s.NextID,.int .i64 s.NextAp]
def decS:AV→Option Fu.Serv
 | .agg [a,t,p,c,o,i,b,n,l,x,y]=>match a.i,t.asView .task,p.asView .ape,c.i,o.b,i.i,b.i,n.i,l.asView .aim,x.i,y.i with
  | some a,some t,some p,some c,some o,some i,some b,some n,some l,some x,some y=>some ⟨⟨a,t,p,c⟩,⟨o,i,b,n,l⟩,x,y⟩
  | _,_,_,_,_,_,_,_,_,_,_=>none
 | _=>none
def dServ:Dc Fu.Serv:=⟨decS,fun s=>.agg (encS s),fun v s h=>by
 unfold decS at h
 split at h
 ·split at h
  ·rename_i h1 h2 h3 h4 h5 h6 h7 h8 h9 h10 h11
   cases h
   exact .agg (.cons (.i h1) (.cons (.view h2) (.cons (.view h3) (.cons (.i h4) (.cons (.bool h5) (.cons (.i h6) (.cons (.i h7) (.cons (.i h8) (.cons (.view h9) (.cons (.i h10) (.cons (.i h11) .nil)))))))))))
  ·cases h
 ·cases h⟩
def smallS (s:Fu.Serv):Prop:=smallW s.W∧(s.R.L.length:Int)*64≤140737488355328
theorem AsArg.pvs {us vs:List AV} (h:AsArgs us vs):AsArg (.pv us) (.pv vs):=⟨fun hr=>by
 cases hr with
 | pv hs hc hr _=>exact .pv hs hc (h.reps hr) .nil⟩
def decInt1:List AV→Option Int
 | [v]=>v.i
 | _=>none
theorem decInt1_ok {v:List AV} {n:Int} (h:decInt1 v=some n):AsArg (.pv v) (.pv [.int .i64 n]):=by
 unfold decInt1 at h
 split at h
 ·exact .pvs (.cons (.i h) .nil)
 ·cases h
theorem decS_ok {v:List AV} {s:Fu.Serv} (h:decS (.agg v)=some s):AsArg (.pv v) (.pv (encS s)):=by
 unfold decS at h
 split at h
 ·rename_i e
  cases e
  split at h
  ·rename_i h1 h2 h3 h4 h5 h6 h7 h8 h9 h10 h11
   cases h
   exact .pvs (.cons (.i h1) (.cons (.view h2) (.cons (.view h3) (.cons (.i h4) (.cons (.bool h5) (.cons (.i h6) (.cons (.i h7) (.cons (.i h8) (.cons (.view h9) (.cons (.i h10) (.cons (.i h11) .nil)))))))))))
  ·cases h
 ·cases h
def fnIa (c:Int):AV:=.fn (.func 226) [] [.pv [.int .i64 c]]
abbrev AIa:=List Fu.Task × Int
def TIa (x:AIa × Int):St:=⟨puts (J 19) [(0,.view .task x.1.1),(1,fnIa x.1.2),(7,.int .i64 x.1.1.length),(8,.int .i64 x.2)],[],0⟩
def sIa:List Sh:=sets (Js 19) [(0,.keep),(1,.keep),(7,.int),(8,.int)]
def eIa:List Sh:=sets (Js 19) [(4,.int)]
def RIa (x:AIa × Int):Ex × St:=(.ret,⟨puts (J 19) [(4,.int .i64 x.2)],[],0⟩)
def EIa (_:AIa):Ex × St:=(.exit 0,⟨J 19,[],0⟩)
def qIa (c:Int) (a:Fu.Task):Bool:=a.ID == c
def pIa (x:AIa) (i:Int):Bool:=qIa x.2 (rd .task x.1 i)
theorem bIa (x : AIa) (i : Int) : roundN c170 60 123 (loopAt c170.P 123 2) (norm2 0 [] [] sIa) (norm2 0 [] [] eIa) (TIa (x, i)) =
    .ite (decide (i < x.1.length)) (.asrt (0≤i∧i < x.1.length) (.ite (pIa x i) (.ret (RIa (x,i))) (.ret (.normal,TIa (x,IntKind.i64.wrap (i+1)))))) (.ret (EIa x)):=by kernel_rfl
def gIa (σ:St):Option (AIa × Int) :=
 match nth σ.tmps 0,nth σ.tmps 1,nth σ.tmps 8 with
 | .view .task A,.fn _ _ [.pv [.int .i64 c]],.int .i64 i=>some ((A,c),i)
 | _,_,_=>none
def LIa:LoopCon:=searchF 0 (norm2 0 [] [] sIa) TIa gIa (fun x=>x.1.length) (fun _=>True) pIa RIa EIa
theorem lIa (hs:SubOf c170.P 123 (.loop (loopAt c170.P 123 2))):SoundLoop c170 (loopAt c170.P 123 2) LIa :=
 search_loop (C:=c170) (g:=123) (l:=2) c170_good 60 0 _ _ (Weak.norm2 0 [] [] sIa) (Weak.norm2 0 [] [] eIa) hs TIa gIa (fun x=>x.1.length) (fun _=>True) pIa RIa EIa (fun _=>by intro h; cases h) (fun _=>by intro h; cases h)
  (fun x i h0 hi hl _=>.of_eq (bIa x i) (by
   rw [wrap_fits (n:=i+1) (by omega) (by omega)]
   refine (Tree.out_ite_true (decide_eq_true hi)).2 ⟨⟨h0,hi⟩,?_⟩
   cases h:pIa x i with
   | true=>exact (Tree.out_ite_true rfl).2 rfl
   | false=>exact (Tree.out_ite_false rfl).2 rfl))
  (fun x i hi=>.of_eq (bIa x i) ((Tree.out_ite_false (decide_eq_false (by omega))).2 rfl))
def fnIm (c:Fu.Serv):AV:=.fn (.func 65) [] [.pv (encS c)]
abbrev AIm:=List Fu.Task × Fu.Serv
def TIm (x:AIm × Int):St:=⟨puts (J 19) [(0,.view .task x.1.1),(1,fnIm x.1.2),(7,.int .i64 x.1.1.length),(8,.int .i64 x.2)],[],0⟩
def sIm:List Sh:=sets (Js 19) [(0,.keep),(1,.keep),(7,.int),(8,.int)]
def eIm:List Sh:=sets (Js 19) [(4,.int)]
def RIm (x:AIm × Int):Ex × St:=(.ret,⟨puts (J 19) [(4,.int .i64 x.2)],[],0⟩)
def EIm (_:AIm):Ex × St:=(.exit 0,⟨J 19,[],0⟩)
def qIm (c:Fu.Serv) (a:Fu.Task):Bool:=decide (a.ID≥c.NextID)
def pIm (x:AIm) (i:Int):Bool:=qIm x.2 (rd .task x.1 i)
theorem bIm (x : AIm) (i : Int) : roundN c170 60 123 (loopAt c170.P 123 2) (norm2 0 [] [] sIm) (norm2 0 [] [] eIm) (TIm (x, i)) =
    .ite (decide (i < x.1.length)) (.asrt (0≤i∧i < x.1.length) (.ite (pIm x i) (.ret (RIm (x,i))) (.ret (.normal,TIm (x,IntKind.i64.wrap (i+1)))))) (.ret (EIm x)):=by kernel_rfl
def gIm (σ:St):Option (AIm × Int) :=
 match nth σ.tmps 0,nth σ.tmps 1,nth σ.tmps 8 with
 | .view .task A,.fn _ _ [.pv [.int .i64 a,.view .task t,.view .ape p,.int .i64 cu,.bool o,.int .i64 si,.int .i64 b,.int .i64 n,.view .aim l,.int .i64 y,.int .i64 z]],.int .i64 i=>some ((A,⟨⟨a,t,p,cu⟩,⟨o,si,b,n,l⟩,y,z⟩),i)
 | _,_,_=>none
def LIm:LoopCon:=searchF 0 (norm2 0 [] [] sIm) TIm gIm (fun x=>x.1.length) (fun _=>True) pIm RIm EIm
theorem lIm (hs:SubOf c170.P 123 (.loop (loopAt c170.P 123 2))):SoundLoop c170 (loopAt c170.P 123 2) LIm :=
 search_loop (C:=c170) (g:=123) (l:=2) c170_good 60 0 _ _ (Weak.norm2 0 [] [] sIm) (Weak.norm2 0 [] [] eIm) hs TIm gIm (fun x=>x.1.length) (fun _=>True) pIm RIm EIm (fun _=>by intro h; cases h) (fun _=>by intro h; cases h)
  (fun x i h0 hi hl _=>.of_eq (bIm x i) (by
   rw [wrap_fits (n:=i+1) (by omega) (by omega)]
   refine (Tree.out_ite_true (decide_eq_true hi)).2 ⟨⟨h0,hi⟩,?_⟩
   cases h:pIm x i with
   | true=>exact (Tree.out_ite_true rfl).2 rfl
   | false=>exact (Tree.out_ite_false rfl).2 rfl))
  (fun x i hi=>.of_eq (bIm x i) ((Tree.out_ite_false (decide_eq_false (by omega))).2 rfl))
def fnIl (c:Int):AV:=.fn (.func 204) [] [.pv [.int .i64 c]]
abbrev AIl:=List Fu.Task × Int
def TIl (x:AIl × Int):St:=⟨puts (J 19) [(0,.view .task x.1.1),(1,fnIl x.1.2),(7,.int .i64 x.1.1.length),(8,.int .i64 x.2)],[],0⟩
def sIl:List Sh:=sets (Js 19) [(0,.keep),(1,.keep),(7,.int),(8,.int)]
def eIl:List Sh:=sets (Js 19) [(4,.int)]
def RIl (x:AIl × Int):Ex × St:=(.ret,⟨puts (J 19) [(4,.int .i64 x.2)],[],0⟩)
def EIl (_:AIl):Ex × St:=(.exit 0,⟨J 19,[],0⟩)
def qIl (c:Int) (a:Fu.Task):Bool:=a.ID == c
def pIl (x:AIl) (i:Int):Bool:=qIl x.2 (rd .task x.1 i)
theorem bIl (x : AIl) (i : Int) : roundN c170 60 123 (loopAt c170.P 123 2) (norm2 0 [] [] sIl) (norm2 0 [] [] eIl) (TIl (x, i)) =
    .ite (decide (i < x.1.length)) (.asrt (0≤i∧i < x.1.length) (.ite (pIl x i) (.ret (RIl (x,i))) (.ret (.normal,TIl (x,IntKind.i64.wrap (i+1)))))) (.ret (EIl x)):=by kernel_rfl
def gIl (σ:St):Option (AIl × Int) :=
 match nth σ.tmps 0,nth σ.tmps 1,nth σ.tmps 8 with
 | .view .task A,.fn _ _ [.pv [.int .i64 c]],.int .i64 i=>some ((A,c),i)
 | _,_,_=>none
def LIl:LoopCon:=searchF 0 (norm2 0 [] [] sIl) TIl gIl (fun x=>x.1.length) (fun _=>True) pIl RIl EIl
theorem lIl (hs:SubOf c170.P 123 (.loop (loopAt c170.P 123 2))):SoundLoop c170 (loopAt c170.P 123 2) LIl :=
 search_loop (C:=c170) (g:=123) (l:=2) c170_good 60 0 _ _ (Weak.norm2 0 [] [] sIl) (Weak.norm2 0 [] [] eIl) hs TIl gIl (fun x=>x.1.length) (fun _=>True) pIl RIl EIl (fun _=>by intro h; cases h) (fun _=>by intro h; cases h)
  (fun x i h0 hi hl _=>.of_eq (bIl x i) (by
   rw [wrap_fits (n:=i+1) (by omega) (by omega)]
   refine (Tree.out_ite_true (decide_eq_true hi)).2 ⟨⟨h0,hi⟩,?_⟩
   cases h:pIl x i with
   | true=>exact (Tree.out_ite_true rfl).2 rfl
   | false=>exact (Tree.out_ite_false rfl).2 rfl))
  (fun x i hi=>.of_eq (bIl x i) ((Tree.out_ite_false (decide_eq_false (by omega))).2 rfl))
def fnIv (c:Fu.Serv):AV:=.fn (.func 67) [] [.pv (encS c)]
abbrev AIv:=List Fu.Ape × Fu.Serv
def TIv (x:AIv × Int):St:=⟨puts (J 19) [(0,.view .ape x.1.1),(1,fnIv x.1.2),(7,.int .i64 x.1.1.length),(8,.int .i64 x.2)],[],0⟩
def sIv:List Sh:=sets (Js 19) [(0,.keep),(1,.keep),(7,.int),(8,.int)]
def eIv:List Sh:=sets (Js 19) [(4,.int)]
def RIv (x:AIv × Int):Ex × St:=(.ret,⟨puts (J 19) [(4,.int .i64 x.2)],[],0⟩)
def EIv (_:AIv):Ex × St:=(.exit 0,⟨J 19,[],0⟩)
def qIv (c:Fu.Serv) (a:Fu.Ape):Bool:=decide (a.ID≥c.NextAp)
def pIv (x:AIv) (i:Int):Bool:=qIv x.2 (rd .ape x.1 i)
theorem bIv (x : AIv) (i : Int) : roundN c170 60 124 (loopAt c170.P 124 2) (norm2 0 [] [] sIv) (norm2 0 [] [] eIv) (TIv (x, i)) =
    .ite (decide (i < x.1.length)) (.asrt (0≤i∧i < x.1.length) (.ite (pIv x i) (.ret (RIv (x,i))) (.ret (.normal,TIv (x,IntKind.i64.wrap (i+1)))))) (.ret (EIv x)):=by kernel_rfl
def gIv (σ:St):Option (AIv × Int) :=
 match nth σ.tmps 0,nth σ.tmps 1,nth σ.tmps 8 with
 | .view .ape A,.fn _ _ [.pv [.int .i64 a,.view .task t,.view .ape p,.int .i64 cu,.bool o,.int .i64 si,.int .i64 b,.int .i64 n,.view .aim l,.int .i64 y,.int .i64 z]],.int .i64 i=>some ((A,⟨⟨a,t,p,cu⟩,⟨o,si,b,n,l⟩,y,z⟩),i)
 | _,_,_=>none
def LIv:LoopCon:=searchF 0 (norm2 0 [] [] sIv) TIv gIv (fun x=>x.1.length) (fun _=>True) pIv RIv EIv
theorem lIv (hs:SubOf c170.P 124 (.loop (loopAt c170.P 124 2))):SoundLoop c170 (loopAt c170.P 124 2) LIv :=
 search_loop (C:=c170) (g:=124) (l:=2) c170_good 60 0 _ _ (Weak.norm2 0 [] [] sIv) (Weak.norm2 0 [] [] eIv) hs TIv gIv (fun x=>x.1.length) (fun _=>True) pIv RIv EIv (fun _=>by intro h; cases h) (fun _=>by intro h; cases h)
  (fun x i h0 hi hl _=>.of_eq (bIv x i) (by
   rw [wrap_fits (n:=i+1) (by omega) (by omega)]
   refine (Tree.out_ite_true (decide_eq_true hi)).2 ⟨⟨h0,hi⟩,?_⟩
   cases h:pIv x i with
   | true=>exact (Tree.out_ite_true rfl).2 rfl
   | false=>exact (Tree.out_ite_false rfl).2 rfl))
  (fun x i hi=>.of_eq (bIv x i) ((Tree.out_ite_false (decide_eq_false (by omega))).2 rfl))
def fnIo (c:Int):AV:=.fn (.func 206) [] [.pv [.int .i64 c]]
abbrev AIo:=List Fu.Aim × Int
def TIo (x:AIo × Int):St:=⟨puts (J 19) [(0,.view .aim x.1.1),(1,fnIo x.1.2),(7,.int .i64 x.1.1.length),(8,.int .i64 x.2)],[],0⟩
def sIo:List Sh:=sets (Js 19) [(0,.keep),(1,.keep),(7,.int),(8,.int)]
def eIo:List Sh:=sets (Js 19) [(4,.int)]
def RIo (x:AIo × Int):Ex × St:=(.ret,⟨puts (J 19) [(4,.int .i64 x.2)],[],0⟩)
def EIo (_:AIo):Ex × St:=(.exit 0,⟨J 19,[],0⟩)
def qIo (c:Int) (a:Fu.Aim):Bool:=a.ID == c
def pIo (x:AIo) (i:Int):Bool:=qIo x.2 (rd .aim x.1 i)
theorem bIo (x : AIo) (i : Int) : roundN c170 60 227 (loopAt c170.P 227 2) (norm2 0 [] [] sIo) (norm2 0 [] [] eIo) (TIo (x, i)) =
    .ite (decide (i < x.1.length)) (.asrt (0≤i∧i < x.1.length) (.ite (pIo x i) (.ret (RIo (x,i))) (.ret (.normal,TIo (x,IntKind.i64.wrap (i+1)))))) (.ret (EIo x)):=by kernel_rfl
def gIo (σ:St):Option (AIo × Int) :=
 match nth σ.tmps 0,nth σ.tmps 1,nth σ.tmps 8 with
 | .view .aim A,.fn _ _ [.pv [.int .i64 c]],.int .i64 i=>some ((A,c),i)
 | _,_,_=>none
def LIo:LoopCon:=searchF 0 (norm2 0 [] [] sIo) TIo gIo (fun x=>x.1.length) (fun _=>True) pIo RIo EIo
theorem lIo (hs:SubOf c170.P 227 (.loop (loopAt c170.P 227 2))):SoundLoop c170 (loopAt c170.P 227 2) LIo :=
 search_loop (C:=c170) (g:=227) (l:=2) c170_good 60 0 _ _ (Weak.norm2 0 [] [] sIo) (Weak.norm2 0 [] [] eIo) hs TIo gIo (fun x=>x.1.length) (fun _=>True) pIo RIo EIo (fun _=>by intro h; cases h) (fun _=>by intro h; cases h)
  (fun x i h0 hi hl _=>.of_eq (bIo x i) (by
   rw [wrap_fits (n:=i+1) (by omega) (by omega)]
   refine (Tree.out_ite_true (decide_eq_true hi)).2 ⟨⟨h0,hi⟩,?_⟩
   cases h:pIo x i with
   | true=>exact (Tree.out_ite_true rfl).2 rfl
   | false=>exact (Tree.out_ite_false rfl).2 rfl))
  (fun x i hi=>.of_eq (bIo x i) ((Tree.out_ite_false (decide_eq_false (by omega))).2 rfl))
def LItk:LoopCon:=orL (fnIs 1 226) LIa (orL (fnIs 1 65) LIm LIl)
noncomputable def c171:Cfg:=c170.addLoop 123 2 LItk
theorem c171_good:GoodCfg c171:=c170_good.addLoop (by unfold OneLoop; kernel_rfl) fun hs=>orL_sound (lIa hs) (orL_sound (lIm hs) (lIl hs))
noncomputable def c172:Cfg:=c171.addLoop 227 2 LIo
theorem c172_good:GoodCfg c172:=c171_good.addLoop (by unfold OneLoop; kernel_rfl) lIo
def atIa (A:List Fu.Task) (c:Int):Int:=(firstP (pIa (A,c)) A.length 0).getD (-1)
def decIa:AV→Option (Int)
 | .fn (.func k) [] [.pv v]=>if k=226 then decInt1 v else none
 | _=>none
def dIa:Dc (Int):=⟨decIa,fnIa,fun v a h=>by
 unfold decIa at h
 split at h
 ·split at h
  ·rename_i hk; subst hk; exact .fn1 (decInt1_ok h)
  ·cases h
 ·cases h⟩
def IaT (A:List Fu.Task) (c:Int):Tree (AV × List Blk):=.asrt (0=0∧TIa ((A,c),0)=TIa ((A,c),0)) (.asrt ((0≤(0:Int)∧(A.length:Int) < 17592186044416)∧True) (.ite (firstP (pIa (A,c)) ((A.length:Int)-0).toNat 0).isSome (.ret (.int .i64 ((firstP (pIa (A,c)) ((A.length:Int)-0).toNat 0).getD 0),[])) (.ret (.lit .i64 (-1),[]))))
theorem cIa (A:List Fu.Task) (c:Int):callC c172 60 123 [.view .task A,fnIa c]=IaT A c:=by kernel_rfl
def conIa:Con:=flatCon (d2 (dView .task) dIa) (fun x=>(x.1.length:Int) < 17592186044416) fun x=>.int .i64 (atIa x.1 x.2)
theorem conIa_valid:ValidCon c172.P 123 conIa:=flatCon_valid c172_good 60 (by kernel_rfl) fun x h=>⟨_,cIa x.1 x.2,by
 refine .asrt ⟨rfl,rfl⟩ (.asrt ⟨⟨Int.le_refl _,h⟩,trivial⟩ ?_)
 unfold atIa
 rw [show ((x.1.length:Int)-0).toNat=x.1.length by omega]
 cases hf:firstP (pIa (x.1,x.2)) x.1.length 0 with
 | none=>exact .itee rfl (.ret (.lit rfl) rfl)
 | some j=>exact .itet rfl (.ret (.eq rfl) rfl)⟩
def atIm (A:List Fu.Task) (c:Fu.Serv):Int:=(firstP (pIm (A,c)) A.length 0).getD (-1)
def decIm:AV→Option (Fu.Serv)
 | .fn (.func k) [] [.pv v]=>if k=65 then decS (.agg v) else none
 | _=>none
def dIm:Dc (Fu.Serv):=⟨decIm,fnIm,fun v a h=>by
 unfold decIm at h
 split at h
 ·split at h
  ·rename_i hk; subst hk; exact .fn1 (decS_ok h)
  ·cases h
 ·cases h⟩
def ImT (A:List Fu.Task) (c:Fu.Serv):Tree (AV × List Blk):=.asrt (0=0∧TIm ((A,c),0)=TIm ((A,c),0)) (.asrt ((0≤(0:Int)∧(A.length:Int) < 17592186044416)∧True) (.ite (firstP (pIm (A,c)) ((A.length:Int)-0).toNat 0).isSome (.ret (.int .i64 ((firstP (pIm (A,c)) ((A.length:Int)-0).toNat 0).getD 0),[])) (.ret (.lit .i64 (-1),[]))))
theorem cIm (A:List Fu.Task) (c:Fu.Serv):callC c172 60 123 [.view .task A,fnIm c]=ImT A c:=by kernel_rfl
def conIm:Con:=flatCon (d2 (dView .task) dIm) (fun x=>(x.1.length:Int) < 17592186044416) fun x=>.int .i64 (atIm x.1 x.2)
theorem conIm_valid:ValidCon c172.P 123 conIm:=flatCon_valid c172_good 60 (by kernel_rfl) fun x h=>⟨_,cIm x.1 x.2,by
 refine .asrt ⟨rfl,rfl⟩ (.asrt ⟨⟨Int.le_refl _,h⟩,trivial⟩ ?_)
 unfold atIm
 rw [show ((x.1.length:Int)-0).toNat=x.1.length by omega]
 cases hf:firstP (pIm (x.1,x.2)) x.1.length 0 with
 | none=>exact .itee rfl (.ret (.lit rfl) rfl)
 | some j=>exact .itet rfl (.ret (.eq rfl) rfl)⟩
def atIl (A:List Fu.Task) (c:Int):Int:=(firstP (pIl (A,c)) A.length 0).getD (-1)
def decIl:AV→Option (Int)
 | .fn (.func k) [] [.pv v]=>if k=204 then decInt1 v else none
 | _=>none
def dIl:Dc (Int):=⟨decIl,fnIl,fun v a h=>by
 unfold decIl at h
 split at h
 ·split at h
  ·rename_i hk; subst hk; exact .fn1 (decInt1_ok h)
  ·cases h
 ·cases h⟩
def IlT (A:List Fu.Task) (c:Int):Tree (AV × List Blk):=.asrt (0=0∧TIl ((A,c),0)=TIl ((A,c),0)) (.asrt ((0≤(0:Int)∧(A.length:Int) < 17592186044416)∧True) (.ite (firstP (pIl (A,c)) ((A.length:Int)-0).toNat 0).isSome (.ret (.int .i64 ((firstP (pIl (A,c)) ((A.length:Int)-0).toNat 0).getD 0),[])) (.ret (.lit .i64 (-1),[]))))
theorem cIl (A:List Fu.Task) (c:Int):callC c172 60 123 [.view .task A,fnIl c]=IlT A c:=by kernel_rfl
def conIl:Con:=flatCon (d2 (dView .task) dIl) (fun x=>(x.1.length:Int) < 17592186044416) fun x=>.int .i64 (atIl x.1 x.2)
theorem conIl_valid:ValidCon c172.P 123 conIl:=flatCon_valid c172_good 60 (by kernel_rfl) fun x h=>⟨_,cIl x.1 x.2,by
 refine .asrt ⟨rfl,rfl⟩ (.asrt ⟨⟨Int.le_refl _,h⟩,trivial⟩ ?_)
 unfold atIl
 rw [show ((x.1.length:Int)-0).toNat=x.1.length by omega]
 cases hf:firstP (pIl (x.1,x.2)) x.1.length 0 with
 | none=>exact .itee rfl (.ret (.lit rfl) rfl)
 | some j=>exact .itet rfl (.ret (.eq rfl) rfl)⟩
def atIo (A:List Fu.Aim) (c:Int):Int:=(firstP (pIo (A,c)) A.length 0).getD (-1)
def decIo:AV→Option (Int)
 | .fn (.func k) [] [.pv v]=>if k=206 then decInt1 v else none
 | _=>none
def dIo:Dc (Int):=⟨decIo,fnIo,fun v a h=>by
 unfold decIo at h
 split at h
 ·split at h
  ·rename_i hk; subst hk; exact .fn1 (decInt1_ok h)
  ·cases h
 ·cases h⟩
def IoT (A:List Fu.Aim) (c:Int):Tree (AV × List Blk):=.asrt (0=0∧TIo ((A,c),0)=TIo ((A,c),0)) (.asrt ((0≤(0:Int)∧(A.length:Int) < 17592186044416)∧True) (.ite (firstP (pIo (A,c)) ((A.length:Int)-0).toNat 0).isSome (.ret (.int .i64 ((firstP (pIo (A,c)) ((A.length:Int)-0).toNat 0).getD 0),[])) (.ret (.lit .i64 (-1),[]))))
theorem cIo (A:List Fu.Aim) (c:Int):callC c172 60 227 [.view .aim A,fnIo c]=IoT A c:=by kernel_rfl
def conIo:Con:=flatCon (d2 (dView .aim) dIo) (fun x=>(x.1.length:Int) < 17592186044416) fun x=>.int .i64 (atIo x.1 x.2)
theorem conIo_valid:ValidCon c172.P 227 conIo:=flatCon_valid c172_good 60 (by kernel_rfl) fun x h=>⟨_,cIo x.1 x.2,by
 refine .asrt ⟨rfl,rfl⟩ (.asrt ⟨⟨Int.le_refl _,h⟩,trivial⟩ ?_)
 unfold atIo
 rw [show ((x.1.length:Int)-0).toNat=x.1.length by omega]
 cases hf:firstP (pIo (x.1,x.2)) x.1.length 0 with
 | none=>exact .itee rfl (.ret (.lit rfl) rfl)
 | some j=>exact .itet rfl (.ret (.eq rfl) rfl)⟩
theorem orC_quiet {p:List AV→Bool} {c c':Con} (h:noBlks c) (h':noBlks c'):noBlks (orC p c c'):=by
 intro args r hr
 unfold orC at hr
 cases hp:p args with
 | true=>rw [hp] at hr; exact h args r hr
 | false=>rw [hp] at hr; exact h' args r hr
def conIt:Con:=orC (argIs 1 226) conIa (orC (argIs 1 65) conIm conIl)
theorem conIt_valid:ValidCon c172.P 123 conIt:=orC_valid conIa_valid (orC_valid conIm_valid conIl_valid)
noncomputable def c173:Cfg:=c172.addQuiet 123 conIt
theorem c173_good:GoodCfg c173:=c172_good.addQuiet conIt_valid (orC_quiet flatCon_quiet (orC_quiet flatCon_quiet flatCon_quiet))
noncomputable def c174:Cfg:=c173.addQuiet 227 conIo
theorem c174_good:GoodCfg c174:=c173_good.addQuiet conIo_valid flatCon_quiet
def atIv (A:List Fu.Ape) (c:Fu.Serv):Int:=(firstP (pIv (A,c)) A.length 0).getD (-1)
def decIv:AV→Option (Fu.Serv)
 | .fn (.func k) [] [.pv v]=>if k=67 then decS (.agg v) else none
 | _=>none
def dIv:Dc (Fu.Serv):=⟨decIv,fnIv,fun v a h=>by
 unfold decIv at h
 split at h
 ·split at h
  ·rename_i hk; subst hk; exact .fn1 (decS_ok h)
  ·cases h
 ·cases h⟩
def IvT (A:List Fu.Ape) (c:Fu.Serv):Tree (AV × List Blk):=.asrt (0=0∧TIv ((A,c),0)=TIv ((A,c),0)) (.asrt ((0≤(0:Int)∧(A.length:Int) < 17592186044416)∧True) (.ite (firstP (pIv (A,c)) ((A.length:Int)-0).toNat 0).isSome (.ret (.int .i64 ((firstP (pIv (A,c)) ((A.length:Int)-0).toNat 0).getD 0),[])) (.ret (.lit .i64 (-1),[]))))
theorem lIv2 (hs:SubOf c174.P 124 (.loop (loopAt c174.P 124 2))):SoundLoop c174 (loopAt c174.P 124 2) (orL (fnIs 1 67) LIv LGp) :=
 orL_sound (lIv hs) (c174_good.loops 124 2 LGp (by kernel_rfl) _ hs (by kernel_rfl))
noncomputable def c175:Cfg:=c174.addLoop 124 2 (orL (fnIs 1 67) LIv LGp)
theorem c175_good:GoodCfg c175:=c174_good.addLoop (by unfold OneLoop; kernel_rfl) lIv2
theorem cIv (A:List Fu.Ape) (c:Fu.Serv):callC c175 60 124 [.view .ape A,fnIv c]=IvT A c:=by kernel_rfl
def conIv:Con:=flatCon (d2 (dView .ape) dIv) (fun x=>(x.1.length:Int) < 17592186044416) fun x=>.int .i64 (atIv x.1 x.2)
theorem conIv_valid:ValidCon c175.P 124 conIv:=flatCon_valid c175_good 60 (by kernel_rfl) fun x h=>⟨_,cIv x.1 x.2,by
 refine .asrt ⟨rfl,rfl⟩ (.asrt ⟨⟨Int.le_refl _,h⟩,trivial⟩ ?_)
 unfold atIv
 rw [show ((x.1.length:Int)-0).toNat=x.1.length by omega]
 cases hf:firstP (pIv (x.1,x.2)) x.1.length 0 with
 | none=>exact .itee rfl (.ret (.lit rfl) rfl)
 | some j=>exact .itet rfl (.ret (.eq rfl) rfl)⟩
def conIw:Con:=orC (argIs 1 67) conIv conGo
noncomputable def c176:Cfg:=c175.addQuiet 124 conIw
theorem c176_good:GoodCfg c176:=c175_good.addQuiet (orC_valid conIv_valid conGo_valid) (orC_quiet flatCon_quiet flatCon_quiet)
theorem fAtS (s:Fu.Serv) (id:Int):callC c176 60 201 [.agg (encS s),.int .i64 id]=.asrt ((s.W.T.length:Int) < 17592186044416) (.ret (.int .i64 (atIa s.W.T id),[])):=by kernel_rfl
def conAtS:Con:=flatCon (d2 dServ dInt) (fun x=>smallS x.1) fun x=>.int .i64 (atIa x.1.W.T x.2)
theorem smallS_len {s:Fu.Serv} (h:smallS s):(s.W.T.length:Int) < 17592186044416∧(s.W.A.length:Int) < 17592186044416∧(s.R.L.length:Int) < 17592186044416:=by
 obtain ⟨⟨h1,h2⟩,h3⟩:=h
 omega
theorem conAtS_valid:ValidCon c176.P 201 conAtS:=flatCon_valid c176_good 60 (by kernel_rfl) fun x h=>⟨_,fAtS x.1 x.2,.asrt (smallS_len h).1 (.ret (.refl _) rfl)⟩
noncomputable def c177:Cfg:=c176.addQuiet 201 conAtS
theorem c177_good:GoodCfg c177:=c176_good.addQuiet conAtS_valid flatCon_quiet
abbrev ASp:=List Fu.Task
def TSp (x:(ASp × List (RTy.carrier .spec)) × Int):St:=⟨puts (J 21) [(3,.own 1),(8,.view .task x.1.1),(9,.int .i64 (x.1.1).length),(10,.int .i64 x.2)],[(1,.rows .spec 24 x.1.2)],2⟩
def sSp:List Sh:=sets (Js 21) [(3,.keep),(8,.keep),(9,.int),(10,.int)]
def eSp:List Sh:=sets (Js 21) [(3,.keep)]
def fSp (ss:List Sh) (σ:St):St:=norm2 1 [.tmp 3] [1] ss (ownSlot 3 .spec 24 σ)
theorem weak_fSp (ss:List Sh) (σ:St):Weak 1 σ (fSp ss σ):=(Weak.ownSlot 1 3 .spec 24 σ).trans (Weak.norm2 1 [.tmp 3] [1] ss _)
def ESp (x:ASp × List (RTy.carrier .spec)):Ex × St:=(.exit 0,⟨puts (J 21) [(3,.own 1)],[(1,.rows .spec 24 x.2)],2⟩)
def vSp (a:ASp) (i:Int):RTy.carrier .spec:=(rd .task a i).S
def okESp:ASp→Int→Prop:=fun a i=>True
theorem bSp (x : ASp × List (RTy.carrier .spec)) (i : Int) : roundN c177 60 46 (loopAt c177.P 46 3) (fSp sSp) (fSp eSp) (TSp (x, i)) =
    .ite (decide (i < ((x.1).length:Int))) (.asrt (0≤i∧i < (x.1.length:Int)) (.asrt ((x.2 ++ [vSp x.1 i]).length*48≤140737488355328) (.ret (.normal,TSp ((x.1,x.2 ++ [vSp x.1 i]),IntKind.i64.wrap (i+1)))))) (.ret (ESp x)):=by kernel_rfl
def gSp (σ:St):Option ((ASp × List (RTy.carrier .spec)) × Int) :=
 match nth σ.tmps 8,nth σ.tmps 10,σ.heap with
 | .view .task l,.int .i64 i,[(_,.rows .spec _ o)]=>some ((l,o),i)
 | _,_,_=>none
def LSp:LoopCon:=boundF 1 (fSp sSp) TSp gSp (fun x=>((x.1).length:Int)) (okP 48 okESp) (nxtP vSp) ESp
theorem lSp (hs:SubOf c177.P 46 (.loop (loopAt c177.P 46 3))):SoundLoop c177 (loopAt c177.P 46 3) LSp :=
 bound_fold (C:=c177) (g:=46) (l:=3) c177_good 60 1 _ _ (weak_fSp sSp) (weak_fSp eSp) hs TSp gSp (fun x=>((x.1).length:Int)) (okP 48 okESp) (nxtP vSp) ESp
  (fun _=>by intro h; cases h) (fun _ _=>rfl)
  (fun x i h0 hi hm hok=>.of_eq (bSp x i) (by
   unfold maxI64 at hm
   rw [wrap_fits (n:=i+1) (by omega) (by omega)]
   refine (Tree.out_ite_true (decide_eq_true hi)).2 ?_
   have hl:=hok.1
   have he:=hok.2
   have hz:(x.2 ++ [vSp x.1 i]).length*48≤140737488355328:=by rw [List.length_append]; exact hl
   exact ⟨⟨h0,hi⟩,hz,rfl⟩))
  (fun x i hi=>.of_eq (bSp x i) ((Tree.out_ite_false (decide_eq_false (by omega))).2 rfl))
noncomputable def c178:Cfg:=c177.addLoop 46 3 LSp
theorem c178_good:GoodCfg c178:=c177_good.addLoop (by unfold OneLoop; kernel_rfl) lSp
def SpT (a : ASp) : Tree (AV × List Blk) := .asrt (1 = 1 ∧ TSp ((a, []), 0) = TSp ((a, []), 0)) (.asrt (0 ≤ (0 : Int) ∧ ((a).length : Int) ≤ maxI64 ∧ okI (nxtP vSp) (fun _ _ => (none : Option Unit)) (okP 48 okESp) (((a).length : Int) - 0).toNat (a, []) 0)
    (.ret (.own 0,[.rows .spec 24 (foldI (nxtP vSp) (((a).length:Int)-0).toNat (a,[]) 0).2])))
theorem SpT_rez {a:ASp} (hl:((a).length:Int) < 17592186044416) (_:((a).length:Int)*48≤140737488355328) (he:∀ j:Int,0≤j→j < ((a).length:Int)→okESp a j):Rez (SpT a) (.own 0,[.rows .spec 24 (mapF (vSp a) (((a).length:Int)-0).toNat 0)]):=by
 obtain ⟨k1,k2⟩:=foldP vSp 48 okESp a (((a).length:Int)-0).toNat [] 0 (fun j h1 h2=>he j h1 (by omega)) (by simp only [List.length_nil]; omega)
 refine .asrt ⟨rfl,rfl⟩ (.asrt ⟨Int.le_refl _,by unfold maxI64; omega,k2⟩ (.ret (.refl _) ?_))
 rw [k1]
 rfl
def specsV (s:Fu.Serv):List Fu.Spec:=s.W.T.map (·.S)
theorem cSp (s:Fu.Serv):callC c178 60 46 [.agg (encS s)]=SpT s.W.T:=by kernel_rfl
def conSpecs:Con:=resCon (d1 dServ) smallS fun s=>(.own 0,[.rows .spec 24 (specsV s)])
theorem conSp_rez {l:List Fu.Task} (h1:(l.length:Int) < 17592186044416) (h:(l.length:Int)*176≤140737488355328):Rez (SpT l) (.own 0,[.rows .spec 24 (l.map (·.S))]):=by
 have:=SpT_rez (a:=l) h1 (by omega) (fun _ _ _=>trivial)
 rw [show mapF (vSp l) ((l.length:Int)-0).toNat 0=l.map (·.S) from mapF_all (r:=.task) (fun t:Fu.Task=>t.S) l] at this
 exact this
theorem conSpecs_valid:ValidCon c178.P 46 conSpecs:=resCon_valid c178_good 60 (by kernel_rfl) fun s h=>⟨_,cSp s,conSp_rez (smallS_len h).1 h.1.1⟩
noncomputable def c179:Cfg:=c178.addCon 46 conSpecs
theorem c179_good:GoodCfg c179:=c178_good.addCon conSpecs_valid (by kernel_rfl)
abbrev AAm:=Fu.Serv × List Fu.Fix
def TAm (x:AAm × Int):St:=⟨puts (J 125) [(1,.ptr 0 0),(3,.ptr 41 0),(4,.view .task x.1.1.W.T),(6,.own 65),(31,.view .aim x.1.1.R.L),(32,.int .i64 x.1.1.R.L.length),(33,.int .i64 x.2)],[(0,.cells (encS x.1.1)),(41,.cells (encR x.1.1.R)),(65,.rows .fix 58 x.1.2)],66⟩
def sAm:List Sh:=sets (Js 125) [(1,.keep),(3,.keep),(4,.keep),(6,.keep),(31,.keep),(32,.int),(33,.int)]
def fAm (σ:St):St:=norm2 65 [.tmp 6] [0,41,65] sAm (ownSlot 6 .fix 58 σ)
theorem weak_fAm (σ:St):Weak 65 σ (fAm σ):=(Weak.ownSlot 65 6 .fix 58 σ).trans (Weak.norm2 65 [.tmp 6] [0,41,65] sAm _)
def eAm (σ:St):St:=match nth σ.tmps 2 with
 | .blit _=>norm2 65 [] [] (sets (Js 125) [(2,.keep)]) σ
 | _=>norm2 65 [.tmp 6] [65] (sets (Js 125) [(6,.keep)]) (ownSlot 6 .fix 58 σ)
theorem weak_eAm (σ:St):Weak 65 σ (eAm σ):=by
 unfold eAm
 split
 ·exact Weak.norm2 65 [] [] _ σ
 ·exact (Weak.ownSlot 65 6 .fix 58 σ).trans (Weak.norm2 65 [.tmp 6] [65] _ _)
def RAm (_:Unit):Ex × St:=(.ret,⟨puts (J 125) [(2,.blit false)],[],65⟩)
def EAm (x:AAm):Ex × St:=(.exit 0,⟨puts (J 125) [(6,.own 65)],[(65,.rows .fix 58 x.2)],66⟩)
def fixA (a:Fu.Aim):Fu.Fix:=⟨a.S,a.P⟩
def vAm (s:Fu.Serv) (i:Int):Fu.Fix:=fixA (rd .aim s.R.L i)
def badN (s:Fu.Serv) (i:Int):Bool:=(rd .aim s.R.L i).ID != s.R.New || (decide (s.R.New≥s.NextID) || bif decide (i > 0) then decide ((rd .aim s.R.L i).ID≤(rd .task s.W.T (IntKind.i64.wrap (i-1))).ID) || decide ((rd .aim s.R.L i).ID < 0) else decide ((rd .aim s.R.L i).ID < 0))
def badO (s:Fu.Serv) (i:Int):Bool:=(rd .aim s.R.L i).ID != (rd .task s.W.T i).ID || ((rd .aim s.R.L i).S.C != (rd .task s.W.T i).S.C || ((rd .aim s.R.L i).S.M != (rd .task s.W.T i).S.M || (rd .aim s.R.L i).S.K != (rd .task s.W.T i).S.K))
def badA (s:Fu.Serv) (i:Int):Bool:=bif i == (s.W.T.length:Int) then badN s i else badO s i
theorem bAm (s : Fu.Serv) (o : List Fu.Fix) (i : Int) : roundN c179 60 68 (loopAt c179.P 68 9) fAm eAm (TAm ((s, o), i)) =
    .ite (decide (i < s.R.L.length)) (.asrt (0≤i∧i < s.R.L.length) (.asrt ((o ++ [vAm s i]).length*56≤140737488355328) (.ite (i == (s.W.T.length:Int))
      (.asrt (((rd .aim s.R.L i).ID != s.R.New)=false→decide (s.R.New≥s.NextID)=false→decide (i > 0)=true→0≤IntKind.i64.wrap (i-1)∧IntKind.i64.wrap (i-1) < s.W.T.length) (.ite (badN s i) (.ret (RAm ())) (.ret (.normal,TAm ((s,o ++ [vAm s i]),IntKind.i64.wrap (i+1))))))
      (.asrt (0≤i∧i < s.W.T.length) (.asrt (((rd .aim s.R.L i).ID != (rd .task s.W.T i).ID)=false→0≤i∧i < s.W.T.length) (.asrt (((rd .aim s.R.L i).ID != (rd .task s.W.T i).ID)=false→((rd .aim s.R.L i).S.C != (rd .task s.W.T i).S.C)=false→0≤i∧i < s.W.T.length)
        (.asrt (((rd .aim s.R.L i).ID != (rd .task s.W.T i).ID)=false→((rd .aim s.R.L i).S.C != (rd .task s.W.T i).S.C)=false→((rd .aim s.R.L i).S.M != (rd .task s.W.T i).S.M)=false→0≤i∧i < s.W.T.length) (.ite (badO s i) (.ret (RAm ())) (.ret (.normal,TAm ((s,o ++ [vAm s i]),IntKind.i64.wrap (i+1))))))))))))
      (.ret (EAm (s,o))):=by kernel_rfl
def gAm (σ:St):Option (AAm × Int) :=
 match nth σ.tmps 33,σ.heap with
 | .int .i64 i,[(_,.cells [.int .i64 a,.view .task t,.view .ape p,.int .i64 cu,.bool o,.int .i64 si,.int .i64 b,.int .i64 n,.view .aim l,.int .i64 y,.int .i64 z]),_,(_,.rows .fix _ out)]=>some ((⟨⟨a,t,p,cu⟩,⟨o,si,b,n,l⟩,y,z⟩,out),i)
 | _,_=>none
def brkAm (x:AAm) (i:Int):Option Unit:=bif badA x.1 i then some () else none
def okAm (x:AAm) (i:Int):Prop:=(x.2.length+1)*56≤140737488355328∧i≤x.1.W.T.length
def LAm:LoopCon:=boundB 65 fAm TAm gAm (fun x=>x.1.R.L.length) okAm (nxtP vAm) brkAm () RAm EAm
theorem lAm (hs:SubOf c179.P 68 (.loop (loopAt c179.P 68 9))):SoundLoop c179 (loopAt c179.P 68 9) LAm :=
 bound_loop (C:=c179) (g:=68) (l:=9) c179_good 60 65 _ _ weak_fAm weak_eAm hs TAm gAm (fun x=>x.1.R.L.length) okAm (nxtP vAm) brkAm () RAm EAm
  (fun _=>by intro h; cases h) (fun _=>by intro h; cases h) (fun _ _=>rfl)
  (fun x i h0 hi hm hok=>.of_eq (bAm x.1 x.2 i) (by
   unfold maxI64 at hm
   obtain ⟨h1,h2⟩:=hok
   rw [wrap_fits (n:=i+1) (by omega) (by omega)]
   refine (Tree.out_ite_true (decide_eq_true hi)).2 ⟨⟨h0,hi⟩,by rw [List.length_append]; exact h1,?_⟩
   unfold brkAm badA
   cases hb:(i == (x.1.W.T.length:Int)) with
   | true =>
    have hb:=eq_of_beq hb
    refine (Tree.out_ite_true rfl).2 ⟨fun _ _ h3=>?_,?_⟩
    ·have h3:i > 0:=of_decide_eq_true h3
     rw [wrap_fits (n:=i-1) (by omega) (by omega)]
     omega
    ·cases h:badN x.1 i with
     | true=>exact (Tree.out_ite_true rfl).2 rfl
     | false=>exact (Tree.out_ite_false rfl).2 rfl
   | false =>
    have hb:=beq_eq_false_iff_ne.1 hb
    have hz:0≤i∧i < (x.1.W.T.length:Int):=by omega
    refine (Tree.out_ite_false rfl).2 ⟨hz,fun _=>hz,fun _ _=>hz,fun _ _ _=>hz,?_⟩
    cases h:badO x.1 i with
    | true=>exact (Tree.out_ite_true rfl).2 rfl
    | false=>exact (Tree.out_ite_false rfl).2 rfl))
  (fun x i hi=>.of_eq (bAm x.1 x.2 i) ((Tree.out_ite_false (decide_eq_false (by omega))).2 rfl))
noncomputable def c180:Cfg:=c179.addLoop 68 9 LAm
theorem c180_good:GoodCfg c180:=c179_good.addLoop (by unfold OneLoop; kernel_rfl) lAm
def manyW (s:Fu.Serv):Int:=bif s.R.New != -1 then IntKind.i64.wrap ((s.W.T.length:Int)+1) else s.W.T.length
def manyV (s:Fu.Serv):Int:=bif s.R.New != -1 then (s.W.T.length:Int)+1 else s.W.T.length
def aimsV (s:Fu.Serv):Bool:=bif (s.R.L.length:Int) != manyV s || decide (manyV s > 4) then false else bif (firstP (badA s) s.R.L.length 0).isSome then false else testV (s.R.L.map fixA)
theorem brkAm_first (s:Fu.Serv):∀ (k:Nat) (o:List Fu.Fix) (i:Int),(brkI (nxtP vAm) brkAm k (s,o) i).isSome=(firstP (badA s) k i).isSome
 | 0,_,_=>rfl
 | k+1,o,i=>by
  unfold brkI firstP
  have e:brkAm (s,o) i=bif badA s i then some () else none:=rfl
  rw [e]
  cases badA s i with
  | true=>rfl
  | false=>exact brkAm_first s k _ (i+1)
theorem okAm_all (s:Fu.Serv):∀ (k:Nat) (o:List Fu.Fix) (i:Int),i+k≤s.W.T.length+1→o.length+k≤4→okI (nxtP vAm) brkAm okAm k (s,o) i
 | 0,_,_,_,_=>trivial
 | k+1,o,i,h1,h2=>⟨⟨by simp only; omega,by simp only; omega⟩,fun _=>okAm_all s k _ (i+1) (by omega) (by rw [List.length_append]; simp only [List.length_cons,List.length_nil]; omega)⟩
theorem fAims (s : Fu.Serv) : callC c180 60 68 [.agg (encS s)] = .ite ((s.R.L.length : Int) != manyW s || decide (manyW s > 4)) (.ret (.blit false, [])) (.asrt (65 = 65 ∧ TAm ((s, []), 0) = TAm ((s, []), 0)) (.asrt (0 ≤ (0 : Int) ∧ (s.R.L.length : Int) ≤ maxI64 ∧ okI (nxtP vAm) brkAm okAm ((s.R.L.length : Int) - 0).toNat (s, []) 0)
    (.ite (brkI (nxtP vAm) brkAm ((s.R.L.length:Int)-0).toNat (s,[]) 0).isSome (.ret (.blit false,[])) (.asrt (((foldI (nxtP vAm) ((s.R.L.length:Int)-0).toNat (s,[]) 0).2.length:Int) < 17592186044416) (.ret (.bool (testV (foldI (nxtP vAm) ((s.R.L.length:Int)-0).toNat (s,[]) 0).2),[])))))):=by kernel_rfl
def conAims:Con:=flatCon (d1 dServ) smallS fun s=>.bool (aimsV s)
theorem aims_rez {s:Fu.Serv} (h:smallS s):∃ t,callC c180 60 68 [.agg (encS s)]=t∧Rez t (.bool (aimsV s),[]):=⟨_,fAims s,by
 have hl:=smallS_len h
 have em:manyW s=manyV s:=by
  unfold manyW manyV
  rw [wrap_fits (n:=(s.W.T.length:Int)+1) (by omega) (by omega)]
 rw [em]
 unfold aimsV
 cases hc:((s.R.L.length:Int) != manyV s || decide (manyV s > 4)) with
 | true=>exact .itet rfl (.ret (.blit rfl) rfl)
 | false =>
  rw [Bool.or_eq_false_iff] at hc
  have h1:(s.R.L.length:Int)=manyV s:=bne_eq_false_iff_eq.1 hc.1
  have h2:=of_decide_eq_false hc.2
  have h3:manyV s≤s.W.T.length+1:=by
   unfold manyV
   cases (s.R.New != -1) <;> simp only [cond_true,cond_false] <;> omega
  have e0:((s.R.L.length:Int)-0).toNat=s.R.L.length:=by omega
  rw [e0]
  have hf:foldI (nxtP vAm) s.R.L.length (s,[]) 0=(s,s.R.L.map fixA):=by
   obtain ⟨k1,_⟩:=foldP vAm 56 (fun _ _=>True) s s.R.L.length [] 0 (fun _ _ _=>trivial) (by simp only [List.length_nil]; omega)
   rw [k1]
   have:=mapF_all (r:=.aim) fixA s.R.L
   rw [e0] at this
   rw [show mapF (vAm s) s.R.L.length 0=s.R.L.map fixA from this]
   rfl
  refine .itee rfl (.asrt ⟨rfl,rfl⟩ (.asrt ⟨Int.le_refl _,by unfold maxI64; omega,okAm_all s _ [] 0 (by omega) (by simp only [List.length_nil]; omega)⟩ ?_))
  rw [brkAm_first,hf]
  cases (firstP (badA s) s.R.L.length 0).isSome with
  | true=>exact .itet rfl (.ret (.blit rfl) rfl)
  | false=>exact .itee rfl (.asrt (by simp only [List.length_map]; omega) (.ret (.refl _) rfl))⟩
theorem conAims_valid:ValidCon c180.P 68 conAims:=flatCon_valid c180_good 60 (by kernel_rfl) fun s h=>aims_rez h
noncomputable def c181:Cfg:=c180.addQuiet 68 conAims
theorem c181_good:GoodCfg c181:=c180_good.addQuiet conAims_valid flatCon_quiet
def mayE (s:Fu.Serv):Bool:=bif !safeW s.W || (decide (s.NextID < 0) || (decide (s.NextID > 65536) || (decide (s.NextAp < 0) || decide (s.NextAp > 65536)))) then false else bif decide (atIm s.W.T s≥0) then false else bif decide (atIv s.W.A s≥0) then false
 else bif !s.R.On then s.R.New == -1 && (s.R.Since == 0 && (s.R.By == 0 && (s.R.L.length:Int) == 0)) else decide (s.R.Since≥0) && (decide (s.R.Since≤s.W.Now) && (decide (s.R.By≥s.R.Since) && (decide (s.R.By≤1099511627776) && (decide (s.R.New≥-1) && aimsV s))))
theorem fMayE (s : Fu.Serv) : callC c181 60 28 [.agg (encS s)] = .asrt (smallW s.W) (.ite (!safeW s.W || (decide (s.NextID < 0) || (decide (s.NextID > 65536) || (decide (s.NextAp < 0) || decide (s.NextAp > 65536))))) (.ret (.blit false, [])) (.asrt ((s.W.T.length : Int) < 17592186044416) (.ite (decide (atIm s.W.T s ≥ 0)) (.ret (.blit false, []))
    (.asrt ((s.W.A.length:Int) < 17592186044416) (.ite (decide (atIv s.W.A s≥0)) (.ret (.blit false,[])) (.ite (!s.R.On) (.ret (.bool (s.R.New == -1 && (s.R.Since == 0 && (s.R.By == 0 && (s.R.L.length:Int) == 0))),[]))
      (.asrt (decide (s.R.Since≥0)=true→decide (s.R.Since≤s.W.Now)=true→decide (s.R.By≥s.R.Since)=true→decide (s.R.By≤1099511627776)=true→decide (s.R.New≥-1)=true→smallS s)
        (.ret (.bool (decide (s.R.Since≥0) && (decide (s.R.Since≤s.W.Now) && (decide (s.R.By≥s.R.Since) && (decide (s.R.By≤1099511627776) && (decide (s.R.New≥-1) && aimsV s))))),[]))))))))):=by kernel_rfl
def conMayE:Con:=flatCon (d1 dServ) smallS fun s=>.bool (mayE s)
theorem mayE_rez {s:Fu.Serv} (h:smallS s):∃ t,callC c181 60 28 [.agg (encS s)]=t∧Rez t (.bool (mayE s),[]):=⟨_,fMayE s,by
 have hl:=smallS_len h
 let F:Bool→AV × List Blk:=fun b=>(.bool b,[])
 have no:Rez (.ret (.blit false,[])) (F false):=.ret (.blit rfl) rfl
 exact .asrt h.1 (bif_rez F no (.asrt hl.1 (bif_rez F no (.asrt hl.2.1 (bif_rez F no (bif_rez F (.ret (.refl _) rfl) (.asrt (fun _ _ _ _ _=>h) (.ret (.refl _) rfl))))))))⟩
theorem conMayE_valid:ValidCon c181.P 28 conMayE:=flatCon_valid c181_good 60 (by kernel_rfl) fun s h=>mayE_rez h
noncomputable def c182:Cfg:=c181.addQuiet 28 conMayE
theorem c182_good:GoodCfg c182:=c181_good.addQuiet conMayE_valid flatCon_quiet
end Go.Fx
namespace Go.Fx
open Go Go.Proofs
def TFj (x:List Int × Int):St:=⟨puts (J 15) [(5,.view (.int .i64) x.1),(6,.int .i64 x.1.length),(7,.int .i64 x.2)],[],0⟩
def sFj:List Sh:=sets (Js 15) [(5,.view (.int .i64)),(6,.int),(7,.int)]
def eFj:List Sh:=sets (Js 15) [(2,.int)]
def RFj (x:List Int × Int):Ex × St:=(.ret,⟨puts (J 15) [(2,.int .i64 (rd (.int .i64) x.1 x.2))],[],0⟩)
def EFj (_:List Int):Ex × St:=(.exit 0,⟨J 15,[],0⟩)
def pFj (x:List Int) (i:Int):Bool:=rd (.int .i64) x i != (0:Int)
theorem bFj (x : List Int) (i : Int) : roundN c182 60 42 (loopAt c182.P 42 2) (norm2 0 [] [] sFj) (norm2 0 [] [] eFj) (TFj (x, i)) =
    .ite (decide (i < x.length)) (.asrt (0≤i∧i < x.length) (.ite (pFj x i) (.ret (RFj (x,i))) (.ret (.normal,TFj (x,IntKind.i64.wrap (i+1)))))) (.ret (EFj x)):=by kernel_rfl
def gFj (σ:St):Option (List Int × Int) :=
 match nth σ.tmps 5,nth σ.tmps 7 with
 | .view (.int .i64) A,.int .i64 i=>some (A,i)
 | _,_=>none
def LFj:LoopCon:=searchF 0 (norm2 0 [] [] sFj) TFj gFj (fun x=>x.length) (fun _=>True) pFj RFj EFj
theorem lFj (hs:SubOf c182.P 42 (.loop (loopAt c182.P 42 2))):SoundLoop c182 (loopAt c182.P 42 2) LFj :=
 search_loop (C:=c182) (g:=42) (l:=2) c182_good 60 0 _ _ (Weak.norm2 0 [] [] sFj) (Weak.norm2 0 [] [] eFj) hs TFj gFj (fun x=>x.length) (fun _=>True) pFj RFj EFj (fun _=>by intro h; cases h) (fun _=>by intro h; cases h)
  (fun x i h0 hi hl _=>.of_eq (bFj x i) (by
   rw [wrap_fits (n:=i+1) (by omega) (by omega)]
   refine (Tree.out_ite_true (decide_eq_true hi)).2 ⟨⟨h0,hi⟩,?_⟩
   cases h:pFj x i with
   | true=>exact (Tree.out_ite_true rfl).2 rfl
   | false=>exact (Tree.out_ite_false rfl).2 rfl))
  (fun x i hi=>.of_eq (bFj x i) ((Tree.out_ite_false (decide_eq_false (by omega))).2 rfl))
noncomputable def c183:Cfg:=c182.addLoop 42 2 LFj
theorem c183_good:GoodCfg c183:=c182_good.addLoop (by unfold OneLoop; kernel_rfl) lFj
theorem fFirstE (l : List Int) : callC c183 60 42 [.view (.int .i64) l] = .asrt (0 = 0 ∧ TFj (l, 0) = TFj (l, 0)) (.asrt ((0 ≤ (0 : Int) ∧ (l.length : Int) < 17592186044416) ∧ True)
    (.ite (firstP (pFj l) ((l.length:Int)-0).toNat 0).isSome (.ret (.int .i64 (rd (.int .i64) l ((firstP (pFj l) ((l.length:Int)-0).toNat 0).getD 0)),[])) (.ret (.lit .i64 0,[])))):=by kernel_rfl
def conFirstE:Con:=flatCon (d1 (dView (.int .i64))) (fun l=>(l.length:Int)=2) fun l=>.int .i64 (bif rd (.int .i64) l 0 != (0:Int) then rd (.int .i64) l 0 else rd (.int .i64) l 1)
theorem firstE_rez {l:List Int} (h:(l.length:Int)=2):∃ t,callC c183 60 42 [.view (.int .i64) l]=t∧Rez t (.int .i64 (bif rd (.int .i64) l 0 != (0:Int) then rd (.int .i64) l 0 else rd (.int .i64) l 1),[]):=⟨_,fFirstE l,by
 refine .asrt ⟨rfl,rfl⟩ (.asrt ⟨⟨Int.le_refl _,by omega⟩,trivial⟩ ?_)
 have e:((l.length:Int)-0).toNat=2:=by omega
 rw [e]
 have e2:firstP (pFj l) 2 0=bif pFj l 0 then some 0 else bif pFj l 1 then some 1 else none:=rfl
 rw [e2]
 unfold pFj
 cases h0:(rd (.int .i64) l 0 != (0:Int)) with
 | true=>exact .itet rfl (.ret (.refl _) rfl)
 | false =>
  cases h1:(rd (.int .i64) l 1 != (0:Int)) with
  | true=>exact .itet rfl (.ret (.refl _) rfl)
  | false =>
   have h1:rd (.int .i64) l 1=(0:Int):=bne_eq_false_iff_eq.1 h1
   exact .itee rfl (.ret (.lit h1.symm) rfl)⟩
theorem conFirstE_valid:ValidCon c183.P 42 conFirstE:=flatCon_valid c183_good 60 (by kernel_rfl) fun l h=>firstE_rez h
noncomputable def c184:Cfg:=c183.addQuiet 42 conFirstE
theorem c184_good:GoodCfg c184:=c183_good.addQuiet conFirstE_valid flatCon_quiet
def whenE (b:Bool) (e:Int):Int:=bif b then e else 0
theorem fWhen (b:Bool) (e:Int):callC c184 60 41 [.bool b,.int .i64 e]=.ite b (.ret (.int .i64 e,[])) (.ret (.lit .i64 0,[])):=by kernel_rfl
def conWhen:Con:=plainCon (d2 dBool dInt) fun x=>.int .i64 (whenE x.1 x.2)
theorem conWhen_valid:ValidCon c184.P 41 conWhen:=plainCon_valid c184_good 60 (by kernel_rfl) fun x=>⟨_,fWhen x.1 x.2,bif_rez (fun n:Int=>(.int .i64 n,[])) (.ret (.refl _) rfl) (.ret (.lit rfl) rfl)⟩
noncomputable def c185:Cfg:=c184.addQuiet 41 conWhen
theorem c185_good:GoodCfg c185:=c184_good.addQuiet conWhen_valid plainCon_quiet
def readyE (s:Fu.Serv):Int:=bif whenE (!mayE s) 1 != 0 then whenE (!mayE s) 1 else whenE s.R.On 4
theorem fReady (s:Fu.Serv):callC c185 60 43 [.agg (encS s)]=.asrt (smallS s) (.asrt (([whenE (!mayE s) 1,whenE s.R.On 4].length:Int)=2) (.ret (.int .i64 (readyE s),[]))):=by kernel_rfl
def conReady:Con:=flatCon (d1 dServ) smallS fun s=>.int .i64 (readyE s)
theorem conReady_valid:ValidCon c185.P 43 conReady:=flatCon_valid c185_good 60 (by kernel_rfl) fun s h=>⟨_,fReady s,.asrt h (.asrt rfl (.ret (.refl _) rfl))⟩
noncomputable def c186:Cfg:=c185.addQuiet 43 conReady
theorem c186_good:GoodCfg c186:=c185_good.addQuiet conReady_valid flatCon_quiet
def mandK (t:Fu.Task):Int:=bif t.J.Mand then worst t.J else 0
abbrev CPu:=Fu.Serv × Int × List Fu.Fix
abbrev APu:=CPu × List Fu.Fix × Int
def TPu (x:APu × Int):St:=⟨puts (J 91) [(1,.int .i64 x.1.1.2.1),(2,.view .fix x.1.1.2.2),(3,.ptr 0 0),(6,.ptr 1 0),(7,.int .i64 x.1.2.2),(8,.own 173),(18,.own 28),(19,.int .i64 x.1.1.1.W.T.length),(20,.int .i64 x.2)],
  [(0,.cells [.int .i64 x.1.1.1.W.Now,.own 28,.own 60,.int .i64 x.1.1.1.W.Cur,.bool x.1.1.1.R.On,.int .i64 x.1.1.1.R.Since,.int .i64 x.1.1.1.R.By,.int .i64 x.1.1.1.R.New,.own 172,.int .i64 x.1.1.1.NextID,.int .i64 x.1.1.1.NextAp]),
   (1,.cells [.lit .i64 0,.nils,.nils,.lit .i64 0,.blit false,.lit .i64 0,.lit .i64 0,.lit .i64 0,.nils,.lit .i64 0,.lit .i64 0]),(28,.rows .task 48 x.1.1.1.W.T),(60,.rows .ape 93 x.1.1.1.W.A),(172,.rows .aim 62 x.1.1.1.R.L),(173,.rows .fix 58 x.1.2.1)],174⟩
def sPu:List Sh:=sets (Js 91) [(1,.int),(2,.keep),(3,.keep),(6,.keep),(7,.int),(8,.keep),(18,.keep),(19,.int),(20,.int)]
def ePu:List Sh:=sets (Js 91) [(1,.int),(2,.keep),(3,.keep),(6,.keep),(7,.int),(8,.keep)]
def fPu (ss:List Sh) (σ:St):St:=norm2 173 [.tmp 8] [0,1,28,60,172,173] ss (ownSlot 8 .fix 58 σ)
theorem weak_fPu (ss:List Sh) (σ:St):Weak 173 σ (fPu ss σ):=(Weak.ownSlot 173 8 .fix 58 σ).trans (Weak.norm2 173 [.tmp 8] [0,1,28,60,172,173] ss _)
def EPu (x:APu):Ex × St:=(.exit 0,⟨puts (J 91) [(1,.int .i64 x.1.2.1),(2,.view .fix x.1.2.2),(3,.ptr 0 0),(6,.ptr 1 0),(7,.int .i64 x.2.2),(8,.own 173)],
  [(0,.cells [.int .i64 x.1.1.W.Now,.own 28,.own 60,.int .i64 x.1.1.W.Cur,.bool x.1.1.R.On,.int .i64 x.1.1.R.Since,.int .i64 x.1.1.R.By,.int .i64 x.1.1.R.New,.own 172,.int .i64 x.1.1.NextID,.int .i64 x.1.1.NextAp]),
   (1,.cells [.lit .i64 0,.nils,.nils,.lit .i64 0,.blit false,.lit .i64 0,.lit .i64 0,.lit .i64 0,.nils,.lit .i64 0,.lit .i64 0]),(28,.rows .task 48 x.1.1.W.T),(60,.rows .ape 93 x.1.1.W.A),(172,.rows .aim 62 x.1.1.R.L),(173,.rows .fix 58 x.2.1)],174⟩)
def nxtPu (x:APu) (i:Int):APu:=(x.1,x.2.1 ++ [fixK (rd .task x.1.1.W.T i)],bif (rd .task x.1.1.W.T i).J.Mand then IntKind.i64.wrap (x.2.2+worst (rd .task x.1.1.W.T i).J) else x.2.2)
theorem bPu (x : APu) (i : Int) : roundN c186 60 47 (loopAt c186.P 47 5) (fPu sPu) (fPu ePu) (TPu (x, i)) =
    .ite (decide (i < x.1.1.W.T.length)) (.asrt (0≤i∧i < x.1.1.W.T.length) (.asrt (0≤i∧i < x.1.1.W.T.length) (.asrt ((x.2.1 ++ [fixK (rd .task x.1.1.W.T i)]).length*56≤140737488355328) (.asrt ((rd .task x.1.1.W.T i).J.Mand=true→smallC (rd .task x.1.1.W.T i).J)
      (.ret (.normal,TPu (nxtPu x i,IntKind.i64.wrap (i+1)))))))) (.ret (EPu x)):=by kernel_rfl
def gPu (σ:St):Option (APu × Int) :=
 match nth σ.tmps 1,nth σ.tmps 2,nth σ.tmps 7,nth σ.tmps 20,σ.heap with
 | .int .i64 n,.view .fix f,.int .i64 k,.int .i64 i,[(_,.cells [.int .i64 a,_,_,.int .i64 c,.bool o,.int .i64 s,.int .i64 b,.int .i64 w,_,.int .i64 y,.int .i64 z]),_,(_,.rows .task _ T),(_,.rows .ape _ A),(_,.rows .aim _ L),(_,.rows .fix _ l)]=>some (((⟨⟨a,T,A,c⟩,⟨o,s,b,w,L⟩,y,z⟩,n,f),l,k),i)
 | _,_,_,_,_=>none
def okPu (x:APu) (i:Int):Prop:=(x.2.1.length+1)*56≤140737488355328∧smallC (rd .task x.1.1.W.T i).J
def LPu:LoopCon:=boundF 173 (fPu sPu) TPu gPu (fun x=>x.1.1.W.T.length) okPu nxtPu EPu
theorem lPu (hs:SubOf c186.P 47 (.loop (loopAt c186.P 47 5))):SoundLoop c186 (loopAt c186.P 47 5) LPu :=
 bound_fold (C:=c186) (g:=47) (l:=5) c186_good 60 173 _ _ (weak_fPu sPu) (weak_fPu ePu) hs TPu gPu (fun x=>x.1.1.W.T.length) okPu nxtPu EPu
  (fun _=>by intro h; cases h) (fun _ _=>rfl)
  (fun x i h0 hi hm hok=>.of_eq (bPu x i) (by
   unfold maxI64 at hm
   rw [wrap_fits (n:=i+1) (by omega) (by omega)]
   exact (Tree.out_ite_true (decide_eq_true hi)).2 ⟨⟨h0,hi⟩,⟨h0,hi⟩,by rw [List.length_append]; exact hok.1,fun _=>hok.2,rfl⟩))
  (fun x i hi=>.of_eq (bPu x i) ((Tree.out_ite_false (decide_eq_false (by omega))).2 rfl))
noncomputable def c187:Cfg:=c186.addLoop 47 5 LPu
theorem c187_good:GoodCfg c187:=c186_good.addLoop (by unfold OneLoop; kernel_rfl) lPu
abbrev CPv:=Fu.Serv × Int × Int × List Fu.Fix
abbrev APv:=CPv × List Fu.Aim
def hPv (x : APv) : Heap := [(0, .cells [.int .i64 x.1.1.W.Now, .own 28, .own 60, .int .i64 x.1.1.W.Cur, .blit true, .int .i64 x.1.1.W.Now, .int .i64 x.1.2.1, .int .i64 x.1.2.2.1, .own 294, .int .i64 x.1.1.NextID, .int .i64 x.1.1.NextAp]),
   (1,.cells [.lit .i64 0,.nils,.nils,.lit .i64 0,.blit false,.lit .i64 0,.lit .i64 0,.lit .i64 0,.nils,.lit .i64 0,.lit .i64 0]),(28,.rows .task 48 x.1.1.W.T),(60,.rows .ape 93 x.1.1.W.A),(294,.rows .aim 62 x.2)]
def TPv (x:APv × Int):St:=⟨puts (J 91) [(1,.int .i64 x.1.1.2.2.1),(3,.ptr 0 0),(6,.ptr 1 0),(55,.view .fix x.1.1.2.2.2),(56,.int .i64 x.1.1.2.2.2.length),(57,.int .i64 x.2)],hPv x.1,295⟩
def sPv:List Sh:=sets (Js 91) [(1,.int),(3,.keep),(6,.keep),(55,.keep),(56,.int),(57,.int)]
def ePv:List Sh:=sets (Js 91) [(3,.keep),(6,.keep)]
def fPv (ss:List Sh) (σ:St):St:=norm2 294 [.cell 0 8] [0,1,28,60,294] ss (ownCell 0 8 .aim 62 σ)
theorem weak_fPv (ss:List Sh) (σ:St):Weak 294 σ (fPv ss σ):=(Weak.ownCell 294 0 8 .aim 62 σ).trans (Weak.norm2 294 [.cell 0 8] [0,1,28,60,294] ss _)
def EPv (x:APv):Ex × St:=(.exit 2,⟨puts (J 91) [(3,.ptr 0 0),(6,.ptr 1 0)],hPv x,295⟩)
def idPv (c:CPv) (i:Int):Int:=bif decide (i < (c.1.W.T.length:Int)) then (rd .task c.1.W.T i).ID else c.2.2.1
def vPv (c:CPv) (i:Int):Fu.Aim:=⟨idPv c i,(rd .fix c.2.2.2 i).S,(rd .fix c.2.2.2 i).P⟩
theorem bPv (x : APv) (i : Int) : roundN c187 60 47 (loopAt c187.P 47 13) (fPv sPv) (fPv ePv) (TPv (x, i)) =
    .ite (decide (i < x.1.2.2.2.length)) (.asrt (0≤i∧i < x.1.2.2.2.length) (.asrt (decide (i < (x.1.1.W.T.length:Int))=true→0≤i∧i < x.1.1.W.T.length) (.asrt (decide (i < (x.1.1.W.T.length:Int))=true→0≤i∧i < x.1.1.W.T.length) (.asrt ((x.2 ++ [vPv x.1 i]).length*64≤140737488355328)
      (.ret (.normal,TPv (nxtP vPv x i,IntKind.i64.wrap (i+1)))))))) (.ret (EPv x)):=by kernel_rfl
def gPv (σ:St):Option (APv × Int) :=
 match nth σ.tmps 1,nth σ.tmps 55,nth σ.tmps 57,σ.heap with
 | .int .i64 n,.view .fix f,.int .i64 i,[(_,.cells [.int .i64 a,_,_,.int .i64 c,.blit o,.int .i64 s,.int .i64 b,.int .i64 w,_,.int .i64 y,.int .i64 z]),_,(_,.rows .task _ T),(_,.rows .ape _ A),(_,.rows .aim _ L)]=>some (((⟨⟨a,T,A,c⟩,default,y,z⟩,b,n,f),L),i)
 | _,_,_,_=>none
def LPv:LoopCon:=boundF 294 (fPv sPv) TPv gPv (fun x=>x.1.2.2.2.length) (okP 64 fun _ _=>True) (nxtP vPv) EPv
theorem lPv (hs:SubOf c187.P 47 (.loop (loopAt c187.P 47 13))):SoundLoop c187 (loopAt c187.P 47 13) LPv :=
 bound_fold (C:=c187) (g:=47) (l:=13) c187_good 60 294 _ _ (weak_fPv sPv) (weak_fPv ePv) hs TPv gPv (fun x=>x.1.2.2.2.length) (okP 64 fun _ _=>True) (nxtP vPv) EPv
  (fun _=>by intro h; cases h) (fun _ _=>rfl)
  (fun x i h0 hi hm hok=>.of_eq (bPv x i) (by
   unfold maxI64 at hm
   rw [wrap_fits (n:=i+1) (by omega) (by omega)]
   exact (Tree.out_ite_true (decide_eq_true hi)).2 ⟨⟨h0,hi⟩,fun h=>⟨h0,of_decide_eq_true h⟩,fun h=>⟨h0,of_decide_eq_true h⟩,by rw [List.length_append]; exact hok.1,rfl⟩))
  (fun x i hi=>.of_eq (bPv x i) ((Tree.out_ite_false (decide_eq_false (by omega))).2 rfl))
noncomputable def c188:Cfg:=c187.addLoop 47 13 LPv
theorem c188_good:GoodCfg c188:=c187_good.addLoop (by unfold OneLoop; kernel_rfl) lPv
def accPu (s:Fu.Serv) (n:Int) (f:List Fu.Fix):APu:=foldI nxtPu ((s.W.T.length:Int)-0).toNat ((s,n,f),[],0) 0
def byPu (x:APu):Int:=IntKind.i64.wrap (IntKind.i64.wrap (x.1.1.W.Now+planB x.2.1 x.2.2)-1)
def c0Pu (x:APu):CPv:=(⟨x.1.1.W,default,x.1.1.NextID,x.1.1.NextAp⟩,byPu x,x.1.2.1,x.1.2.2)
def accPv (x:APu):APv:=foldI (nxtP vPv) ((x.1.2.2.length:Int)-0).toNat (c0Pu x,[]) 0
def resPv (y:APv):AV × List Blk:=(.agg [.int .i64 y.1.1.W.Now,.own 0,.own 1,.int .i64 y.1.1.W.Cur,.blit true,.int .i64 y.1.1.W.Now,.int .i64 y.1.2.1,.int .i64 y.1.2.2.1,.own 2,.int .i64 y.1.1.NextID,.int .i64 y.1.1.NextAp],[.rows .task 48 y.1.1.W.T,.rows .ape 93 y.1.1.W.A,.rows .aim 62 y.2])
def putTr (s : Fu.Serv) (n : Int) (f : List Fu.Fix) : Tree (AV × List Blk) := .asrt (boundLT s.W.T) (.asrt (boundLA s.W.A) (.asrt (boundLM s.R.L) (.asrt (173 = 173 ∧ TPu (((s, n, f), [], 0), 0) = TPu (((s, n, f), [], 0), 0)) (.asrt (0 ≤ (0 : Int) ∧ (s.W.T.length : Int) ≤ maxI64 ∧ okI nxtPu (fun _ _ => (none : Option Unit)) okPu ((s.W.T.length : Int) - 0).toNat ((s, n, f), [], 0) 0)
    (.asrt (((accPu s n f).2.1.length:Int) < 17592186044416) (.asrt (294=294∧TPv ((c0Pu (accPu s n f),[]),0)=TPv ((c0Pu (accPu s n f),[]),0)) (.asrt (0≤(0:Int)∧((accPu s n f).1.2.2.length:Int)≤maxI64∧okI (nxtP vPv) (fun _ _=>(none:Option Unit)) (okP 64 fun _ _=>True) (((accPu s n f).1.2.2.length:Int)-0).toNat (c0Pu (accPu s n f),[]) 0)
      (.ret (resPv (accPv (accPu s n f))))))))))) 
theorem fPut (s:Fu.Serv) (n:Int) (f:List Fu.Fix):callC c188 60 47 [.agg (encS s),.int .i64 n,.view .fix f]=putTr s n f:=by kernel_rfl
def leftV (s:Fu.Serv):Int:=(s.W.T.map mandK).sum
def byV (s:Fu.Serv):Int:=s.W.Now+planB (s.W.T.map fixK) (leftV s)-1
def aimP (T:List Fu.Task) (n:Int) (f:List Fu.Fix) (i:Int):Fu.Aim:=⟨bif decide (i < (T.length:Int)) then (rd .task T i).ID else n,(rd .fix f i).S,(rd .fix f i).P⟩
def aimsP (T:List Fu.Task) (n:Int) (f:List Fu.Fix):List Fu.Aim:=mapF (aimP T n f) ((f.length:Int)-0).toNat 0
def putV (s:Fu.Serv) (n:Int) (f:List Fu.Fix):Fu.Serv:={ s with R:=⟨true,s.W.Now,byV s,n,aimsP s.W.T n f⟩ }
theorem mandK_small {w:Fu.World} (hm:mayW w=true) {t:Fu.Task} (ht:t ∈ w.T):0≤mandK t∧mandK t≤6:=by
 obtain ⟨_,_,_,_,h,_,_⟩:=mayW_iff.1 hm
 have hk:=h t ht
 unfold tkOK at hk
 rw [Bool.and_eq_true] at hk
 obtain ⟨_,_,_,_,hj,_⟩:=mayK_iff.1 hk.1
 have hj:JobOK t.S t.J:=of_decide_eq_true hj
 obtain ⟨⟨h1,h2⟩,h3⟩:=hj
 have hw:0≤worst t.J∧worst t.J≤6:=by
  rcases h3 with ⟨h4,_⟩ | ⟨h4,_,_,h5,_,h6,_⟩
  ·unfold worst; rw [h4]; simp
  ·unfold worst
   rw [h4]
   simp only [cond_true]
   omega
 unfold mandK
 cases t.J.Mand with
 | true=>exact hw
 | false=>simp
theorem foldPu (s : Fu.Serv) (n : Int) (f : List Fu.Fix) (hm : mayW s.W = true) (k : Nat) : ∀ (o : List Fu.Fix) (r i : Int), 0 ≤ i → i + k = s.W.T.length → 0 ≤ r → r + 6 * k ≤ 1000 → o.length + k ≤ 1000 →
    foldI nxtPu k ((s,n,f),o,r) i=((s,n,f),o ++ (s.W.T.drop i.toNat).map fixK,r+((s.W.T.drop i.toNat).map mandK).sum)∧okI nxtPu (fun _ _=>(none:Option Unit)) okPu k ((s,n,f),o,r) i:=by
  induction k with
  | zero =>
    intro o r i h0 h1 _ _ _
    rw [drop_end (by omega)]
    exact ⟨by simp [foldI],trivial⟩
  | succ k ih =>
    intro o r i h0 h1 h2 h3 h4
    have hd:=drop_rd (r:=.task) (xs:=s.W.T) h0 (by omega)
    have hmem:rd .task s.W.T i ∈ s.W.T:=by
      have:rd .task s.W.T i ∈ s.W.T.drop i.toNat:=by rw [hd]; simp
      exact List.mem_of_mem_drop this
    have hs:=(job_due hm hmem).1
    have hk:=mandK_small hm hmem
    have e:nxtPu ((s,n,f),o,r) i=((s,n,f),o ++ [fixK (rd .task s.W.T i)],r+mandK (rd .task s.W.T i)):=by
      unfold nxtPu
      simp only
      have e1:(bif (rd .task s.W.T i).J.Mand then IntKind.i64.wrap (r+worst (rd .task s.W.T i).J) else r)=r+mandK (rd .task s.W.T i):=by
        unfold mandK at hk ⊢
        cases hb:(rd .task s.W.T i).J.Mand with
        | true =>
          rw [hb] at hk
          simp only [cond_true] at hk ⊢
          exact wrap_fits (by omega) (by omega)
        | false=>simp only [cond_false]; omega
      rw [e1]
    obtain ⟨k1,k2⟩:=ih (o ++ [fixK (rd .task s.W.T i)]) (r+mandK (rd .task s.W.T i)) (i+1) (by omega) (by omega) (by omega) (by omega) (by rw [List.length_append]; simp only [List.length_cons,List.length_nil]; omega)
    refine ⟨?_,⟨by simp only; omega,hs⟩,fun _=>by rw [e]; exact k2⟩
    unfold foldI
    rw [e,k1,hd,List.map_cons,List.map_cons,List.sum_cons,List.append_assoc,Int.add_assoc]
    rfl
theorem sum_small {l:List Fu.Task} (h:∀ t ∈ l,0≤mandK t∧mandK t≤6):0≤(l.map mandK).sum∧(l.map mandK).sum≤6*l.length:=by
 induction l with
 | nil=>simp
 | cons a l ih =>
  have h1:=h a (by simp)
  have h2:=ih fun t ht=>h t (by simp [ht])
  simp only [List.map_cons,List.sum_cons,List.length_cons]
  omega
theorem planB_range {l:List Fu.Fix} {r:Int} (h0:0≤r) (h1:r≤24):0≤planB l r∧planB l r≤1153:=by
 unfold planB
 cases hc:(!mayFs l || (decide (r < 0) || decide (r > 1048576))) with
 | true=>simp
 | false =>
  simp only [Bool.or_eq_false_iff,Bool.not_eq_false'] at hc
  have hm:=hc.1
  unfold mayFs at hm
  simp only [Bool.and_eq_true,decide_eq_true_eq,List.all_eq_true] at hm
  obtain ⟨h4,h5,_⟩:=hm
  have:∀ l:List Fu.Fix,(∀ x ∈ l,0≤x.S.C∧x.S.C≤6)→0≤sumC l∧sumC l≤6*l.length:=by
   intro l
   induction l with
   | nil=>intro _; simp [sumC]
   | cons a l ih =>
    intro h
    have h1:=h a (by simp)
    have h2:=ih fun t ht=>h t (by simp [ht])
    have e:sumC (a :: l)=a.S.C+sumC l:=by simp [sumC]
    rw [e,List.length_cons]
    omega
  obtain ⟨k1,k2⟩:=this l fun x hx=>(mayF_C (h4 x hx)).2
  simp only [cond_false]
  omega
def okPut (x:Fu.Serv × Int × List Fu.Fix):Prop:=smallS x.1∧mayW x.1.W=true∧x.2.2.length≤4
def putRes (s:Fu.Serv):AV × List Blk:=(.agg [.int .i64 s.W.Now,.own 0,.own 1,.int .i64 s.W.Cur,.bool s.R.On,.int .i64 s.R.Since,.int .i64 s.R.By,.int .i64 s.R.New,.own 2,.int .i64 s.NextID,.int .i64 s.NextAp],[.rows .task 48 s.W.T,.rows .ape 93 s.W.A,.rows .aim 62 s.R.L])
theorem put_rez {s:Fu.Serv} {n:Int} {f:List Fu.Fix} (h:okPut (s,n,f)):Rez (putTr s n f) (putRes (putV s n f)):=by
 obtain ⟨h1,hm,hf⟩:=h
 simp only at h1 hm hf
 obtain ⟨⟨hn0,hn1⟩,hT,_,_,_,_,_⟩:=mayW_iff.1 hm
 obtain ⟨k1,k2⟩:=foldPu s n f hm ((s.W.T.length:Int)-0).toNat [] 0 0 (Int.le_refl _) (by omega) (Int.le_refl _) (by omega) (by simp only [List.length_nil]; omega)
 have e:accPu s n f=((s,n,f),s.W.T.map fixK,leftV s):=by
  unfold accPu
  rw [k1]
  simp [leftV]
 have hs:=sum_small (l:=s.W.T) fun t ht=>mandK_small hm ht
 have hl:0≤leftV s∧leftV s≤24:=by
  unfold leftV
  omega
 have hb:=planB_range (l:=s.W.T.map fixK) hl.1 hl.2
 have eby:byPu ((s,n,f),s.W.T.map fixK,leftV s)=byV s:=by
  unfold byPu byV
  simp only
  rw [wrap_fits (n:=s.W.Now+planB (s.W.T.map fixK) (leftV s)) (by omega) (by omega),wrap_fits (by omega) (by omega)]
 obtain ⟨q1,q2⟩:=foldP vPv 64 (fun _ _=>True) (c0Pu ((s,n,f),s.W.T.map fixK,leftV s)) ((f.length:Int)-0).toNat [] 0 (fun _ _ _=>trivial) (by simp only [List.length_nil]; omega)
 refine .asrt h1.1.1 (.asrt h1.1.2 (.asrt h1.2 (.asrt ⟨rfl,rfl⟩ (.asrt ⟨Int.le_refl _,by unfold maxI64; omega,k2⟩ ?_))))
 rw [e]
 refine .asrt (by simp only [List.length_map]; omega) (.asrt ⟨rfl,rfl⟩ (.asrt ⟨Int.le_refl _,by unfold maxI64; simp only; omega,q2⟩ ?_))
 have e2:accPv ((s,n,f),s.W.T.map fixK,leftV s)=(c0Pu ((s,n,f),s.W.T.map fixK,leftV s),aimsP s.W.T n f):=by
  unfold accPv
  exact q1
 rw [e2]
 have e3:c0Pu ((s,n,f),s.W.T.map fixK,leftV s)=(⟨s.W,default,s.NextID,s.NextAp⟩,byV s,n,f):=by
  unfold c0Pu
  rw [eby]
 rw [e3]
 exact .ret (.agg (.cons (.refl _) (.cons (.refl _) (.cons (.refl _) (.cons (.refl _) (.cons (.blit rfl) (.cons (.refl _) (.cons (.refl _) (.cons (.refl _) (.cons (.refl _) (.cons (.refl _) (.cons (.refl _) .nil)))))))))))) rfl
def conPut:Con:=resCon (d3 dServ dInt (dView .fix)) okPut fun x=>putRes (putV x.1 x.2.1 x.2.2)
theorem conPut_valid:ValidCon c188.P 47 conPut:=resCon_valid c188_good 60 (by kernel_rfl) fun x h=>⟨_,fPut x.1 x.2.1 x.2.2,put_rez h⟩
noncomputable def c189:Cfg:=c188.addCon 47 conPut
theorem c189_good:GoodCfg c189:=c188_good.addCon conPut_valid (by kernel_rfl)
end Go.Fx
