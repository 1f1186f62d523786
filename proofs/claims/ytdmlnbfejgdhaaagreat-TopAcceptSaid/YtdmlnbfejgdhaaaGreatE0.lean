import Derived.Test.YtdmlnbfejgdhaaaGreatP0
namespace Go.Fx
open Go Go.Proofs
def dOp:Dc Fu.Op:=dRow .op
def odd (d:Int):Bool:=decide (d < 1) || decide (20 < d)
theorem fOdd (a:Int):callC c207 30 74 [.int .i64 a]=.ret (.bool (odd a),[]):=by kernel_rfl
def conOdd:Con:=plainCon (d1 dInt) fun a=>.bool (odd a)
theorem conOdd_valid:ValidCon c207.P 74 conOdd:=plainCon_valid c207_good 30 (by kernel_rfl) fun a=>⟨_,fOdd a,.ret (.refl _) rfl⟩
noncomputable def c208:Cfg:=c207.addQuiet 74 conOdd
theorem c208_good:GoodCfg c208:=c207_good.addQuiet conOdd_valid plainCon_quiet
def oddF:AV:=.fn (.func 74) [] []
def TSw (x:List Int × Int):St:=⟨puts (J 19) [(0,.view (.int .i64) x.1),(1,oddF),(7,.int .i64 x.1.length),(8,.int .i64 x.2)],[],0⟩
def sSw:List Sh:=sets (Js 19) [(0,.keep),(1,.keep),(7,.int),(8,.int)]
def eSw:List Sh:=sets (Js 19) [(4,.int)]
def RSw (x:List Int × Int):Ex × St:=(.ret,⟨puts (J 19) [(4,.int .i64 x.2)],[],0⟩)
def ESw (_:List Int):Ex × St:=(.exit 0,⟨J 19,[],0⟩)
theorem bSw (x : List Int) (i : Int) : roundN c208 60 139 (loopAt c208.P 139 2) (norm2 0 [] [] sSw) (norm2 0 [] [] eSw) (TSw (x, i)) =
    .ite (decide (i < x.length)) (.asrt (0≤i∧i < x.length) (.ite (odd (rd (.int .i64) x i)) (.ret (RSw (x,i))) (.ret (.normal,TSw (x,IntKind.i64.wrap (i+1)))))) (.ret (ESw x)):=by kernel_rfl
def gSw (σ:St):Option (List Int × Int) :=
 match nth σ.tmps 0,nth σ.tmps 8 with
 | .view (.int .i64) A,.int .i64 i=>some (A,i)
 | _,_=>none
def pSw (x:List Int) (i:Int):Bool:=odd (rd (.int .i64) x i)
def LSw:LoopCon:=searchF 0 (norm2 0 [] [] sSw) TSw gSw (fun x=>x.length) (fun _=>True) pSw RSw ESw
theorem lSw (hs:SubOf c208.P 139 (.loop (loopAt c208.P 139 2))):SoundLoop c208 (loopAt c208.P 139 2) LSw :=
 search_loop (C:=c208) (g:=139) (l:=2) c208_good 60 0 _ _ (Weak.norm2 0 [] [] sSw) (Weak.norm2 0 [] [] eSw) hs TSw gSw (fun x=>x.length) (fun _=>True) pSw RSw ESw (fun _=>by intro h; cases h) (fun _=>by intro h; cases h)
  (fun x i h0 hi hl _=>.of_eq (bSw x i) (by
   rw [wrap_fits (n:=i+1) (by omega) (by omega)]
   refine (Tree.out_ite_true (decide_eq_true hi)).2 ⟨⟨h0,hi⟩,?_⟩
   unfold pSw
   cases h:odd (rd (.int .i64) x i) with
   | true=>exact (Tree.out_ite_true rfl).2 rfl
   | false=>exact (Tree.out_ite_false rfl).2 rfl))
  (fun x i hi=>.of_eq (bSw x i) ((Tree.out_ite_false (decide_eq_false (by omega))).2 rfl))
noncomputable def c209:Cfg:=c208.addLoop 139 2 LSw
theorem c209_good:GoodCfg c209:=c208_good.addLoop (by unfold OneLoop; kernel_rfl) lSw
def anyOdd (l:List Int):Bool:=(firstP (pSw l) ((l.length:Int)-0).toNat 0).isSome
theorem fAnyOdd (l : List Int) : callC c209 60 76 [.view (.int .i64) l, oddF] = .asrt (0 = 0 ∧ TSw (l, 0) = TSw (l, 0)) (.asrt ((0 ≤ (0 : Int) ∧ (l.length : Int) < 17592186044416) ∧ True)
    (.ite (firstP (pSw l) ((l.length:Int)-0).toNat 0).isSome (.ret (.bool (decide ((firstP (pSw l) ((l.length:Int)-0).toNat 0).getD 0≥0)),[])) (.ret (.blit false,[])))):=by kernel_rfl
def conAnyOdd:Con:=flatCon (d2 (dView (.int .i64)) (dFn 74)) (fun x=>(x.1.length:Int) < 17592186044416) fun x=>.bool (anyOdd x.1)
theorem anyOdd_rez {l:List Int} (h:(l.length:Int) < 17592186044416):∃ t,callC c209 60 76 [.view (.int .i64) l,oddF]=t∧Rez t (.bool (anyOdd l),[]):=⟨_,fAnyOdd l,by
 unfold anyOdd
 refine .asrt ⟨rfl,rfl⟩ (.asrt ⟨⟨Int.le_refl _,h⟩,trivial⟩ ?_)
 cases hf:firstP (pSw l) ((l.length:Int)-0).toNat 0 with
 | none=>exact .itee rfl (.ret (.blit rfl) rfl)
 | some j =>
  have hj:=(firstP_some hf).1.1
  refine .itet rfl (.ret (.eq ?_) rfl)
  simp only [Option.getD_some,Option.isSome_some]
  rw [decide_eq_true hj]⟩
theorem conAnyOdd_valid:ValidCon c209.P 76 conAnyOdd:=flatCon_valid c209_good 60 (by kernel_rfl) fun x h=>anyOdd_rez h
noncomputable def c210:Cfg:=c209.addQuiet 76 conAnyOdd
theorem c210_good:GoodCfg c210:=c209_good.addQuiet conAnyOdd_valid flatCon_quiet
def sameOp (a b:Fu.Op):Bool :=
 (a.Kind == b.Kind && (a.ID == b.ID && (a.S.C == b.S.C && (a.S.T == b.S.T && (a.S.Max == b.S.Max && (a.S.M == b.S.M && (a.S.K == b.S.K && a.S.E == b.S.E)))) &&
  (a.T == b.T && (a.Max == b.Max && (a.Within == b.Within && (a.C == b.C && a.V == b.V)))))))
theorem sameOp_iff (a b:Fu.Op):(decide (a.D=b.D) && sameOp a b)=decide (a=b):=by
 obtain ⟨a1,a2,⟨a3,a4,a5,a6,a7,a8⟩,a9,a10,a11,a12,a13,a14⟩:=a
 obtain ⟨b1,b2,⟨b3,b4,b5,b6,b7,b8⟩,b9,b10,b11,b12,b13,b14⟩:=b
 rw [Bool.eq_iff_iff]
 simp only [sameOp,Bool.and_eq_true,decide_eq_true_eq,beq_iff_eq,Fu.Op.mk.injEq,Fu.Spec.mk.injEq]
 constructor
 ·rintro ⟨h14,h1,h2,⟨h3,h4,h5,h6,h7,h8⟩,h9,h10,h11,h12,h13⟩
  exact ⟨h1,h2,⟨h3,h4,h5,h6,h7,h8⟩,h9,h10,h11,h12,h13,h14⟩
 ·rintro ⟨h1,h2,⟨h3,h4,h5,h6,h7,h8⟩,h9,h10,h11,h12,h13,h14⟩
  exact ⟨h14,h1,h2,⟨h3,h4,h5,h6,h7,h8⟩,h9,h10,h11,h12,h13⟩
theorem fSameOp (a b:Fu.Op):callC c210 60 75 [.agg (encOp a),.agg (encOp b)]=.asrt ((a.D.length:Int)≤17592186044415) (.ite (!decide (a.D=b.D)) (.ret (.blit false,[])) (.ret (.bool (sameOp a b),[]))):=by kernel_rfl
def conSameOp:Con:=flatCon (d2 dOp dOp) (fun x=>(x.1.D.length:Int)≤17592186044415) fun x=>.bool (decide (x.1=x.2))
theorem sameOp_rez {a b:Fu.Op} (h:(a.D.length:Int)≤17592186044415):∃ t,callC c210 60 75 [.agg (encOp a),.agg (encOp b)]=t∧Rez t (.bool (decide (a=b)),[]):=⟨_,fSameOp a b,by
 refine .asrt h ?_
 rw [← sameOp_iff]
 cases hd:decide (a.D=b.D) with
 | false=>exact .itet rfl (.ret (.blit rfl) rfl)
 | true=>exact .itee rfl (.ret (.eq (by rw [Bool.true_and])) rfl)⟩
theorem conSameOp_valid:ValidCon c210.P 75 conSameOp:=flatCon_valid c210_good 60 (by kernel_rfl) fun x h=>sameOp_rez h
noncomputable def c211:Cfg:=c210.addQuiet 75 conSameOp
theorem c211_good:GoodCfg c211:=c210_good.addQuiet conSameOp_valid flatCon_quiet
def badOp (n s:Int):Bool:=decide (n < 0) || decide (shrI .i64 n (IntKind.i64.wrap (8*s)) > 0)
def noW:Tree (AV × List Blk):=.ret (.blit false,[])
def endOpT (o p:Fu.Op):Tree (AV × List Blk) :=
 .asrt ((o.D.length:Int)≤17592186044415) (.asrt (decide (o=p)=true→decide ((o.D.length:Int)≤4)=true→(o.D.length:Int) < 17592186044416)
  (.ret (.bool (decide (o=p) && (decide ((o.D.length:Int)≤4) && !anyOdd o.D)),[])))
def lastOpT (o p:Fu.Op):Tree (AV × List Blk):=.ite (o.Kind == 4) (endOpT o { p with D:=o.D }) (endOpT o p)
def chksW:List (Int × Int)→Tree (AV × List Blk)→Tree (AV × List Blk)
 | [],t=>t
 | (n,s) :: l,t=>.ite (badOp n s) noW (chksW l t)
def hasOf (o:Fu.Op):List (Int × Int) × Fu.Op :=
 if o.Kind=0 then ([(o.S.C,1),(o.S.T,1),(o.S.Max,1),(o.S.M,1),(o.S.K,1),(o.S.E,1)],⟨o.Kind,0,o.S,0,0,0,0,0,[]⟩)
 else if o.Kind=1 then ([(o.ID,2),(o.T,1),(o.Max,1)],⟨o.Kind,o.ID,⟨0,0,0,0,0,0⟩,o.T,o.Max,0,0,0,[]⟩)
 else if o.Kind=2 then ([(o.ID,2)],⟨o.Kind,o.ID,⟨0,0,0,0,0,0⟩,0,0,0,0,0,[]⟩)
 else if o.Kind=3 then ([(o.Within,1),(o.C,1),(o.V,2)],⟨o.Kind,0,⟨0,0,0,0,0,0⟩,0,0,o.Within,o.C,o.V,[]⟩)
 else ([],⟨o.Kind,0,⟨0,0,0,0,0,0⟩,0,0,0,0,0,if o.Kind=4 then o.D else []⟩)
theorem fWMay (o : Fu.Op) : callC c211 200 35 [.agg (encOp o)] =
    .ite (decide (o.Kind < 0) || decide (o.Kind≥5)) noW
      (.ite (o.Kind == 0) (chksW [(o.S.C,1),(o.S.T,1),(o.S.Max,1),(o.S.M,1),(o.S.K,1),(o.S.E,1)] (lastOpT o ⟨o.Kind,0,o.S,0,0,0,0,0,[]⟩))
      (.ite (o.Kind == 1) (chksW [(o.ID,2),(o.T,1),(o.Max,1)] (lastOpT o ⟨o.Kind,o.ID,⟨0,0,0,0,0,0⟩,o.T,o.Max,0,0,0,[]⟩))
      (.ite (o.Kind == 2) (chksW [(o.ID,2)] (lastOpT o ⟨o.Kind,o.ID,⟨0,0,0,0,0,0⟩,0,0,0,0,0,[]⟩))
      (.ite (o.Kind == 3) (chksW [(o.Within,1),(o.C,1),(o.V,2)] (lastOpT o ⟨o.Kind,0,⟨0,0,0,0,0,0⟩,0,0,o.Within,o.C,o.V,[]⟩))
        (lastOpT o ⟨o.Kind,0,⟨0,0,0,0,0,0⟩,0,0,0,0,0,[]⟩))))):=by kernel_rfl
def ResW (t:Tree (AV × List Blk)) (b:Bool):Prop:=∃ v,AsArg v (.bool b)∧t.Out (v,[])
theorem ResW.no {b:Bool} (h:b=false):ResW noW b:=⟨_,.blit h.symm,rfl⟩
theorem ResW.ite {c:Bool} {t e:Tree (AV × List Blk)} {b:Bool} (h1:c=true→ResW t b) (h2:c=false→ResW e b):ResW (.ite c t e) b:=by
 cases c with
 | true=>obtain ⟨v,h3,h4⟩:=h1 rfl; exact ⟨v,h3,(Tree.out_ite_true rfl).2 h4⟩
 | false=>obtain ⟨v,h3,h4⟩:=h2 rfl; exact ⟨v,h3,(Tree.out_ite_false rfl).2 h4⟩
theorem ResW.chksW {t:Tree (AV × List Blk)} {b:Bool}:∀ {l:List (Int × Int)},(l.all (fun p=>!badOp p.1 p.2)=false→b=false)→(l.all (fun p=>!badOp p.1 p.2)=true→ResW t b)→ResW (chksW l t) b
 | [],_,h=>h rfl
 | (n,s) :: l,h1,h2=>by
  refine ResW.ite (fun hb=>ResW.no (h1 (by simp [hb]))) (fun hb=>ResW.chksW (fun h=>h1 ?_) (fun h=>h2 ?_))
  ·simp only [List.all_cons,h,Bool.and_false]
  ·simp only [List.all_cons,h,hb,Bool.not_false,Bool.and_self]
def endOpB (o p:Fu.Op):Bool:=decide (o=p) && (decide ((o.D.length:Int)≤4) && !anyOdd o.D)
theorem ResW.endOpT {o p:Fu.Op} (hl:(o.D.length:Int)≤17592186044415):ResW (endOpT o p) (endOpB o p):=by
 have h2:(o.D.length:Int) < 17592186044416:=by omega
 exact ⟨_,.refl _,hl,fun _ _=>h2,rfl⟩
def mayOp (o:Fu.Op):Bool:=!(decide (o.Kind < 0) || decide (o.Kind≥5)) && ((hasOf o).1.all (fun p=>!badOp p.1 p.2) && endOpB o (hasOf o).2)
theorem mayOp_res (o:Fu.Op) (hl:(o.D.length:Int)≤17592186044415):∃ t,callC c211 200 35 [.agg (encOp o)]=t∧Rez t (.bool (mayOp o),[]):=by
  have key : ResW (.ite (decide (o.Kind < 0) || decide (o.Kind ≥ 5)) noW
      (.ite (o.Kind == 0) (chksW [(o.S.C,1),(o.S.T,1),(o.S.Max,1),(o.S.M,1),(o.S.K,1),(o.S.E,1)] (lastOpT o ⟨o.Kind,0,o.S,0,0,0,0,0,[]⟩))
      (.ite (o.Kind == 1) (chksW [(o.ID,2),(o.T,1),(o.Max,1)] (lastOpT o ⟨o.Kind,o.ID,⟨0,0,0,0,0,0⟩,o.T,o.Max,0,0,0,[]⟩))
      (.ite (o.Kind == 2) (chksW [(o.ID,2)] (lastOpT o ⟨o.Kind,o.ID,⟨0,0,0,0,0,0⟩,0,0,0,0,0,[]⟩))
      (.ite (o.Kind == 3) (chksW [(o.Within,1),(o.C,1),(o.V,2)] (lastOpT o ⟨o.Kind,0,⟨0,0,0,0,0,0⟩,0,0,o.Within,o.C,o.V,[]⟩))
        (lastOpT o ⟨o.Kind,0,⟨0,0,0,0,0,0⟩,0,0,0,0,0,[]⟩)))))) (mayOp o):=by
    have step:∀ (l:List (Int × Int)) (p:Fu.Op),(hasOf o)=(l,if o.Kind=4 then { p with D:=o.D } else p)→(decide (o.Kind < 0) || decide (o.Kind≥5))=false→ResW (chksW l (lastOpT o p)) (mayOp o):=by
      intro l p hh hk
      have hm:mayOp o=(l.all (fun p=>!badOp p.1 p.2) && endOpB o (if o.Kind=4 then { p with D:=o.D } else p)):=by simp only [mayOp,hk,hh,Bool.not_false,Bool.true_and]
      rw [hm]
      refine ResW.chksW (fun h=>by rw [h]; rfl) (fun h=>?_)
      rw [h,Bool.true_and]
      refine ResW.ite (fun h4=>?_) (fun h4=>?_)
      · rw [if_pos (by simpa using h4)]; exact ResW.endOpT hl
      · rw [if_neg (by simpa using h4)]; exact ResW.endOpT hl
    refine ResW.ite (fun hk=>ResW.no (by simp only [mayOp,hk]; rfl)) fun hk=>?_
    refine ResW.ite (fun h0=>?_) fun h0=>ResW.ite (fun h1=>?_) fun h1=>ResW.ite (fun h2=>?_) fun h2=>ResW.ite (fun h3=>?_) fun h3=>?_
    · have e:o.Kind=0:=by simpa using h0
      exact step _ _ (by simp [hasOf,e]) hk
    · have e:o.Kind=1:=by simpa using h1
      exact step _ _ (by simp [hasOf,e]) hk
    · have e:o.Kind=2:=by simpa using h2
      exact step _ _ (by simp [hasOf,e]) hk
    · have e:o.Kind=3:=by simpa using h3
      exact step _ _ (by simp [hasOf,e]) hk
    · have e0:¬ o.Kind=0:=by simpa using h0
      have e1:¬ o.Kind=1:=by simpa using h1
      have e2:¬ o.Kind=2:=by simpa using h2
      have e3:¬ o.Kind=3:=by simpa using h3
      refine step [] _ ?_ hk
      simp only [hasOf,e0,e1,e2,e3,if_false]
      by_cases e4:o.Kind=4 <;> simp [e4]
  obtain ⟨v,h1,h2⟩:=key
  exact ⟨_,fWMay o,v,h1,h2⟩
def conWMay:Con:=flatCon (d1 dOp) (fun o=>(o.D.length:Int)≤17592186044415) fun o=>.bool (mayOp o)
theorem conWMay_valid:ValidCon c211.P 35 conWMay:=flatCon_valid c211_good 200 (by kernel_rfl) fun o h=>mayOp_res o h
noncomputable def c212:Cfg:=c211.addQuiet 35 conWMay
theorem c212_good:GoodCfg c212:=c211_good.addQuiet conWMay_valid flatCon_quiet
def whyV (s:Fu.Serv) (f:Bool):Int:=bif !mayE s then 1 else bif !f then 7 else bif s.W.Now == 274877906944 then 8 else 0
theorem fWhy (s:Fu.Serv) (f:Bool):callC c212 60 57 [.agg (encS s),.bool f]=.asrt (smallS s) (.ite (!mayE s) (.ret (.lit .i64 1,[])) (.ite (!f) (.ret (.lit .i64 7,[])) (.ite (s.W.Now == 274877906944) (.ret (.lit .i64 8,[])) (.ret (.lit .i64 0,[]))))):=by kernel_rfl
def conWhy:Con:=flatCon (d2 dServ dBool) (fun x=>smallS x.1) fun x=>.int .i64 (whyV x.1 x.2)
theorem why_rez {s:Fu.Serv} {f:Bool} (h:smallS s):∃ t,callC c212 60 57 [.agg (encS s),.bool f]=t∧Rez t (.int .i64 (whyV s f),[]):=⟨_,fWhy s f,.asrt h (by
 let F:Int→AV × List Blk:=fun n=>(.int .i64 n,[])
 exact bif_rez F (.ret (.lit rfl) rfl) (bif_rez F (.ret (.lit rfl) rfl) (bif_rez F (.ret (.lit rfl) rfl) (.ret (.lit rfl) rfl))))⟩
theorem conWhy_valid:ValidCon c212.P 57 conWhy:=flatCon_valid c212_good 60 (by kernel_rfl) fun x h=>why_rez h
noncomputable def c213:Cfg:=c212.addQuiet 57 conWhy
theorem c213_good:GoodCfg c213:=c212_good.addQuiet conWhy_valid flatCon_quiet
def trTick (w:Fu.World) (d:List Int):Trc:=(w.Now,(whoW (startW w d)).1,(whoW (startW w d)).2,(midW w d).2,(beginW w d).2,tickM w d,(pickW (startW w d)).2)
def tickF (w:Fu.World) (d:List Int):AV:=.tup [.agg (encW (tickW w d)),.agg (encTrc (trTick w d)),.blit true]
def conTickF:Con:=flatCon dTk tickY fun x=>tickF x.1 x.2
set_option maxRecDepth 100000 in
theorem conTickF_valid:ValidCon c213.P 38 conTickF:=resCon_frozen conTickY_valid fun _=>⟨_,rfl,.refl _⟩
noncomputable def c214:Cfg:=c213.addQuiet 38 conTickF
theorem c214_good:GoodCfg c214:=c213_good.addQuiet conTickF_valid flatCon_quiet
def waysB:Blk:=.lmap [(.lit .i64 0,.agg [.fn (.func 115) [] []]),(.lit .i64 1,.agg [.fn (.func 116) [] []]),(.lit .i64 2,.agg [.fn (.func 117) [] []]),(.lit .i64 3,.agg [.fn (.func 118) [] []]),(.lit .i64 4,.agg [.fn (.func 119) [] []])]
theorem fWays:callC c214 60 59 []=.ret (.map 0,[waysB]):=by kernel_rfl
def conWays:Con:=resCon Ds.none (fun _=>True) fun _=>(.map 0,[waysB])
theorem conWays_valid:ValidCon c214.P 59 conWays:=resCon_valid c214_good 60 (by kernel_rfl) fun _ _=>⟨_,fWays,.ret (.refl _) rfl⟩
noncomputable def c215:Cfg:=c214.addCon 59 conWays
theorem c215_good:GoodCfg c215:=c214_good.addCon conWays_valid (by kernel_rfl)
end Go.Fx
