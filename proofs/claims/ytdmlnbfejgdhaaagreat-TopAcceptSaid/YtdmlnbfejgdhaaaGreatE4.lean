import Derived.Test.YtdmlnbfejgdhaaaGreatE3
namespace Go.Fx
open Go Go.Proofs
abbrev SSs:=Fu.Serv × Fu.Serv
def TSs (x:SSs × Int):St:=⟨puts (J 96) [(2,.ptr 0 0),(3,.ptr 1 0),(6,.int .i64 x.2)],[(0,.cells (encS x.1.1)),(1,.cells (encS x.1.2))],2⟩
def sSs:List Sh:=sets (Js 96) [(2,.keep),(3,.keep),(6,.int)]
def eSs:List Sh:=sets (Js 96) [(2,.keep),(3,.keep),(4,.keep)]
def RSs (x:SSs):Ex × St:=(.ret,⟨puts (J 96) [(2,.ptr 0 0),(3,.ptr 1 0),(4,.blit false)],[(0,.cells (encS x.1)),(1,.cells (encS x.2))],2⟩)
def ESs (x:SSs):Ex × St:=(.exit 0,⟨puts (J 96) [(2,.ptr 0 0),(3,.ptr 1 0)],[(0,.cells (encS x.1)),(1,.cells (encS x.2))],2⟩)
theorem bSs (x : SSs) (i : Int) : roundN c237 60 32 (loopAt c237.P 32 5) (norm2 2 [] [0, 1] sSs) (norm2 2 [] [0, 1] eSs) (TSs (x, i)) =
    .ite (decide (i < x.1.R.L.length)) (.asrt (0≤i∧i < x.1.R.L.length) (.asrt (0≤i∧i < x.2.R.L.length) (.ite (!eqAimB (rd .aim x.1.R.L i) (rd .aim x.2.R.L i)) (.ret (RSs x)) (.ret (.normal,TSs (x,IntKind.i64.wrap (i+1))))))) (.ret (ESs x)):=by kernel_rfl
def gSs (σ:St):Option (SSs × Int) :=
 match nth σ.tmps 6,σ.heap with
 | .int .i64 i,[(_,.cells [.int .i64 a,.view .task t,.view .ape p,.int .i64 c,.bool o,.int .i64 si,.int .i64 b,.int .i64 n,.view .aim l,.int .i64 y,.int .i64 z]),(_,.cells [.int .i64 a2,.view .task t2,.view .ape p2,.int .i64 c2,.bool o2,.int .i64 si2,.int .i64 b2,.int .i64 n2,.view .aim l2,.int .i64 y2,.int .i64 z2])] =>
  some ((⟨⟨a,t,p,c⟩,⟨o,si,b,n,l⟩,y,z⟩,⟨⟨a2,t2,p2,c2⟩,⟨o2,si2,b2,n2,l2⟩,y2,z2⟩),i)
 | _,_=>none
def LxSs (x:SSs × Int):Tree (Ex × St):=.asrt (0≤x.2∧x.2≤x.1.1.R.L.length∧x.1.1.R.L.length=x.1.2.R.L.length∧(x.1.1.R.L.length:Int)≤17592186044415) (.ite (decide (x.1.1.R.L.drop x.2.toNat=x.1.2.R.L.drop x.2.toNat)) (.ret (ESs x.1)) (.ret (RSs x.1)))
def LSs:LoopCon:=entry 2 (norm2 2 [] [0,1] sSs) TSs gSs LxSs
theorem lSs (hs:SubOf c237.P 32 (.loop (loopAt c237.P 32 5))):SoundLoop c237 (loopAt c237.P 32 5) LSs:=by
 refine loop_rule3 (C:=c237) (g:=32) (l:=5) c237_good 60 2 _ _ (Weak.norm2 2 [] [0,1] sSs) (Weak.norm2 2 [] [0,1] eSs) hs TSs LxSs (fun x=>(x.1.1.R.L.length-x.2).toNat) (fun x q h=>?_) entry_out
 obtain ⟨⟨a,b⟩,i⟩:=x
 obtain ⟨⟨h0,h1,h2,h3⟩,h⟩:=Tree.out_asrt.1 h
 simp only at h0 h1 h2 h3 h
 refine .of_eq (bSs (a,b) i) ?_
 rw [wrap_fits (n:=i+1) (by omega) (by omega)]
 refine Tree.wp_ite.2 ⟨fun hi=>?_,fun hi=>?_⟩
 ·have hi:i < (a.R.L.length:Int):=of_decide_eq_true hi
  rw [drop_rd (r:=.aim) h0 hi,drop_rd (r:=.aim) (xs:=b.R.L) h0 (by omega),cons_eq_dec,← eqAimB_eq] at h
  refine ⟨⟨h0,hi⟩,⟨h0,by show i < (b.R.L.length:Int); omega⟩,Tree.wp_ite.2 ⟨fun hb=>?_,fun hb=>?_⟩⟩
  ·have hb:eqAimB (rd .aim a.R.L i) (rd .aim b.R.L i)=false:=by simpa using hb
   rw [hb] at h
   exact Rnd.ret h
  ·have hb:eqAimB (rd .aim a.R.L i) (rd .aim b.R.L i)=true:=by simpa using hb
   rw [hb,Bool.true_and] at h
   exact Rnd.go (m:=fun x:SSs × Int=>(x.1.1.R.L.length-x.2).toNat) (x:=((a,b),i)) ((a,b),i+1) (by simp only; omega) (Tree.out_asrt.2 ⟨⟨by simp only; omega,by simp only; omega,h2,h3⟩,h⟩)
 ·have hi:¬ i < (a.R.L.length:Int):=of_decide_eq_false hi
  rw [drop_end (by omega),drop_end (xs:=b.R.L) (by omega)] at h
  exact Rnd.out h
noncomputable def c238:Cfg:=c237.addLoop 32 5 LSs
theorem c238_good:GoodCfg c238:=c237_good.addLoop (by unfold OneLoop; kernel_rfl) lSs
def bad20 (a b:Fu.Serv):Bool:=!decide (a.W=b.W) || (a.NextID != b.NextID || (a.NextAp != b.NextAp || (!(a.R.On == b.R.On) || (a.R.Since != b.R.Since || (a.R.By != b.R.By || (a.R.New != b.R.New || (a.R.L.length:Int) != b.R.L.length))))))
def same20T (a b:Fu.Serv):Tree (AV × List Blk):=.asrt (smallW a.W) (.ite (bad20 a b) noB (.asrt (2=2∧TSs ((a,b),0)=TSs ((a,b),0)) (.asrt (0≤(0:Int)∧(0:Int)≤a.R.L.length∧a.R.L.length=b.R.L.length∧(a.R.L.length:Int)≤17592186044415) (.ite (decide (a.R.L.drop (0:Int).toNat=b.R.L.drop (0:Int).toNat)) (.ret (.blit true,[])) noB))))
theorem fSame20 (a b:Fu.Serv):callC c238 60 32 [.agg (encS a),.agg (encS b)]=same20T a b:=by kernel_rfl
def conSame20:Con:=flatCon (d2 dServ dServ) (fun x=>smallS x.1) fun x=>.bool (decide (x.1=x.2))
theorem same20T_rez {a b:Fu.Serv} (h:smallS a):Rez (same20T a b) (.bool (decide (a=b)),[]):=by
 have hl:=smallS_len h
 refine .asrt h.1 (ite_rez (fun hb=>noB_rez ?_) fun hb=>?_)
 ·refine decide_eq_false fun e=>?_
  subst e
  simp [bad20] at hb
 ·simp only [bad20,Bool.or_eq_false_iff,bne_eq_false_iff_eq,Bool.not_eq_false',decide_eq_true_eq,beq_iff_eq] at hb
  obtain ⟨h1,h2,h3,h4,h5,h6,h7,h8⟩:=hb
  refine .asrt ⟨rfl,rfl⟩ (.asrt ⟨Int.le_refl _,by omega,by omega,by omega⟩ ?_)
  rw [show (0:Int).toNat=0 from rfl,List.drop_zero,List.drop_zero]
  obtain ⟨a1,⟨a2,a3,a4,a5,a6⟩,a7,a8⟩:=a
  obtain ⟨b1,⟨b2,b3,b4,b5,b6⟩,b7,b8⟩:=b
  simp only at h1 h2 h3 h4 h5 h6 h7 h8 ⊢
  refine ite_rez (fun he=>.ret (.blit ?_) rfl) fun he=>noB_rez ?_
  ·have:=of_decide_eq_true he
   simp_all
  ·have:=of_decide_eq_false he
   simp_all
theorem conSame20_valid:ValidCon c238.P 32 conSame20:=flatCon_valid c238_good 60 (by kernel_rfl) fun x h=>⟨_,fSame20 x.1 x.2,same20T_rez h⟩
noncomputable def c239:Cfg:=c238.addQuiet 32 conSame20
theorem c239_good:GoodCfg c239:=c238_good.addQuiet conSame20_valid flatCon_quiet
def sameT19 (a b:Trc):Bool:=decide (a.2.2.2.2.1=b.2.2.2.2.1) && (decide (a.2.2.2.2.2.1=b.2.2.2.2.2.1) && (decide (a.2.2.2.2.2.2=b.2.2.2.2.2.2) && (a.1 == b.1 && (a.2.1 == b.2.1 && a.2.2.1 == b.2.2.1 && a.2.2.2.1 == b.2.2.2.1))))
def shortT (a:Trc):Prop:=(a.2.2.2.2.1.length:Int)≤17592186044415∧(a.2.2.2.2.2.1.length:Int)≤17592186044415∧(a.2.2.2.2.2.2.length:Int)≤17592186044415
theorem fSame19 (a b:Trc):callC c239 60 34 [.agg (encTrc a),.agg (encTrc b)]=.asrt ((a.2.2.2.2.1.length:Int) < 17592186044416) (.asrt ((a.2.2.2.2.2.1.length:Int) < 17592186044416) (.asrt ((a.2.2.2.2.2.2.length:Int) < 17592186044416) (.ret (.bool (sameT19 a b),[])))):=by kernel_rfl
def conSame19:Con:=flatCon (d2 dTrc dTrc) (fun x=>shortT x.1) fun x=>.bool (sameT19 x.1 x.2)
theorem conSame19_valid:ValidCon c239.P 34 conSame19:=flatCon_valid c239_good 60 (by kernel_rfl) fun x h=>⟨_,fSame19 x.1 x.2,by
 have h1:=h.1
 have h2:=h.2.1
 have h3:=h.2.2
 exact .asrt (by omega) (.asrt (by omega) (.asrt (by omega) (.ret (.refl _) rfl)))⟩
noncomputable def c240:Cfg:=c239.addQuiet 34 conSame19
theorem c240_good:GoodCfg c240:=c239_good.addQuiet conSame19_valid flatCon_quiet
end Go.Fx
