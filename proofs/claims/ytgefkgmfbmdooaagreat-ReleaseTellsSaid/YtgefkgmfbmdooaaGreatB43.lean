import Derived.Test.YtgefkgmfbmdooaaGreatT13
namespace Go.Fx
open Go Go.Proofs
def TSr4 (x:(Fu.World × Fu.World) × Int):St:=⟨puts (J 73) [(2,.ptr 0 0),(3,.ptr 1 0),(5,.int .i64 x.2)],[(0,.cells (encW x.1.1)),(1,.cells (encW x.1.2))],2⟩
def sSr4:List Sh:=sets (Js 73) [(2,.keep),(3,.keep),(5,.int)]
def eSr4:List Sh:=sets (Js 73) [(2,.keep),(3,.keep),(4,.keep)]
def RSr4 (x:Fu.World × Fu.World):Ex × St:=(.ret,⟨puts (J 73) [(2,.ptr 0 0),(3,.ptr 1 0),(4,.blit false)],[(0,.cells (encW x.1)),(1,.cells (encW x.2))],2⟩)
def ESr4 (x:Fu.World × Fu.World):Ex × St:=(.exit 0,⟨puts (J 73) [(2,.ptr 0 0),(3,.ptr 1 0)],[(0,.cells (encW x.1)),(1,.cells (encW x.2))],2⟩)
theorem bSr4 (x : Fu.World × Fu.World) (i : Int) : roundN c158 60 10 (loopAt c158.P 10 4) (norm2 2 [] [0, 1] sSr4) (norm2 2 [] [0, 1] eSr4) (TSr4 (x, i)) =
    .ite (decide (i < x.1.T.length)) (.asrt (0≤i∧i < x.1.T.length) (.asrt (0≤i∧i < x.2.T.length) (.ite (!eqTaskB (rd .task x.1.T i) (rd .task x.2.T i)) (.ret (RSr4 x)) (.ret (.normal,TSr4 (x,IntKind.i64.wrap (i + 1))))))) (.ret (ESr4 x)):=by kernel_rfl
def gSr4 (σ:St):Option ((Fu.World × Fu.World) × Int) :=
  match nth σ.tmps 5,σ.heap with
  | .int .i64 i,[(_,.cells [.int .i64 a,.view .task t,.view .ape p,.int .i64 c]),(_,.cells [.int .i64 a2,.view .task t2,.view .ape p2,.int .i64 c2])]=>some ((⟨a,t,p,c⟩,⟨a2,t2,p2,c2⟩),i)
  | _,_=>none
def LxSr4 (x:(Fu.World × Fu.World) × Int):Tree (Ex × St):=.asrt (0≤x.2∧x.2≤x.1.1.T.length∧x.1.1.T.length = x.1.2.T.length∧(x.1.1.T.length:Int)≤17592186044415) (.ite (decide (x.1.1.T.drop x.2.toNat = x.1.2.T.drop x.2.toNat)) (.ret (ESr4 x.1)) (.ret (RSr4 x.1)))
def LSr4:LoopCon:=entry 2 (norm2 2 [] [0,1] sSr4) TSr4 gSr4 LxSr4
theorem lSr4 (hs:SubOf c158.P 10 (.loop (loopAt c158.P 10 4))):SoundLoop c158 (loopAt c158.P 10 4) LSr4:=by
  refine loop_rule3 (C:=c158) (g:=10) (l:=4) c158_good 60 2 _ _ (Weak.norm2 2 [] [0,1] sSr4) (Weak.norm2 2 [] [0,1] eSr4) hs TSr4 LxSr4 (fun x=>(x.1.1.T.length - x.2).toNat) (fun x q h=>?_) entry_out
  obtain ⟨⟨a,b⟩,i⟩:=x
  obtain ⟨⟨h0,h1,h2,h3⟩,h⟩:=Tree.out_asrt.1 h
  simp only at h0 h1 h2 h3 h
  refine .of_eq (bSr4 (a,b) i) ?_
  rw [wrap_fits (n:=i + 1) (by omega) (by omega)]
  refine Tree.wp_ite.2 ⟨fun hi=>?_,fun hi=>?_⟩
  · have hi:i < (a.T.length:Int):=of_decide_eq_true hi
    rw [drop_rd (r:=.task) h0 hi,drop_rd (r:=.task) (xs:=b.T) h0 (by omega),cons_eq_dec,← eqTaskB_eq] at h
    refine ⟨⟨h0,hi⟩,⟨h0,by show i < (b.T.length:Int); omega⟩,Tree.wp_ite.2 ⟨fun hb=>?_,fun hb=>?_⟩⟩
    · have hb:eqTaskB (rd .task a.T i) (rd .task b.T i) = false:=by simpa using hb
      rw [hb] at h
      exact Rnd.ret h
    · have hb:eqTaskB (rd .task a.T i) (rd .task b.T i) = true:=by simpa using hb
      rw [hb,Bool.true_and] at h
      exact Rnd.go (m:=fun x:(Fu.World × Fu.World) × Int=>(x.1.1.T.length - x.2).toNat) (x:=((a,b),i)) ((a,b),i + 1) (by simp only; omega) (Tree.out_asrt.2 ⟨⟨by simp only; omega,by simp only; omega,h2,h3⟩,h⟩)
  · have hi:¬ i < (a.T.length:Int):=of_decide_eq_false hi
    rw [drop_end (by omega),drop_end (xs:=b.T) (by omega)] at h
    exact Rnd.out h
noncomputable def c159:Cfg:=c158.addLoop 10 4 LSr4
theorem c159_good:GoodCfg c159:=c158_good.addLoop (by unfold OneLoop; kernel_rfl) lSr4
def TSr9 (x:(Fu.World × Fu.World) × Int):St:=⟨puts (J 73) [(2,.ptr 0 0),(3,.ptr 1 0),(6,.int .i64 x.2)],[(0,.cells (encW x.1.1)),(1,.cells (encW x.1.2))],2⟩
def sSr9:List Sh:=sets (Js 73) [(2,.keep),(3,.keep),(6,.int)]
def eSr9:List Sh:=sets (Js 73) [(2,.keep),(3,.keep),(4,.keep)]
def RSr9 (x:Fu.World × Fu.World):Ex × St:=(.ret,⟨puts (J 73) [(2,.ptr 0 0),(3,.ptr 1 0),(4,.blit false)],[(0,.cells (encW x.1)),(1,.cells (encW x.2))],2⟩)
def ESr9 (x:Fu.World × Fu.World):Ex × St:=(.exit 2,⟨puts (J 73) [(2,.ptr 0 0),(3,.ptr 1 0)],[(0,.cells (encW x.1)),(1,.cells (encW x.2))],2⟩)
theorem bSr9 (x : Fu.World × Fu.World) (i : Int) : roundN c159 60 10 (loopAt c159.P 10 9) (norm2 2 [] [0, 1] sSr9) (norm2 2 [] [0, 1] eSr9) (TSr9 (x, i)) =
    .ite (decide (i < x.1.A.length)) (.asrt (0≤i∧i < x.1.A.length) (.asrt (0≤i∧i < x.2.A.length) (.ite (!eqApeB (rd .ape x.1.A i) (rd .ape x.2.A i)) (.ret (RSr9 x)) (.ret (.normal,TSr9 (x,IntKind.i64.wrap (i + 1))))))) (.ret (ESr9 x)):=by kernel_rfl
def gSr9 (σ:St):Option ((Fu.World × Fu.World) × Int) :=
  match nth σ.tmps 6,σ.heap with
  | .int .i64 i,[(_,.cells [.int .i64 a,.view .task t,.view .ape p,.int .i64 c]),(_,.cells [.int .i64 a2,.view .task t2,.view .ape p2,.int .i64 c2])]=>some ((⟨a,t,p,c⟩,⟨a2,t2,p2,c2⟩),i)
  | _,_=>none
def LxSr9 (x:(Fu.World × Fu.World) × Int):Tree (Ex × St):=.asrt (0≤x.2∧x.2≤x.1.1.A.length∧x.1.1.A.length = x.1.2.A.length∧(x.1.1.A.length:Int)≤17592186044415) (.ite (decide (x.1.1.A.drop x.2.toNat = x.1.2.A.drop x.2.toNat)) (.ret (ESr9 x.1)) (.ret (RSr9 x.1)))
def LSr9:LoopCon:=entry 2 (norm2 2 [] [0,1] sSr9) TSr9 gSr9 LxSr9
theorem lSr9 (hs:SubOf c159.P 10 (.loop (loopAt c159.P 10 9))):SoundLoop c159 (loopAt c159.P 10 9) LSr9:=by
  refine loop_rule3 (C:=c159) (g:=10) (l:=9) c159_good 60 2 _ _ (Weak.norm2 2 [] [0,1] sSr9) (Weak.norm2 2 [] [0,1] eSr9) hs TSr9 LxSr9 (fun x=>(x.1.1.A.length - x.2).toNat) (fun x q h=>?_) entry_out
  obtain ⟨⟨a,b⟩,i⟩:=x
  obtain ⟨⟨h0,h1,h2,h3⟩,h⟩:=Tree.out_asrt.1 h
  simp only at h0 h1 h2 h3 h
  refine .of_eq (bSr9 (a,b) i) ?_
  rw [wrap_fits (n:=i + 1) (by omega) (by omega)]
  refine Tree.wp_ite.2 ⟨fun hi=>?_,fun hi=>?_⟩
  · have hi:i < (a.A.length:Int):=of_decide_eq_true hi
    rw [drop_rd (r:=.ape) h0 hi,drop_rd (r:=.ape) (xs:=b.A) h0 (by omega),cons_eq_dec,← eqApeB_eq] at h
    refine ⟨⟨h0,hi⟩,⟨h0,by show i < (b.A.length:Int); omega⟩,Tree.wp_ite.2 ⟨fun hb=>?_,fun hb=>?_⟩⟩
    · have hb:eqApeB (rd .ape a.A i) (rd .ape b.A i) = false:=by simpa using hb
      rw [hb] at h
      exact Rnd.ret h
    · have hb:eqApeB (rd .ape a.A i) (rd .ape b.A i) = true:=by simpa using hb
      rw [hb,Bool.true_and] at h
      exact Rnd.go (m:=fun x:(Fu.World × Fu.World) × Int=>(x.1.1.A.length - x.2).toNat) (x:=((a,b),i)) ((a,b),i + 1) (by simp only; omega) (Tree.out_asrt.2 ⟨⟨by simp only; omega,by simp only; omega,h2,h3⟩,h⟩)
  · have hi:¬ i < (a.A.length:Int):=of_decide_eq_false hi
    rw [drop_end (by omega),drop_end (xs:=b.A) (by omega)] at h
    exact Rnd.out h
noncomputable def c160:Cfg:=c159.addLoop 10 9 LSr9
theorem c160_good:GoodCfg c160:=c159_good.addLoop (by unfold OneLoop; kernel_rfl) lSr9
def same17T (a b:Fu.World):Tree (AV × List Blk):=.ite (a.Now != b.Now || (a.Cur != b.Cur || ((a.T.length:Int) != b.T.length || (a.A.length:Int) != b.A.length))) noB
  (.asrt (2 = 2∧TSr4 ((a,b),0) = TSr4 ((a,b),0)) (.asrt (0≤(0:Int)∧(0:Int)≤a.T.length∧a.T.length = b.T.length∧(a.T.length:Int)≤17592186044415) (.ite (decide (a.T.drop (0:Int).toNat = b.T.drop (0:Int).toNat))
  (.asrt (2 = 2∧TSr9 ((a,b),0) = TSr9 ((a,b),0)) (.asrt (0≤(0:Int)∧(0:Int)≤a.A.length∧a.A.length = b.A.length∧(a.A.length:Int)≤17592186044415) (.ite (decide (a.A.drop (0:Int).toNat = b.A.drop (0:Int).toNat)) (.ret (.blit true,[])) noB))) noB)))
theorem fSame17 (a b:Fu.World):callC c160 60 10 [.agg (encW a),.agg (encW b)] = same17T a b:=by kernel_rfl
def conSame17:Con:=flatCon (d2 dWorld dWorld) (fun x=>smallW x.1) fun x=>.bool (decide (x.1 = x.2))
theorem same17T_rez {a b:Fu.World} (h:smallW a):Rez (same17T a b) (.bool (decide (a = b)),[]):=by
  refine ite_rez (fun hl=>noB_rez ?_) fun hl=>?_
  · refine decide_eq_false fun e=>?_
    subst e
    simp at hl
  · simp only [Bool.or_eq_false_iff,bne_eq_false_iff_eq] at hl
    obtain ⟨h1,h2,h3,h4⟩:=hl
    refine .asrt ⟨rfl,rfl⟩ (.asrt ⟨Int.le_refl _,by omega,by omega,by have:=h.1; omega⟩ ?_)
    rw [show (0:Int).toNat = 0 from rfl,List.drop_zero,List.drop_zero,List.drop_zero,List.drop_zero]
    obtain ⟨a1,a2,a3,a4⟩:=a
    obtain ⟨b1,b2,b3,b4⟩:=b
    simp only at h1 h2 h3 h4 ⊢
    refine ite_rez (fun hd=>.asrt ⟨trivial,trivial⟩ (.asrt ⟨Int.le_refl _,by omega,by omega,by have:=h.2; simp only at this; omega⟩ (ite_rez (fun he=>.ret (.blit ?_) rfl) fun he=>noB_rez ?_))) fun hd=>noB_rez ?_
    · have:=of_decide_eq_true hd
      have:=of_decide_eq_true he
      simp_all
    · have:=of_decide_eq_false he
      simp_all
    · have:=of_decide_eq_false hd
      simp_all
theorem conSame17_valid:ValidCon c160.P 10 conSame17:=flatCon_valid c160_good 60 (by kernel_rfl) fun x h=>⟨_,fSame17 x.1 x.2,same17T_rez h⟩
noncomputable def c161:Cfg:=c160.addQuiet 10 conSame17
theorem c161_good:GoodCfg c161:=c160_good.addQuiet conSame17_valid flatCon_quiet
end Go.Fx
