import Derived.Test.YtgefkgmfbmdooaaGreatC5
namespace Go.Fx
open Go Go.Proofs
def eqSpecB (a b:Fu.Spec):Bool:=a.C == b.C && (a.T == b.T && (a.Max == b.Max && (a.M == b.M && (a.K == b.K && a.E == b.E))))
def eqJobB (a b:Fu.Job):Bool:=a.On == b.On && (a.J == b.J && (a.Rel == b.Rel && (a.Due == b.Due && (a.Mand == b.Mand && (a.C == b.C && (a.D == b.D && a.Ran == b.Ran))))))
def eqRingB (a b:Fu.Ring):Bool:=a.N == b.N && a.B == b.B
def eqTaskB (a b:Fu.Task):Bool:=a.ID == b.ID && (eqSpecB a.S b.S && (a.P == b.P && (a.Next == b.Next && (a.At == b.At && (a.N == b.N && (eqJobB a.J b.J && (eqRingB a.H b.H && a.Kept == b.Kept)))))))
def eqApeB (a b:Fu.Ape):Bool:=a.ID == b.ID && (a.Due == b.Due && (a.C == b.C && (a.V == b.V && a.Ran == b.Ran)))
theorem eqSpecB_eq (a b:Fu.Spec):eqSpecB a b = decide (a = b):=by
  obtain ⟨a1,a2,a3,a4,a5,a6⟩:=a
  obtain ⟨b1,b2,b3,b4,b5,b6⟩:=b
  rw [Bool.eq_iff_iff]
  simp only [eqSpecB,Bool.and_eq_true,beq_iff_eq,decide_eq_true_eq,Fu.Spec.mk.injEq]
theorem eqJobB_eq (a b:Fu.Job):eqJobB a b = decide (a = b):=by
  obtain ⟨a1,a2,a3,a4,a5,a6,a7,a8⟩:=a
  obtain ⟨b1,b2,b3,b4,b5,b6,b7,b8⟩:=b
  rw [Bool.eq_iff_iff]
  simp only [eqJobB,Bool.and_eq_true,beq_iff_eq,decide_eq_true_eq,Fu.Job.mk.injEq]
theorem eqRingB_eq (a b:Fu.Ring):eqRingB a b = decide (a = b):=by
  obtain ⟨a1,a2⟩:=a
  obtain ⟨b1,b2⟩:=b
  rw [Bool.eq_iff_iff]
  simp only [eqRingB,Bool.and_eq_true,beq_iff_eq,decide_eq_true_eq,Fu.Ring.mk.injEq]
theorem eqTaskB_eq (a b:Fu.Task):eqTaskB a b = decide (a = b):=by
  unfold eqTaskB
  rw [eqSpecB_eq,eqJobB_eq,eqRingB_eq]
  obtain ⟨a1,a2,a3,a4,a5,a6,a7,a8,a9⟩:=a
  obtain ⟨b1,b2,b3,b4,b5,b6,b7,b8,b9⟩:=b
  rw [Bool.eq_iff_iff]
  simp only [Bool.and_eq_true,beq_iff_eq,decide_eq_true_eq,Fu.Task.mk.injEq]
theorem eqApeB_eq (a b:Fu.Ape):eqApeB a b = decide (a = b):=by
  obtain ⟨a1,a2,a3,a4,a5⟩:=a
  obtain ⟨b1,b2,b3,b4,b5⟩:=b
  rw [Bool.eq_iff_iff]
  simp only [eqApeB,Bool.and_eq_true,beq_iff_eq,decide_eq_true_eq,Fu.Ape.mk.injEq]
theorem cons_eq_dec {α:Type} [DecidableEq α] (a b:α) (l m:List α):decide (a :: l = b :: m) = (decide (a = b) && decide (l = m)):=by
  rw [Bool.eq_iff_iff]; simp
abbrev AEq:=List Fu.Ape × List Fu.Ape
def TEq (x:AEq × Int):St:=⟨puts (J 26) [(0,.view .ape x.1.1),(1,.view .ape x.1.2),(11,.view .ape x.1.1),(12,.int .i64 x.1.1.length),(13,.int .i64 x.2)],[],0⟩
def sEq:List Sh:=sets (Js 26) [(0,.keep),(1,.keep),(11,.keep),(12,.int),(13,.int)]
def eEq:List Sh:=sets (Js 26) [(4,.keep)]
def REq:Ex × St:=(.ret,⟨puts (J 26) [(4,.blit false)],[],0⟩)
def EEq:Ex × St:=(.exit 0,⟨J 26,[],0⟩)
theorem bEq (x : AEq) (i : Int) : roundN c82 60 28 (loopAt c82.P 28 4) (norm2 0 [] [] sEq) (norm2 0 [] [] eEq) (TEq (x, i)) =
    .ite (decide (i < x.1.length)) (.asrt (0≤i∧i < x.1.length) (.asrt (0≤i∧i < x.2.length) (.ite (!eqApeB (rd .ape x.1 i) (rd .ape x.2 i)) (.ret REq) (.ret (.normal,TEq (x,IntKind.i64.wrap (i + 1))))))) (.ret EEq):=by kernel_rfl
def gEq (σ:St):Option (AEq × Int) :=
  match nth σ.tmps 0,nth σ.tmps 1,nth σ.tmps 13 with
  | .view .ape a,.view .ape b,.int .i64 i=>some ((a,b),i)
  | _,_,_=>none
def LxEq (x:AEq × Int):Tree (Ex × St):=.asrt (0≤x.2∧x.2≤x.1.1.length∧x.1.1.length = x.1.2.length∧(x.1.1.length:Int)≤17592186044415) (.ite (decide (x.1.1.drop x.2.toNat = x.1.2.drop x.2.toNat)) (.ret EEq) (.ret REq))
def LEq:LoopCon:=entry 0 (norm2 0 [] [] sEq) TEq gEq LxEq
theorem lEq (hs:SubOf c82.P 28 (.loop (loopAt c82.P 28 4))):SoundLoop c82 (loopAt c82.P 28 4) LEq:=by
  refine loop_rule3 (C:=c82) (g:=28) (l:=4) c82_good 60 0 _ _ (Weak.norm2 0 [] [] sEq) (Weak.norm2 0 [] [] eEq) hs TEq LxEq (fun x=>(x.1.1.length - x.2).toNat) (fun x q h=>?_) entry_out
  obtain ⟨⟨a,b⟩,i⟩:=x
  obtain ⟨⟨h0,h1,h2,h3⟩,h⟩:=Tree.out_asrt.1 h
  simp only at h0 h1 h2 h3 h
  refine .of_eq (bEq (a,b) i) ?_
  rw [wrap_fits (n:=i + 1) (by omega) (by omega)]
  refine Tree.wp_ite.2 ⟨fun hi=>?_,fun hi=>?_⟩
  · have hi:i < (a.length:Int):=of_decide_eq_true hi
    rw [drop_rd (r:=.ape) h0 hi,drop_rd (r:=.ape) (xs:=b) h0 (by omega),cons_eq_dec,← eqApeB_eq] at h
    refine ⟨⟨h0,hi⟩,⟨h0,by show i < (b.length:Int); omega⟩,Tree.wp_ite.2 ⟨fun hb=>?_,fun hb=>?_⟩⟩
    · have hb:eqApeB (rd .ape a i) (rd .ape b i) = false:=by simpa using hb
      rw [hb] at h
      exact Rnd.ret h
    · have hb:eqApeB (rd .ape a i) (rd .ape b i) = true:=by simpa using hb
      rw [hb,Bool.true_and] at h
      exact Rnd.go (m:=fun x:AEq × Int=>(x.1.1.length - x.2).toNat) (x:=((a,b),i)) ((a,b),i + 1) (by simp only; omega) (Tree.out_asrt.2 ⟨⟨by simp only; omega,by simp only; omega,h2,h3⟩,h⟩)
  · have hi:¬ i < (a.length:Int):=of_decide_eq_false hi
    rw [drop_end (by omega),drop_end (xs:=b) (by omega)] at h
    exact Rnd.out h
noncomputable def c83:Cfg:=c82.addLoop 28 4 LEq
theorem c83_good:GoodCfg c83:=c82_good.addLoop (by unfold OneLoop; kernel_rfl) lEq
def eqT (a b:List Fu.Ape):Tree (AV × List Blk):=.ite ((a.length:Int) != b.length) noB (.asrt (0 = 0∧TEq ((a,b),0) = TEq ((a,b),0)) (.asrt (0≤(0:Int)∧(0:Int)≤a.length∧a.length = b.length∧(a.length:Int)≤17592186044415) (.ite (decide (a.drop (0:Int).toNat = b.drop (0:Int).toNat)) (.ret (.blit true,[])) noB)))
theorem fEqA (a b:List Fu.Ape):callC c83 60 28 [.view .ape a,.view .ape b] = eqT a b:=by kernel_rfl
def conEqA:Con:=flatCon (d2 (dView .ape) (dView .ape)) (fun x=>(x.1.length:Int)≤17592186044415) fun x=>.bool (decide (x.1 = x.2))
theorem eqT_rez {a b:List Fu.Ape} (h:(a.length:Int)≤17592186044415):Rez (eqT a b) (.bool (decide (a = b)),[]):=by
  refine ite_rez (fun hl=>noB_rez ?_) fun hl=>.asrt ⟨rfl,rfl⟩ (.asrt ⟨Int.le_refl _,by omega,?_,h⟩ ?_)
  · refine decide_eq_false fun e=>?_
    subst e
    simp at hl
  · have:((a.length:Int) = b.length):=by simpa using hl
    omega
  · rw [show (0:Int).toNat = 0 from rfl,List.drop_zero,List.drop_zero]
    cases hd:decide (a = b) with
    | true=>exact .itet rfl (.ret (.blit rfl) rfl)
    | false=>exact .itee rfl (noB_rez rfl)
theorem conEqA_valid:ValidCon c83.P 28 conEqA:=flatCon_valid c83_good 60 (by kernel_rfl) fun x h=>⟨_,fEqA x.1 x.2,eqT_rez h⟩
noncomputable def c84:Cfg:=c83.addQuiet 28 conEqA
theorem c84_good:GoodCfg c84:=c83_good.addQuiet conEqA_valid flatCon_quiet
abbrev ASm:=Fu.World × Fu.World
def TSm (x:ASm × Int):St:=⟨puts (J 49) [(2,.ptr 0 0),(3,.ptr 1 0),(29,.view .task x.1.1.T),(30,.int .i64 x.1.1.T.length),(31,.int .i64 x.2)],[(0,.cells (encW x.1.1)),(1,.cells (encW x.1.2))],2⟩
def sSm:List Sh:=sets (Js 49) [(2,.keep),(3,.keep),(29,.keep),(30,.int),(31,.int)]
def eSm:List Sh:=sets (Js 49) [(2,.keep),(3,.keep),(4,.keep)]
def RSm (x:ASm):Ex × St:=(.ret,⟨puts (J 49) [(2,.ptr 0 0),(3,.ptr 1 0),(4,.blit false)],[(0,.cells (encW x.1)),(1,.cells (encW x.2))],2⟩)
def ESm (x:ASm):Ex × St:=(.exit 0,⟨puts (J 49) [(2,.ptr 0 0),(3,.ptr 1 0)],[(0,.cells (encW x.1)),(1,.cells (encW x.2))],2⟩)
theorem bSm (x : ASm) (i : Int) : roundN c84 90 12 (loopAt c84.P 12 4) (norm2 2 [] [0, 1] sSm) (norm2 2 [] [0, 1] eSm) (TSm (x, i)) =
    .ite (decide (i < x.1.T.length)) (.asrt (0≤i∧i < x.1.T.length) (.asrt (0≤i∧i < x.2.T.length) (.ite (!eqTaskB (rd .task x.1.T i) (rd .task x.2.T i)) (.ret (RSm x)) (.ret (.normal,TSm (x,IntKind.i64.wrap (i + 1))))))) (.ret (ESm x)):=by kernel_rfl
def gSm (σ:St):Option (ASm × Int) :=
  match nth σ.tmps 31,σ.heap with
  | .int .i64 i,[(_,.cells [.int .i64 a,.view .task t,.view .ape p,.int .i64 c]),(_,.cells [.int .i64 a2,.view .task t2,.view .ape p2,.int .i64 c2])]=>some ((⟨a,t,p,c⟩,⟨a2,t2,p2,c2⟩),i)
  | _,_=>none
def LxSm (x:ASm × Int):Tree (Ex × St):=.asrt (0≤x.2∧x.2≤x.1.1.T.length∧x.1.1.T.length = x.1.2.T.length∧(x.1.1.T.length:Int)≤17592186044415) (.ite (decide (x.1.1.T.drop x.2.toNat = x.1.2.T.drop x.2.toNat)) (.ret (ESm x.1)) (.ret (RSm x.1)))
def LSm:LoopCon:=entry 2 (norm2 2 [] [0,1] sSm) TSm gSm LxSm
theorem lSm (hs:SubOf c84.P 12 (.loop (loopAt c84.P 12 4))):SoundLoop c84 (loopAt c84.P 12 4) LSm:=by
  refine loop_rule3 (C:=c84) (g:=12) (l:=4) c84_good 90 2 _ _ (Weak.norm2 2 [] [0,1] sSm) (Weak.norm2 2 [] [0,1] eSm) hs TSm LxSm (fun x=>(x.1.1.T.length - x.2).toNat) (fun x q h=>?_) entry_out
  obtain ⟨⟨a,b⟩,i⟩:=x
  obtain ⟨⟨h0,h1,h2,h3⟩,h⟩:=Tree.out_asrt.1 h
  simp only at h0 h1 h2 h3 h
  refine .of_eq (bSm (a,b) i) ?_
  rw [wrap_fits (n:=i + 1) (by omega) (by omega)]
  refine Tree.wp_ite.2 ⟨fun hi=>?_,fun hi=>?_⟩
  · have hi:i < (a.T.length:Int):=of_decide_eq_true hi
    rw [drop_rd (r:=.task) h0 hi,drop_rd (r:=.task) (xs:=b.T) h0 (by omega),cons_eq_dec,← eqTaskB_eq] at h
    refine ⟨⟨h0,hi⟩,⟨h0,by show i < (b.T.length:Int); omega⟩,Tree.wp_ite.2 ⟨fun hb=>?_,fun hb=>?_⟩⟩
    · have hb:eqTaskB (rd .task a.T i) (rd .task b.T i) = false:=by simpa using hb
      rw [hb] at h
      exact Rnd.ret h
    · have hb:eqTaskB (rd .task a.T i) (rd .task b.T i) = true:=by simpa using hb
      rw [hb,Bool.true_and] at h
      exact Rnd.go (m:=fun x:ASm × Int=>(x.1.1.T.length - x.2).toNat) (x:=((a,b),i)) ((a,b),i + 1) (by simp only; omega) (Tree.out_asrt.2 ⟨⟨by simp only; omega,by simp only; omega,h2,h3⟩,h⟩)
  · have hi:¬ i < (a.T.length:Int):=of_decide_eq_false hi
    rw [drop_end (by omega),drop_end (xs:=b.T) (by omega)] at h
    exact Rnd.out h
noncomputable def c85:Cfg:=c84.addLoop 12 4 LSm
theorem c85_good:GoodCfg c85:=c84_good.addLoop (by unfold OneLoop; kernel_rfl) lSm
def sameT (a b:Fu.World):Tree (AV × List Blk):=.ite ((a.T.length:Int) != b.T.length || (a.Now != b.Now || a.Cur != b.Cur)) noB (.asrt (2 = 2∧TSm ((a,b),0) = TSm ((a,b),0)) (.asrt (0≤(0:Int)∧(0:Int)≤a.T.length∧a.T.length = b.T.length∧(a.T.length:Int)≤17592186044415)
  (.ite (decide (a.T.drop (0:Int).toNat = b.T.drop (0:Int).toNat)) (.asrt ((a.A.length:Int)≤17592186044415) (.ret (.bool (decide (a.A = b.A)),[]))) noB)))
theorem fRelSame (a b:Fu.World):callC c85 90 12 [.agg (encW a),.agg (encW b)] = sameT a b:=by kernel_rfl
def conSameW:Con:=flatCon (d2 dWorld dWorld) (fun x=>smallW x.1) fun x=>.bool (decide (x.1 = x.2))
theorem sameT_rez {a b:Fu.World} (h:smallW a):Rez (sameT a b) (.bool (decide (a = b)),[]):=by
  refine ite_rez (fun hl=>noB_rez ?_) fun hl=>?_
  · refine decide_eq_false fun e=>?_
    subst e
    simp at hl
  · simp only [Bool.or_eq_false_iff,bne_eq_false_iff_eq] at hl
    obtain ⟨h1,h2,h3⟩:=hl
    refine .asrt ⟨rfl,rfl⟩ (.asrt ⟨Int.le_refl _,by omega,by omega,by have:=h.1; omega⟩ ?_)
    rw [show (0:Int).toNat = 0 from rfl,List.drop_zero,List.drop_zero]
    cases hd:decide (a.T = b.T) with
    | true =>
      refine .itet rfl (.asrt (by have:=h.2; omega) (retB ?_))
      have hd:=of_decide_eq_true hd
      rw [decide_eq_decide]
      obtain ⟨a1,a2,a3,a4⟩:=a
      obtain ⟨b1,b2,b3,b4⟩:=b
      simp only at h2 h3 hd
      simp [h2,h3,hd]
    | false =>
      refine .itee rfl (noB_rez (decide_eq_false fun e=>?_))
      subst e
      simp at hd
theorem conSameW_valid:ValidCon c85.P 12 conSameW:=flatCon_valid c85_good 90 (by kernel_rfl) fun x h=>⟨_,fRelSame x.1 x.2,sameT_rez h⟩
noncomputable def c86:Cfg:=c85.addQuiet 12 conSameW
theorem c86_good:GoodCfg c86:=c85_good.addQuiet conSameW_valid flatCon_quiet
abbrev ALv:=List Fu.Task × List Fu.Live
def TLv (x:ALv × Int):St:=⟨puts (J 20) [(3,.own 1),(7,.view .task x.1.1),(8,.int .i64 x.1.1.length),(9,.int .i64 x.2)],[(1,.rows .live 60 x.1.2)],2⟩
def sLv:List Sh:=sets (Js 20) [(3,.keep),(7,.keep),(8,.int),(9,.int)]
def eLv:List Sh:=sets (Js 20) [(3,.keep)]
def fLv (ss:List Sh) (σ:St):St:=norm2 1 [.tmp 3] [1] ss (ownSlot 3 .live 60 σ)
theorem weak_fLv (ss:List Sh) (σ:St):Weak 1 σ (fLv ss σ):=(Weak.ownSlot 1 3 .live 60 σ).trans (Weak.norm2 1 [.tmp 3] [1] ss _)
def ELv (x:ALv):Ex × St:=(.exit 0,⟨puts (J 20) [(3,.own 1)],[(1,.rows .live 60 x.2)],2⟩)
theorem bLv (x : ALv) (i : Int) : roundN c86 60 14 (loopAt c86.P 14 3) (fLv sLv) (fLv eLv) (TLv (x, i)) =
    .ite (decide (i < x.1.length)) (.asrt (0≤i∧i < x.1.length) (.asrt ((x.2 ++ [liveK (rd .task x.1 i)]).length * 136≤140737488355328) (.ret (.normal,TLv ((x.1,x.2 ++ [liveK (rd .task x.1 i)]),IntKind.i64.wrap (i + 1)))))) (.ret (ELv x)):=by kernel_rfl
def gLv (σ:St):Option (ALv × Int) :=
  match nth σ.tmps 7,nth σ.tmps 9,σ.heap with
  | .view .task l,.int .i64 i,[(_,.rows .live _ o)]=>some ((l,o),i)
  | _,_,_=>none
def nxtLv (x:ALv) (i:Int):ALv:=(x.1,x.2 ++ [liveK (rd .task x.1 i)])
def okLv (x:ALv) (_:Int):Prop:=(x.2.length + 1) * 136≤140737488355328
def LLv:LoopCon:=boundF 1 (fLv sLv) TLv gLv (fun x=>x.1.length) okLv nxtLv ELv
theorem lLv (hs:SubOf c86.P 14 (.loop (loopAt c86.P 14 3))):SoundLoop c86 (loopAt c86.P 14 3) LLv :=
  bound_fold (C:=c86) (g:=14) (l:=3) c86_good 60 1 _ _ (weak_fLv sLv) (weak_fLv eLv) hs TLv gLv (fun x=>x.1.length) okLv nxtLv ELv
    (fun _=>by intro h; cases h) (fun _ _=>rfl)
    (fun x i h0 hi hm hok=>.of_eq (bLv x i) (by
      unfold maxI64 at hm
      rw [wrap_fits (n:=i + 1) (by omega) (by omega)]
      exact (Tree.out_ite_true (decide_eq_true hi)).2 ⟨⟨h0,hi⟩,by rw [List.length_append]; exact hok,rfl⟩))
    (fun x i hi=>.of_eq (bLv x i) ((Tree.out_ite_false (decide_eq_false (by omega))).2 rfl))
noncomputable def c87:Cfg:=c86.addLoop 14 3 LLv
theorem c87_good:GoodCfg c87:=c86_good.addLoop (by unfold OneLoop; kernel_rfl) lLv
def livesT (w:Fu.World):Tree (AV × List Blk) :=
  .asrt (1 = 1∧TLv ((w.T,[]),0) = TLv ((w.T,[]),0)) (.asrt (0≤(0:Int)∧(w.T.length:Int)≤maxI64∧okI nxtLv (fun _ _=>(none:Option Unit)) okLv ((w.T.length:Int) - 0).toNat (w.T,[]) 0)
    (.ret (.own 0,[.rows .live 60 (foldI nxtLv ((w.T.length:Int) - 0).toNat (w.T,[]) 0).2])))
theorem fLives (w:Fu.World):callC c87 60 14 [.agg (encW w)] = livesT w:=by kernel_rfl
theorem foldLv {l : List Fu.Task} (hl : (l.length : Int) * 136 ≤ 140737488355328) (k : Nat) : ∀ (out : List Fu.Live) (i : Int), 0 ≤ i → i + k = l.length → out.length + k = l.length →
    foldI nxtLv k (l,out) i = (l,out ++ (l.drop i.toNat).map liveK)∧okI nxtLv (fun _ _=>(none:Option Unit)) okLv k (l,out) i:=by
  induction k with
  | zero =>
    intro out i h0 h1 h2
    rw [drop_end (by omega)]
    exact ⟨by simp [foldI],trivial⟩
  | succ k ih =>
    intro out i h0 h1 h2
    have hd:=drop_rd (r:=.task) (xs:=l) h0 (by omega)
    have hok:okLv (l,out) i:=by show (out.length + 1) * 136≤140737488355328; omega
    obtain ⟨k1,k2⟩:=ih (out ++ [liveK (rd .task l i)]) (i + 1) (by omega) (by omega) (by rw [List.length_append]; simp only [List.length_cons,List.length_nil]; omega)
    refine ⟨?_,hok,fun _=>k2⟩
    unfold foldI
    refine k1.trans ?_
    rw [hd,List.map_cons,List.append_assoc]
    rfl
theorem livesT_rez {w:Fu.World} (h:smallW w):Rez (livesT w) (.own 0,[.rows .live 60 (w.T.map liveK)]):=by
  have h:=h.1
  obtain ⟨k1,k2⟩:=foldLv (l:=w.T) (by omega) ((w.T.length:Int) - 0).toNat [] 0 (Int.le_refl _) (by omega) (by simp)
  rw [show (0:Int).toNat = 0 from rfl,List.drop_zero] at k1
  refine .asrt ⟨rfl,rfl⟩ (.asrt ⟨Int.le_refl _,by unfold maxI64; omega,k2⟩ (.ret (.refl _) ?_))
  rw [k1]
  rfl
def conLives:Con:=resCon (d1 dWorld) smallW fun w=>(.own 0,[.rows .live 60 (w.T.map liveK)])
theorem conLives_valid:ValidCon c87.P 14 conLives:=resCon_valid c87_good 60 (by kernel_rfl) fun w h=>⟨_,fLives w,livesT_rez h⟩
def conLivesF:Con:=flatCon (d1 dWorld) smallW fun w=>.view .live (w.T.map liveK)
theorem conLivesF_valid:ValidCon c87.P 14 conLivesF:=resCon_frozen conLives_valid fun _=>⟨_,rfl,.refl _⟩
noncomputable def c88:Cfg:=c87.addQuiet 14 conLivesF
theorem c88_good:GoodCfg c88:=c87_good.addQuiet conLivesF_valid flatCon_quiet
def fixK (t:Fu.Task):Fu.Fix:=⟨t.S,t.Next⟩
abbrev ASf:=Fu.World × List Fu.Fix
def TSf (x:ASf × Int):St:=⟨puts (J 40) [(1,.ptr 0 0),(3,.own 1),(12,.view .task x.1.1.T),(13,.int .i64 x.1.1.T.length),(14,.int .i64 x.2)],[(0,.cells (encW x.1.1)),(1,.rows .fix 68 x.1.2)],2⟩
def sSf:List Sh:=sets (Js 40) [(1,.keep),(3,.keep),(12,.keep),(13,.int),(14,.int)]
def eSf:List Sh:=sets (Js 40) [(1,.keep),(3,.keep)]
def fSf (ss:List Sh) (σ:St):St:=norm2 1 [.tmp 3] [0,1] ss (ownSlot 3 .fix 68 σ)
theorem weak_fSf (ss:List Sh) (σ:St):Weak 1 σ (fSf ss σ):=(Weak.ownSlot 1 3 .fix 68 σ).trans (Weak.norm2 1 [.tmp 3] [0,1] ss _)
def ESf (x:ASf):Ex × St:=(.exit 0,⟨puts (J 40) [(1,.ptr 0 0),(3,.own 1)],[(0,.cells (encW x.1)),(1,.rows .fix 68 x.2)],2⟩)
theorem bSf (x : ASf) (i : Int) : roundN c88 60 18 (loopAt c88.P 18 5) (fSf sSf) (fSf eSf) (TSf (x, i)) =
    .ite (decide (i < x.1.T.length)) (.asrt (0≤i∧i < x.1.T.length) (.asrt ((x.2 ++ [fixK (rd .task x.1.T i)]).length * 56≤140737488355328) (.ret (.normal,TSf ((x.1,x.2 ++ [fixK (rd .task x.1.T i)]),IntKind.i64.wrap (i + 1)))))) (.ret (ESf x)):=by kernel_rfl
def gSf (σ:St):Option (ASf × Int) :=
  match nth σ.tmps 14,σ.heap with
  | .int .i64 i,[(_,.cells [.int .i64 a,.view .task t,.view .ape p,.int .i64 c]),(_,.rows .fix _ o)]=>some ((⟨a,t,p,c⟩,o),i)
  | _,_=>none
def nxtSf (x:ASf) (i:Int):ASf:=(x.1,x.2 ++ [fixK (rd .task x.1.T i)])
def okSf (x:ASf) (_:Int):Prop:=(x.2.length + 1) * 56≤140737488355328
def LSf:LoopCon:=boundF 1 (fSf sSf) TSf gSf (fun x=>x.1.T.length) okSf nxtSf ESf
theorem lSf (hs:SubOf c88.P 18 (.loop (loopAt c88.P 18 5))):SoundLoop c88 (loopAt c88.P 18 5) LSf :=
  bound_fold (C:=c88) (g:=18) (l:=5) c88_good 60 1 _ _ (weak_fSf sSf) (weak_fSf eSf) hs TSf gSf (fun x=>x.1.T.length) okSf nxtSf ESf
    (fun _=>by intro h; cases h) (fun _ _=>rfl)
    (fun x i h0 hi hm hok=>.of_eq (bSf x i) (by
      unfold maxI64 at hm
      rw [wrap_fits (n:=i + 1) (by omega) (by omega)]
      exact (Tree.out_ite_true (decide_eq_true hi)).2 ⟨⟨h0,hi⟩,by rw [List.length_append]; exact hok,rfl⟩))
    (fun x i hi=>.of_eq (bSf x i) ((Tree.out_ite_false (decide_eq_false (by omega))).2 rfl))
noncomputable def c89:Cfg:=c88.addLoop 18 5 LSf
theorem c89_good:GoodCfg c89:=c88_good.addLoop (by unfold OneLoop; kernel_rfl) lSf
def safeW (w:Fu.World):Bool:=mayW w && ((lookL (w.T.map liveK) w.Now).2 && testV (w.T.map fixK))
def sfF (w:Fu.World):ASf:=foldI nxtSf ((w.T.length:Int) - 0).toNat (w,[]) 0
def safeE (w:Fu.World) (l:List Fu.Fix):Tree (AV × List Blk):=.asrt (smallW w) (.asrt (smallL (w.T.map liveK)) (.asrt ((lookL (w.T.map liveK) w.Now).2 = true→(l.length:Int) < 17592186044416) (.ret (.bool ((lookL (w.T.map liveK) w.Now).2 && testV l),[]))))
def safeT (w : Fu.World) : Tree (AV × List Blk) := .asrt (smallW w) (.ite (!mayW w) noB (.asrt (1 = 1 ∧ TSf ((w, []), 0) = TSf ((w, []), 0)) (.asrt (0 ≤ (0 : Int) ∧ (w.T.length : Int) ≤ maxI64 ∧ okI nxtSf (fun _ _ => (none : Option Unit)) okSf ((w.T.length : Int) - 0).toNat (w, []) 0)
    (safeE (sfF w).1 (sfF w).2))))
theorem fSafe (w:Fu.World):callC c89 60 18 [.agg (encW w)] = safeT w:=by kernel_rfl
theorem foldSf {w : Fu.World} (hl : (w.T.length : Int) * 136 ≤ 140737488355328) (k : Nat) : ∀ (out : List Fu.Fix) (i : Int), 0 ≤ i → i + k = w.T.length → out.length + k = w.T.length →
    foldI nxtSf k (w,out) i = (w,out ++ (w.T.drop i.toNat).map fixK)∧okI nxtSf (fun _ _=>(none:Option Unit)) okSf k (w,out) i:=by
  induction k with
  | zero =>
    intro out i h0 h1 h2
    rw [drop_end (by omega)]
    exact ⟨by simp [foldI],trivial⟩
  | succ k ih =>
    intro out i h0 h1 h2
    have hd:=drop_rd (r:=.task) (xs:=w.T) h0 (by omega)
    have hok:okSf (w,out) i:=by show (out.length + 1) * 56≤140737488355328; omega
    obtain ⟨k1,k2⟩:=ih (out ++ [fixK (rd .task w.T i)]) (i + 1) (by omega) (by omega) (by rw [List.length_append]; simp only [List.length_cons,List.length_nil]; omega)
    refine ⟨?_,hok,fun _=>k2⟩
    unfold foldI
    refine k1.trans ?_
    rw [hd,List.map_cons,List.append_assoc]
    rfl
theorem safeT_rez {w:Fu.World} (h:smallW w):Rez (safeT w) (.bool (safeW w),[]):=by
  have hT:=h.1
  refine .asrt h (ite_rez (fun hm=>noB_rez (by unfold safeW; rw [show mayW w = false by simpa using hm]; rfl)) fun hm=>?_)
  obtain ⟨k1,k2⟩:=foldSf (w:=w) (by omega) ((w.T.length:Int) - 0).toNat [] 0 (Int.le_refl _) (by omega) (by simp)
  rw [show (0:Int).toNat = 0 from rfl,List.drop_zero] at k1
  refine .asrt ⟨rfl,rfl⟩ (.asrt ⟨Int.le_refl _,by unfold maxI64; omega,k2⟩ ?_)
  have e:sfF w = (w,w.T.map fixK):=k1
  rw [e]
  show Rez (safeE w (w.T.map fixK)) _
  refine .asrt h (.asrt (by unfold smallL; rw [List.length_map]; omega) (.asrt (fun _=>by rw [List.length_map]; omega) (retB ?_)))
  unfold safeW
  rw [show mayW w = true by simpa using hm]
  rfl
def conSafe:Con:=flatCon (d1 dWorld) smallW fun w=>.bool (safeW w)
theorem conSafe_valid:ValidCon c89.P 18 conSafe:=flatCon_valid c89_good 60 (by kernel_rfl) fun w h=>⟨_,fSafe w,safeT_rez h⟩
noncomputable def c90:Cfg:=c89.addQuiet 18 conSafe
theorem c90_good:GoodCfg c90:=c89_good.addQuiet conSafe_valid flatCon_quiet
end Go.Fx
namespace Go.Fx
open Go Go.Proofs Go.RowKit
section
variable {r:RTy} {π:Type} (f:π→r.carrier→r.carrier) (g:π→r.carrier→π)
def accM:π→List r.carrier→List r.carrier × π
  | a,[]=>([],a)
  | a,y :: l=>(f a y :: (accM (g a y) l).1,(accM (g a y) l).2)
def okAcc (okE:π→r.carrier→Prop):π→List r.carrier→Prop
  | _,[]=>True
  | a,y :: l=>okE a y∧okAcc okE (g a y) l
variable {f g} {okE:π→r.carrier→Prop}
theorem foldAcc : ∀ (l pre : List r.carrier) (a : π), okAcc g okE a l →
    foldI (nxtM f g) l.length (pre ++ l,a) pre.length = (pre ++ (accM f g a l).1,(accM f g a l).2)∧okI (nxtM f g) (fun _ _=>(none:Option Unit)) (okM okE) l.length (pre ++ l,a) pre.length
  | [],pre,a,_=>⟨rfl,trivial⟩
  | y :: l,pre,a,h=>by
    have e:nxtM f g (pre ++ y :: l,a) pre.length = ((pre ++ [f a y]) ++ l,g a y):=by
      unfold nxtM
      simp only
      rw [rd_mid,upd_mid]
      simp
    have el:(pre.length:Int) + 1 = ((pre ++ [f a y]).length:Int):=by simp
    obtain ⟨h1,h2⟩:=foldAcc l (pre ++ [f a y]) (g a y) h.2
    refine ⟨?_,⟨?_,?_⟩,fun _=>?_⟩
    · show foldI (nxtM f g) l.length (nxtM f g (pre ++ y :: l,a) pre.length) (pre.length + 1) = _
      rw [e,el,h1]
      simp only [List.append_assoc,List.singleton_append]
      rfl
    · show (pre.length:Int) < ((pre ++ y :: l).length:Int)
      simp
      omega
    · show okE a (rd r (pre ++ y :: l) pre.length)
      rw [rd_mid]
      exact h.1
    · show okI (nxtM f g) _ (okM okE) l.length (nxtM f g (pre ++ y :: l,a) pre.length) (pre.length + 1)
      rw [e,el]
      exact h2
end
theorem nil_own_at {w w' : World} {S : Nat → Prop} {v v' : AV} {bs : List Blk} {x : Value} {ψ : Env} (r : RTy) (e : TypeId) (hp : ResPost w S Env.none 0 v bs x w' ψ) (hv : ∀ ψ', Mono w' S ψ w' S ψ' → (∃ s, ψ' bs.length = some s ∧ s = ⟨true, none, 0, 0⟩) → Reps w' S ψ' [v'] [x]) :
    ∃ ψ',ResPost w S Env.none 0 v' (bs ++ [.rows r e []]) x w' ψ':=by
  have hψ:∀ id,bs.length≤id→ψ id = none:=fun id h=>hp.ext.same id (by omega)
  let ψ':Env:=fun id=>if id = bs.length then some ⟨true,none,0,0⟩ else ψ id
  have h0:ψ' bs.length = some ⟨true,none,0,0⟩:=by simp [ψ']
  have hne:∀ id,id≠bs.length→ψ' id = ψ id:=fun id h=>by simp [ψ',h]
  have hm:Mono w' S ψ w' S ψ':=by
    refine ⟨fun b s hb=>?_,fun B hB=>?_⟩
    · have:b≠bs.length:=fun e=>by rw [e,hψ _ (Nat.le_refl _)] at hb; cases hb
      exact .inl ((hne b this).trans hb)
    · refine ⟨⟨hB.1,hB.2.1,?_⟩,rfl⟩
      rintro ⟨id,c,l,h⟩
      by_cases hid:id = bs.length
      · rw [hid,h0] at h; cases h
      · rw [hne id hid] at h; exact hB.2.2 ⟨id,c,l,h⟩
  refine ⟨ψ',⟨hp.ext.below,fun id hid=>?_,fun id s h1 h2 h3 B hB=>?_,fun id id' s s' B h1 h2 h3 h4 h5 h6 h7 h8 h9 h10=>?_⟩,hv ψ' hm ⟨_,h0,rfl⟩,fun j blk hj=>?_⟩
  · rw [List.length_append] at hid
    simp only [List.length_cons,List.length_nil] at hid
    rw [hne id (by omega)]
    exact hp.ext.same id (by omega)
  · rw [List.length_append] at h2
    simp only [List.length_cons,List.length_nil] at h2
    by_cases hid:id = bs.length
    · rw [hid,h0] at h3; cases h3; cases hB
    · rw [hne id hid] at h3
      exact hp.ext.new id s h1 (by omega) h3 B hB
  · rw [List.length_append] at h2 h4
    simp only [List.length_cons,List.length_nil] at h2 h4
    by_cases hid:id = bs.length
    · rw [hid,h0] at h5; cases h5; cases h7
    · by_cases hid':id' = bs.length
      · rw [hid',h0] at h6; cases h6; cases h8
      · rw [hne id hid] at h5
        rw [hne id' hid'] at h6
        exact hp.ext.inj id id' s s' B h1 (by omega) h3 (by omega) h5 h6 h7 h8 h9 h10
  · rcases Nat.lt_or_ge j bs.length with hlt | hge
    · rw [List.getElem?_append_left hlt] at hj
      obtain ⟨B,c,l,k1,k2⟩:=hp.blks j blk hj
      refine ⟨B,c,l,?_,k2.mono hm fun _ _=>rfl⟩
      rw [hne _ (by omega)]
      exact k1
    · rw [List.getElem?_append_right hge] at hj
      have hj0:j - bs.length = 0:=by
        rcases Nat.eq_zero_or_pos (j - bs.length) with h | h
        · exact h
        · rw [List.getElem?_eq_none (by simp; omega)] at hj; cases hj
      rw [hj0] at hj
      simp at hj
      subst hj
      refine ⟨none,0,0,?_,rfl,[],⟨by simp,.inl ⟨rfl,rfl⟩⟩,.nil,by simp⟩
      rw [show 0 + j = bs.length by omega]
      exact h0
theorem ValidCon.nilTail {P : Program} {g : Nat} {c c' : Con} (V : ValidCon P g c)
    (h:∀ args r,(c' args).Out r→(∃ v,AsArg v r.1∧(c args).Out (v,r.2))∨(∃ a bs rt e,r = (.tup [a,.own bs.length],bs ++ [.rows rt e []])∧(c args).Out (.tup [a,.nils],bs))):ValidCon P g c':=by
  refine ⟨V.1,fun args r hr w S vals hS hv=>?_⟩
  rcases h args r hr with ⟨v,h1,h2⟩ | ⟨a,bs,rt,e,rfl,h2⟩
  · refine (V.2 args _ h2 w S vals hS hv).mono ?_
    rintro e w' ⟨x,ψ,rfl,hp⟩
    exact ⟨x,ψ,rfl,⟨hp.ext,h1.reps hp.val,hp.blks⟩⟩
  · refine (V.2 args _ h2 w S vals hS hv).mono ?_
    rintro e' w' ⟨x,ψ,rfl,hp⟩
    have hval:=hp.val
    cases hval with
    | tup hr _ =>
      obtain ⟨v1,us,rfl,hr1,hr2⟩:=hr.uncons
      cases hr2 with
      | nils ad hr3 =>
        cases hr3.nil_inv
        obtain ⟨ψ',hp'⟩:=nil_own_at rt e hp (v':=.tup [a,.own bs.length]) fun ψ' m ⟨s,hs1,hs2⟩=>by
          subst hs2
          exact .tup (Reps.cons (hr1.mono m) (.own ⟨_,hs1,⟨ad,rfl⟩⟩ .nil)) .nil
        exact ⟨_,ψ',rfl,hp'⟩
def lastD (t:Fu.Task) (d:List Int):Int:=match d with | []=>t.S.C | x :: _=>bif decide (x < 1) || decide (x > 20) then t.S.C else x
def tailD (d:List Int):List Int:=(d.take (highOf none (d.length:Int)).toNat).drop (lowOf (some (true,1))).toNat
def cutOK (d:List Int):Prop:=0≤lowOf (some (true,1))∧lowOf (some (true,1))≤highOf none (d.length:Int)∧highOf none (d.length:Int)≤d.length
theorem fLasts (t:Fu.Task) (d:List Int):callC c90 60 22 [.agg (encTask t),.view (.int .i64) d] =
  .ite ((d.length:Int) == 0) (.ret (.tup [.int .i64 t.S.C,.nils],[])) (.asrt (0≤(0:Int)∧(0:Int) < d.length) (.asrt (decide (rd (.int .i64) d 0 < 1) = false→0≤(0:Int)∧(0:Int) < d.length)
    (.ite (decide (rd (.int .i64) d 0 < 1) || decide (rd (.int .i64) d 0 > 20)) (.asrt (cutOK d) (.ret (.tup [.int .i64 t.S.C,.view (.int .i64) (tailD d)],[])))
      (.asrt (0≤(0:Int)∧(0:Int) < d.length) (.asrt (cutOK d) (.ret (.tup [.int .i64 (rd (.int .i64) d 0),.view (.int .i64) (tailD d)],[]))))))):=by kernel_rfl
def conLasts:Con:=plainCon (d2 dTask (dView (.int .i64))) fun x=>.tup [.int .i64 (lastD x.1 x.2),.view (.int .i64) x.2.tail]
theorem conLasts_valid:ValidCon c90.P 22 conLasts:=plainCon_valid c90_good 60 (by kernel_rfl) fun x=>⟨_,fLasts x.1 x.2,by
  generalize x.1 = t
  generalize x.2 = d
  cases d with
  | nil=>exact .itet rfl (.ret (.tup (.cons (.refl _) (.cons ⟨fun hr=>by cases hr with | nils a _=>exact .view0 _ _ rfl _ _ .nil⟩ .nil))) rfl)
  | cons y d =>
    have hlen:((y :: d).length:Int) = (d.length:Int) + 1:=by simp
    have hc:cutOK (y :: d):=⟨by show (0:Int)≤1; omega,by show (1:Int)≤((y :: d).length:Int); omega,Int.le_refl _⟩
    have ht:tailD (y :: d) = d:=by
      unfold tailD
      rw [show (highOf none ((y :: d).length:Int)).toNat = (y :: d).length by show (((y :: d).length:Nat):Int).toNat = _; omega,List.take_length]
      rfl
    have h0:0≤(0:Int)∧(0:Int) < ((y :: d).length:Int):=by omega
    rw [ht]
    refine .itee (by rw [hlen,beq_eq_false_iff_ne]; omega) (.asrt h0 (.asrt (fun _=>h0) ?_))
    have e:rd (.int .i64) (y :: d) 0 = y:=rfl
    rw [e]
    unfold lastD
    cases hb:(decide (y < 1) || decide (y > 20)) with
    | true=>exact .itet rfl (.asrt hc (.ret (.tup (.cons (.eq (by simp only [hb]; rfl)) (.cons (.refl _) .nil))) rfl))
    | false=>exact .itee rfl (.asrt h0 (.asrt hc (.ret (.tup (.cons (.eq (by simp only [hb]; rfl)) (.cons (.refl _) .nil))) rfl)))⟩
noncomputable def c91:Cfg:=c90.addQuiet 22 conLasts
theorem c91_good:GoodCfg c91:=c90_good.addQuiet conLasts_valid plainCon_quiet
abbrev PEn:=(Int × List Fu.Ape × Int) × List Int
abbrev AEn:=List Fu.Task × PEn
def ownW (w:PEn):List AV:=[.int .i64 w.1.1,.own 20,.own 84,.int .i64 w.1.2.2]
def zeroWA:List AV:=[.lit .i64 0,.nils,.nils,.lit .i64 0]
def TEn (x:Int × AEn × Int):St:=⟨puts (J 46) [(1,.ptr 0 0),(2,.ptr 1 0),(4,.own 85),(12,.own 20),(13,.int .i64 x.1),(14,.int .i64 x.2.2)],[(0,.cells (ownW x.2.1.2)),(1,.cells zeroWA),(20,.rows .task 47 x.2.1.1),(84,.rows .ape 49 x.2.1.2.1.2.1),(85,.rows (.int .i64) 3 x.2.1.2.2)],86⟩
def sEn:List Sh:=sets (Js 46) [(1,.keep),(2,.keep),(4,.keep),(12,.keep),(13,.int),(14,.int)]
def eEn:List Sh:=sets (Js 46) [(1,.keep),(2,.keep),(4,.keep)]
def fEn (ss:List Sh) (σ:St):St:=norm2 85 [.tmp 4] [0,1,20,84,85] ss (ownSlot 4 (.int .i64) 3 σ)
theorem weak_fEn (ss:List Sh) (σ:St):Weak 85 σ (fEn ss σ):=(Weak.ownSlot 85 4 (.int .i64) 3 σ).trans (Weak.norm2 85 [.tmp 4] [0,1,20,84,85] ss _)
def EEn (x:AEn):Ex × St:=(.exit 0,⟨puts (J 46) [(1,.ptr 0 0),(2,.ptr 1 0),(4,.own 85)],[(0,.cells (ownW x.2)),(1,.cells zeroWA),(20,.rows .task 47 x.1),(84,.rows .ape 49 x.2.1.2.1),(85,.rows (.int .i64) 3 x.2.2)],86⟩)
def lateM (now:Int) (t:Fu.Task):Bool:=atF t.J now == 3 && t.J.Mand
theorem bEn (N : Int) (x : AEn) (i : Int) : roundN c91 90 8 (loopAt c91.P 8 4) (fEn sEn) (fEn eEn) (TEn (N, x, i)) =
    .ite (decide (i < N)) (.asrt (0≤i∧i < x.1.length) (.asrt (0≤i∧i < x.1.length) (.ite (lateM x.2.1.1 (rd .task x.1 i))
      (.asrt ((x.2.2 ++ [(rd .task x.1 i).ID]).length * 8≤140737488355328) (.asrt (0≤i∧i < x.1.length) (.asrt (0≤i∧i < x.1.length) (.ret (.normal,TEn (N,(upd .task x.1 i (endK (rd .task x.1 i) x.2.1.1),(x.2.1,x.2.2 ++ [(rd .task x.1 i).ID])),IntKind.i64.wrap (i + 1)))))))
      (.asrt (0≤i∧i < x.1.length) (.asrt (0≤i∧i < x.1.length) (.ret (.normal,TEn (N,(upd .task x.1 i (endK (rd .task x.1 i) x.2.1.1),x.2),IntKind.i64.wrap (i + 1))))))))) (.ret (EEn x)):=by kernel_rfl
def gEn (σ:St):Option (Int × AEn × Int) :=
  match nth σ.tmps 13,nth σ.tmps 14,σ.heap with
  | .int .i64 N,.int .i64 i,[(_,.cells [.int .i64 a,_,_,.int .i64 c]),_,(_,.rows .task _ T),(_,.rows .ape _ A),(_,.rows (.int .i64) _ o)]=>some (N,(T,((a,A,c),o)),i)
  | _,_,_=>none
def fEnd1 (a:PEn) (t:Fu.Task):Fu.Task:=endK t a.1.1
def gEnd1 (a:PEn) (t:Fu.Task):PEn:=(a.1,bif lateM a.1.1 t then a.2 ++ [t.ID] else a.2)
def okEnd1 (a:PEn) (_:Fu.Task):Prop:=(a.2.length + 1) * 8≤140737488355328
def LEn:LoopCon:=countF 85 (fEn sEn) TEn gEn (okM (r:=.task) okEnd1) (nxtM (r:=.task) fEnd1 gEnd1) EEn
theorem lEn (hs:SubOf c91.P 8 (.loop (loopAt c91.P 8 4))):SoundLoop c91 (loopAt c91.P 8 4) LEn :=
  count_fold (C:=c91) (g:=8) (l:=4) c91_good 90 85 _ _ (weak_fEn sEn) (weak_fEn eEn) hs TEn gEn (okM (r:=.task) okEnd1) (nxtM (r:=.task) fEnd1 gEnd1) EEn (fun _=>by intro h; cases h)
    (fun N x i h0 hi hm hok=>.of_eq (bEn N x i) (by
      unfold maxI64 at hm
      rw [wrap_fits (n:=i + 1) (by omega) (by omega)]
      have a:0≤i∧i < (x.1.length:Int):=⟨h0,hok.1⟩
      refine (Tree.out_ite_true (decide_eq_true hi)).2 ⟨a,a,?_⟩
      unfold nxtM fEnd1 gEnd1
      cases h:lateM x.2.1.1 (rd .task x.1 i) with
      | true=>exact (Tree.out_ite_true rfl).2 ⟨by rw [List.length_append]; exact hok.2,a,a,rfl⟩
      | false=>exact (Tree.out_ite_false rfl).2 ⟨a,a,rfl⟩))
    (fun N x i hi=>.of_eq (bEn N x i) ((Tree.out_ite_false (decide_eq_false (by omega))).2 rfl))
noncomputable def c92:Cfg:=c91.addLoop 8 4 LEn
theorem c92_good:GoodCfg c92:=c91_good.addLoop (by unfold OneLoop; kernel_rfl) lEn
def endIn (w:Fu.World):AEn:=(w.T,((w.Now,w.A,w.Cur),[]))
def endOut (w:Fu.World):AEn:=foldI (nxtM (r:=.task) fEnd1 gEnd1) ((w.T.length:Int) - 0).toNat (endIn w) 0
def resW (now:Int) (T:List Fu.Task) (A:List Fu.Ape) (c:Int) (o:List Int):AV × List Blk:=(.tup [.agg [.int .i64 now,.own 0,.own 1,.int .i64 c],.own 2],[.rows .task 47 T,.rows .ape 49 A,.rows (.int .i64) 3 o])
def endWT (w:Fu.World):Tree (AV × List Blk):=.asrt (boundLT w.T) (.asrt (boundLA w.A) (.asrt (85 = 85∧TEn ((w.T.length:Int),endIn w,0) = TEn ((w.T.length:Int),endIn w,0)) (.asrt (0≤(0:Int)∧(w.T.length:Int)≤maxI64∧okI (nxtM (r:=.task) fEnd1 gEnd1) (fun _ _=>(none:Option Unit)) (okM (r:=.task) okEnd1) ((w.T.length:Int) - 0).toNat (endIn w) 0)
  (.ret (resW (endOut w).2.1.1 (endOut w).1 (endOut w).2.1.2.1 (endOut w).2.1.2.2 (endOut w).2.2)))))
theorem fRelEnd (w:Fu.World):callC c92 90 8 [.agg (encW w)] = endWT w:=by kernel_rfl
def endW (w:Fu.World):Fu.World:={ w with T:=w.T.map fun t=>endK t w.Now }
def missedW (w:Fu.World):List Int:=(w.T.filter (lateM w.Now)).map (·.ID)
def conEnd:Con:=resCon (d1 dWorld) smallW fun w=>resW w.Now (endW w).T w.A w.Cur (missedW w)
theorem accEnd (p:Int × List Fu.Ape × Int):∀ (l:List Fu.Task) (o:List Int),accM (r:=.task) fEnd1 gEnd1 (p,o) l = (l.map fun t=>endK t p.1,(p,o ++ (l.filter (lateM p.1)).map (·.ID)))
  | [],o=>by simp [accM]
  | t :: l,o=>by
    unfold accM
    have e:gEnd1 (p,o) t = (p,bif lateM p.1 t then o ++ [t.ID] else o):=rfl
    rw [e,accEnd p l]
    cases h:lateM p.1 t with
    | true=>simp [h,fEnd1]
    | false=>simp [h,fEnd1]
theorem okEnd (p:Int × List Fu.Ape × Int):∀ (l:List Fu.Task) (o:List Int),(o.length + l.length) * 8≤140737488355328→okAcc (r:=.task) gEnd1 okEnd1 (p,o) l
  | [],_,_=>trivial
  | t :: l,o,h=>by
    rw [List.length_cons] at h
    refine ⟨by show (o.length + 1) * 8≤140737488355328; omega,okEnd p l _ ?_⟩
    show ((bif lateM p.1 t then o ++ [t.ID] else o).length + l.length) * 8≤_
    cases lateM p.1 t with
    | true=>simp only [cond_true,List.length_append,List.length_cons,List.length_nil]; omega
    | false=>simp only [cond_false]; omega
theorem endWT_rez {w:Fu.World} (h:smallW w):Rez (endWT w) (resW w.Now (endW w).T w.A w.Cur (missedW w)):=by
  obtain ⟨h1,h2⟩:=h
  obtain ⟨k1,k2⟩:=foldAcc (r:=.task) (f:=fEnd1) (g:=gEnd1) (okE:=okEnd1) w.T [] ((w.Now,w.A,w.Cur),[]) (okEnd _ _ _ (by simp; omega))
  rw [accEnd] at k1
  have e:((w.T.length:Int) - 0).toNat = w.T.length:=by omega
  refine .asrt (by unfold boundLT; omega) (.asrt (by unfold boundLA; omega) (.asrt ⟨rfl,rfl⟩ (.asrt ⟨Int.le_refl _,by unfold maxI64; omega,?_⟩ ?_)))
  · rw [e]; exact k2
  · unfold endOut
    rw [e]
    have k1':foldI (nxtM (r:=.task) fEnd1 gEnd1) w.T.length (endIn w) 0 = _:=k1
    rw [k1']
    exact .ret (.refl _) rfl
theorem conEnd_valid:ValidCon c92.P 8 conEnd:=resCon_valid c92_good 90 (by kernel_rfl) fun w h=>⟨_,fRelEnd w,endWT_rez h⟩
noncomputable def c93:Cfg:=c92.addCon 8 conEnd
theorem c93_good:GoodCfg c93:=c92_good.addCon conEnd_valid (by kernel_rfl)
end Go.Fx
namespace Go.Fx
open Go Go.Proofs Go.RowKit
abbrev PBg:=(Int × List Fu.Ape × Int) × List Int × List (Int × Bool)
abbrev ABg:=List Fu.Task × PBg
def ownB (p:PBg):List AV:=[.int .i64 p.1.1,.own 20,.own 84,.int .i64 p.1.2.2]
def TBg (x:Int × ABg × Int):St:=⟨puts (J 75) [(1,.view (.int .i64) x.2.1.2.2.1),(2,.ptr 0 0),(4,.ptr 1 0),(6,.map 85),(24,.own 20),(25,.int .i64 x.1),(26,.int .i64 x.2.2)],[(0,.cells (ownB x.2.1.2)),(1,.cells zeroWA),(20,.rows .task 47 x.2.1.1),(84,.rows .ape 49 x.2.1.2.1.2.1),(85,.imap .bool x.2.1.2.2.2)],86⟩
def sBg:List Sh:=sets (Js 75) [(1,.keep),(2,.keep),(4,.keep),(6,.keep),(24,.keep),(25,.int),(26,.int)]
def eBg:List Sh:=sets (Js 75) [(1,.keep),(2,.keep),(4,.keep),(6,.keep)]
def EBg (x:ABg):Ex × St:=(.exit 0,⟨puts (J 75) [(1,.view (.int .i64) x.2.2.1),(2,.ptr 0 0),(4,.ptr 1 0),(6,.map 85)],[(0,.cells (ownB x.2)),(1,.cells zeroWA),(20,.rows .task 47 x.1),(84,.rows .ape 49 x.2.1.2.1),(85,.imap .bool x.2.2.2)],86⟩)
def begD (p:PBg) (t:Fu.Task):Bool:=begOK t p.1.1 (lastD t p.2.1)
def fBeg1 (p:PBg) (t:Fu.Task):Fu.Task:=begK t p.1.1 (lastD t p.2.1)
def gBeg1 (p:PBg) (t:Fu.Task):PBg:=bif begD p t then (p.1,p.2.1.tail,mput p.2.2 t.ID true) else p
theorem bBg (N : Int) (x : ABg) (i : Int) : roundN c93 90 6 (loopAt c93.P 6 6) (norm2 86 [] [0, 1, 20, 84, 85] sBg) (norm2 86 [] [0, 1, 20, 84, 85] eBg) (TBg (N, x, i)) =
    .ite (decide (i < N)) (.asrt (0≤i∧i < x.1.length) (.asrt (0≤i∧i < x.1.length) (.ite (begD x.2 (rd .task x.1 i))
      (.asrt (0≤i∧i < x.1.length) (.asrt (0≤i∧i < x.1.length) (.ret (.normal,TBg (N,(upd .task x.1 i (fBeg1 x.2 (rd .task x.1 i)),(x.2.1,x.2.2.1.tail,mput x.2.2.2 (rd .task x.1 i).ID true)),IntKind.i64.wrap (i + 1))))))
      (.ret (.normal,TBg (N,x,IntKind.i64.wrap (i + 1))))))) (.ret (EBg x)):=by kernel_rfl
def gBg (σ:St):Option (Int × ABg × Int) :=
  match nth σ.tmps 1,nth σ.tmps 25,nth σ.tmps 26,σ.heap with
  | .view (.int .i64) d,.int .i64 N,.int .i64 i,[(_,.cells [.int .i64 a,_,_,.int .i64 c]),_,(_,.rows .task _ T),(_,.rows .ape _ A),(_,.imap .bool es)]=>some (N,(T,((a,A,c),d,es)),i)
  | _,_,_,_=>none
def okBeg1 (_:PBg) (_:Fu.Task):Prop:=True
def LBg:LoopCon:=countF 86 (norm2 86 [] [0,1,20,84,85] sBg) TBg gBg (okM (r:=.task) okBeg1) (nxtM (r:=.task) fBeg1 gBeg1) EBg
theorem lBg (hs:SubOf c93.P 6 (.loop (loopAt c93.P 6 6))):SoundLoop c93 (loopAt c93.P 6 6) LBg :=
  count_fold (C:=c93) (g:=6) (l:=6) c93_good 90 86 _ _ (Weak.norm2 86 [] [0,1,20,84,85] sBg) (Weak.norm2 86 [] [0,1,20,84,85] eBg) hs TBg gBg (okM (r:=.task) okBeg1) (nxtM (r:=.task) fBeg1 gBeg1) EBg (fun _=>by intro h; cases h)
    (fun N x i h0 hi hm hok=>.of_eq (bBg N x i) (by
      unfold maxI64 at hm
      rw [wrap_fits (n:=i + 1) (by omega) (by omega)]
      have a:0≤i∧i < (x.1.length:Int):=⟨h0,hok.1⟩
      refine (Tree.out_ite_true (decide_eq_true hi)).2 ⟨a,a,?_⟩
      unfold nxtM gBeg1
      cases h:begD x.2 (rd .task x.1 i) with
      | true=>exact (Tree.out_ite_true rfl).2 ⟨a,a,rfl⟩
      | false =>
        have e:fBeg1 x.2 (rd .task x.1 i) = rd .task x.1 i:=by
          unfold fBeg1 begK
          unfold begD at h
          rw [h]; rfl
        rw [e,upd_self a.1 a.2]
        exact (Tree.out_ite_false rfl).2 rfl))
    (fun N x i hi=>.of_eq (bBg N x i) ((Tree.out_ite_false (decide_eq_false (by omega))).2 rfl))
noncomputable def c94:Cfg:=c93.addLoop 6 6 LBg
theorem c94_good:GoodCfg c94:=c93_good.addLoop (by unfold OneLoop; kernel_rfl) lBg
abbrev PBh:=(Int × List Fu.Ape × Int) × List (Int × Bool) × List Int
abbrev ABh:=List Fu.Task × PBh
def ownH (p:PBh):List AV:=[.int .i64 p.1.1,.own 20,.own 84,.int .i64 p.1.2.2]
def heapH (x:ABh):Heap:=[(0,.cells (ownH x.2)),(1,.cells zeroWA),(20,.rows .task 47 x.1),(84,.rows .ape 49 x.2.1.2.1),(85,.imap .bool x.2.2.1),(86,.rows (.int .i64) 3 x.2.2.2)]
def TBh (x:Int × ABh × Int):St:=⟨puts (J 75) [(2,.ptr 0 0),(4,.ptr 1 0),(6,.map 85),(13,.own 86),(57,.own 20),(58,.int .i64 x.1),(59,.int .i64 x.2.2)],heapH x.2.1,87⟩
def sBh:List Sh:=sets (Js 75) [(2,.keep),(4,.keep),(6,.keep),(13,.keep),(57,.keep),(58,.int),(59,.int)]
def eBh:List Sh:=sets (Js 75) [(2,.keep),(4,.keep),(13,.keep)]
def fBh (ss:List Sh) (σ:St):St:=norm2 86 [.tmp 13] [0,1,20,84,85,86] ss (ownSlot 13 (.int .i64) 3 σ)
theorem weak_fBh (ss:List Sh) (σ:St):Weak 86 σ (fBh ss σ):=(Weak.ownSlot 86 13 (.int .i64) 3 σ).trans (Weak.norm2 86 [.tmp 13] [0,1,20,84,85,86] ss _)
def EBh (x:ABh):Ex × St:=(.exit 2,⟨puts (J 75) [(2,.ptr 0 0),(4,.ptr 1 0),(13,.own 86)],heapH x,87⟩)
def hadB (es:List (Int × Bool)) (t:Fu.Task):Bool:=(mget es t.ID).getD false
theorem bBh (N : Int) (x : ABh) (i : Int) : roundN c94 90 6 (loopAt c94.P 6 16) (fBh sBh) (fBh eBh) (TBh (N, x, i)) =
    .ite (decide (i < N)) (.asrt (0≤i∧i < x.1.length) (.asrt (0≤i∧i < x.1.length) (.ite (hadB x.2.2.1 (rd .task x.1 i))
      (.asrt ((x.2.2.2 ++ [(rd .task x.1 i).ID]).length * 8≤140737488355328) (.ret (.normal,TBh (N,(x.1,x.2.1,x.2.2.1,x.2.2.2 ++ [(rd .task x.1 i).ID]),IntKind.i64.wrap (i + 1)))))
      (.ret (.normal,TBh (N,x,IntKind.i64.wrap (i + 1))))))) (.ret (EBh x)):=by kernel_rfl
def gBh (σ:St):Option (Int × ABh × Int) :=
  match nth σ.tmps 58,nth σ.tmps 59,σ.heap with
  | .int .i64 N,.int .i64 i,[(_,.cells [.int .i64 a,_,_,.int .i64 c]),_,(_,.rows .task _ T),(_,.rows .ape _ A),(_,.imap .bool es),(_,.rows (.int .i64) _ o)]=>some (N,(T,(a,A,c),es,o),i)
  | _,_,_=>none
def nxtBh (x:ABh) (i:Int):ABh:=(x.1,x.2.1,x.2.2.1,bif hadB x.2.2.1 (rd .task x.1 i) then x.2.2.2 ++ [(rd .task x.1 i).ID] else x.2.2.2)
def okBh (x:ABh) (i:Int):Prop:=i < x.1.length∧(x.2.2.2.length + 1) * 8≤140737488355328
def LBh:LoopCon:=countF 86 (fBh sBh) TBh gBh okBh nxtBh EBh
theorem lBh (hs:SubOf c94.P 6 (.loop (loopAt c94.P 6 16))):SoundLoop c94 (loopAt c94.P 6 16) LBh :=
  count_fold (C:=c94) (g:=6) (l:=16) c94_good 90 86 _ _ (weak_fBh sBh) (weak_fBh eBh) hs TBh gBh okBh nxtBh EBh (fun _=>by intro h; cases h)
    (fun N x i h0 hi hm hok=>.of_eq (bBh N x i) (by
      unfold maxI64 at hm
      rw [wrap_fits (n:=i + 1) (by omega) (by omega)]
      have a:0≤i∧i < (x.1.length:Int):=⟨h0,hok.1⟩
      refine (Tree.out_ite_true (decide_eq_true hi)).2 ⟨a,a,?_⟩
      unfold nxtBh
      cases h:hadB x.2.2.1 (rd .task x.1 i) with
      | true=>exact (Tree.out_ite_true rfl).2 ⟨by rw [List.length_append]; exact hok.2,rfl⟩
      | false=>exact (Tree.out_ite_false rfl).2 rfl))
    (fun N x i hi=>.of_eq (bBh N x i) ((Tree.out_ite_false (decide_eq_false (by omega))).2 rfl))
noncomputable def c95:Cfg:=c94.addLoop 6 16 LBh
theorem c95_good:GoodCfg c95:=c94_good.addLoop (by unfold OneLoop; kernel_rfl) lBh
def begTs (now:Int):List Int→List Fu.Task→List Fu.Task × List Int
  | _,[]=>([],[])
  | d,t :: l=>bif begOK t now (lastD t d) then (begT t now (lastD t d) :: (begTs now d.tail l).1,t.ID :: (begTs now d.tail l).2) else (t :: (begTs now d l).1,(begTs now d l).2)
def beginW (w:Fu.World) (d:List Int):Fu.World × List Int:=bif mayW w then ({ w with T:=(begTs w.Now d w.T).1 },(begTs w.Now d w.T).2) else (w,[])
def begIn (w:Fu.World) (d:List Int):ABg:=(w.T,((w.Now,w.A,w.Cur),d,[]))
def begA1 (w:Fu.World) (d:List Int):ABg:=foldI (nxtM (r:=.task) fBeg1 gBeg1) ((w.T.length:Int) - 0).toNat (begIn w d) 0
def begHi (x:ABg):ABh:=(x.1,x.2.1,x.2.2.2,[])
def begH2 (x:ABg):ABh:=foldI nxtBh ((x.1.length:Int) - 0).toNat (begHi x) 0
def nilW (w:Fu.World):AV × List Blk:=(.tup [.agg [.int .i64 w.Now,.own 0,.own 1,.int .i64 w.Cur],.nils],[.rows .task 47 w.T,.rows .ape 49 w.A])
def begHT (x:ABg):Tree (AV × List Blk):=.asrt (86 = 86∧TBh ((x.1.length:Int),begHi x,0) = TBh ((x.1.length:Int),begHi x,0)) (.asrt (0≤(0:Int)∧(x.1.length:Int)≤maxI64∧okI nxtBh (fun _ _=>(none:Option Unit)) okBh ((x.1.length:Int) - 0).toNat (begHi x) 0)
  (.ret (resW (begH2 x).2.1.1 (begH2 x).1 (begH2 x).2.1.2.1 (begH2 x).2.1.2.2 (begH2 x).2.2.2)))
def begWT (w:Fu.World) (d:List Int):Tree (AV × List Blk):=.asrt (boundLT w.T) (.asrt (boundLA w.A) (.asrt (smallW w) (.ite (!mayW w) (.ret (nilW w)) (.asrt (86 = 86∧TBg ((w.T.length:Int),begIn w d,0) = TBg ((w.T.length:Int),begIn w d,0))
  (.asrt (0≤(0:Int)∧(w.T.length:Int)≤maxI64∧okI (nxtM (r:=.task) fBeg1 gBeg1) (fun _ _=>(none:Option Unit)) (okM (r:=.task) okBeg1) ((w.T.length:Int) - 0).toNat (begIn w d) 0) (begHT (begA1 w d)))))))
theorem fRelBegin (w:Fu.World) (d:List Int):callC c95 90 6 [.agg (encW w),.view (.int .i64) d] = begWT w d:=by kernel_rfl
theorem mget_mput {α:Type} (k:Int) (v:α) (j:Int):∀ es:List (Int × α),mget (mput es k v) j = if j = k then some v else mget es j
  | []=>by unfold mput; simp only [mget]; split <;> split <;> first | rfl | (exfalso; omega)
  | (i,x) :: es=>by
    unfold mput
    by_cases h:i = k
    · subst h
      rw [if_pos rfl]
      simp only [mget]
      split <;> split <;> first | rfl | (exfalso; omega)
    · rw [if_neg h]
      simp only [mget]
      rw [mget_mput k v j es]
      split <;> split <;> first | rfl | (exfalso; omega)
theorem had_put (es:List (Int × Bool)) (k:Int) (t:Fu.Task):hadB (mput es k true) t = (hadB es t || decide (t.ID = k)):=by
  unfold hadB
  rw [mget_mput]
  by_cases h:t.ID = k
  · simp [h]
  · simp [h]
theorem accBeg (q : Int × List Fu.Ape × Int) : ∀ (l : List Fu.Task) (d : List Int) (es : List (Int × Bool)), (accM (r := .task) fBeg1 gBeg1 (q, d, es) l).1 = (begTs q.1 d l).1 ∧ (accM (r := .task) fBeg1 gBeg1 (q, d, es) l).2.1 = q ∧
    ∀ t,hadB (accM (r:=.task) fBeg1 gBeg1 (q,d,es) l).2.2.2 t = (hadB es t || decide (t.ID ∈ (begTs q.1 d l).2))
  | [],d,es=>⟨rfl,rfl,fun t=>by simp [begTs,accM]⟩
  | y :: l,d,es=>by
    unfold accM begTs
    have e:gBeg1 (q,d,es) y = bif begOK y q.1 (lastD y d) then (q,d.tail,mput es y.ID true) else (q,d,es):=rfl
    have ef:fBeg1 (q,d,es) y = bif begOK y q.1 (lastD y d) then begT y q.1 (lastD y d) else y:=rfl
    rw [e,ef]
    simp only
    cases begOK y q.1 (lastD y d) with
    | true =>
      obtain ⟨h1,h2,h3⟩:=accBeg q l d.tail (mput es y.ID true)
      simp only [cond_true]
      refine ⟨by rw [h1],h2,fun t=>?_⟩
      rw [h3,had_put,Bool.or_assoc]
      congr 1
      rw [Bool.eq_iff_iff]
      simp [List.mem_cons]
    | false =>
      obtain ⟨h1,h2,h3⟩:=accBeg q l d es
      simp only [cond_false]
      exact ⟨by rw [h1],h2,h3⟩
theorem okBeg (p:PBg):∀ (l:List Fu.Task),okAcc (r:=.task) gBeg1 okBeg1 p l
  | []=>trivial
  | _ :: l=>⟨trivial,okBeg _ l⟩
theorem begTs_len (now:Int):∀ (l:List Fu.Task) (d:List Int),(begTs now d l).1.length = l.length
  | [],_=>rfl
  | y :: l,d=>by
    unfold begTs
    cases begOK y now (lastD y d) with
    | true=>simp only [cond_true,List.length_cons,begTs_len now l]
    | false=>simp only [cond_false,List.length_cons,begTs_len now l]
theorem begTs_sub (now:Int):∀ (l:List Fu.Task) (d:List Int) (k:Int),k ∈ (begTs now d l).2→k ∈ l.map (·.ID)
  | [],_,_,h=>by simp [begTs] at h
  | y :: l,d,k,h=>by
    unfold begTs at h
    rw [List.map_cons,List.mem_cons]
    cases hb:begOK y now (lastD y d) with
    | true =>
      rw [hb] at h
      simp only [cond_true,List.mem_cons] at h
      exact h.imp id (begTs_sub now l _ k)
    | false =>
      rw [hb] at h
      exact .inr (begTs_sub now l _ k h)
theorem begTs_ids (now:Int) (f:Fu.Task→Bool):∀ (l:List Fu.Task) (d:List Int),(l.map (·.ID)).Nodup→(∀ t,t.ID ∈ l.map (·.ID)→f t = decide (t.ID ∈ (begTs now d l).2))→((begTs now d l).1.filter f).map (·.ID) = (begTs now d l).2
  | [],_,_,_=>rfl
  | y :: l,d,hn,h=>by
    rw [List.map_cons,List.nodup_cons] at hn
    unfold begTs at h ⊢
    cases hb:begOK y now (lastD y d) with
    | true =>
      rw [hb] at h
      simp only [cond_true] at h ⊢
      have h1:f (begT y now (lastD y d)) = true:=by
        rw [h _ (by simp [begT])]
        simp [begT]
      rw [List.filter_cons_of_pos h1,List.map_cons]
      congr 1
      refine begTs_ids now f l d.tail hn.2 fun t ht=>?_
      rw [h t (List.mem_cons_of_mem _ ht)]
      have:t.ID≠y.ID:=fun e=>hn.1 (e ▸ ht)
      simp [this]
    | false =>
      rw [hb] at h
      simp only [cond_false] at h ⊢
      have h1:f y = false:=by
        rw [h y (by simp)]
        rw [decide_eq_false_iff_not]
        exact fun hm=>hn.1 (begTs_sub now l d _ hm)
      rw [List.filter_cons_of_neg (by simp [h1])]
      exact begTs_ids now f l d hn.2 fun t ht=>h t (List.mem_cons_of_mem _ ht)
theorem ascT_lt:∀ (l:List Fu.Task) (t:Fu.Task),ascT (t :: l) = true→∀ u ∈ l,t.ID < u.ID
  | [],_,_,_,hu=>by cases hu
  | v :: l,t,h,u,hu=>by
    have h':(decide (t.ID < v.ID) && ascT (v :: l)) = true:=h
    rw [Bool.and_eq_true,decide_eq_true_eq] at h'
    rcases List.mem_cons.1 hu with rfl | hu
    · exact h'.1
    · have:=ascT_lt l v h'.2 u hu; omega
theorem ascT_tail {t:Fu.Task} {l:List Fu.Task} (h:ascT (t :: l) = true):ascT l = true:=by
  cases l with
  | nil=>rfl
  | cons v l =>
    have h':(decide (t.ID < v.ID) && ascT (v :: l)) = true:=h
    rw [Bool.and_eq_true] at h'
    exact h'.2
theorem ascT_nodup:∀ (l:List Fu.Task),ascT l = true→(l.map (·.ID)).Nodup
  | [],_=>by simp
  | t :: l,h=>by
    rw [List.map_cons,List.nodup_cons]
    refine ⟨fun hm=>?_,ascT_nodup l (ascT_tail h)⟩
    obtain ⟨u,hu,e⟩:=List.mem_map.1 hm
    have:=ascT_lt l t h u hu
    omega
theorem mayW_asc {w:Fu.World} (h:mayW w = true):ascT w.T = true:=by
  unfold mayW at h
  simp only [Bool.and_eq_true] at h
  exact h.2.1.2
theorem foldBh {T : List Fu.Task} {q : Int × List Fu.Ape × Int} {es : List (Int × Bool)} (hl : (T.length : Int) * 8 ≤ 140737488355328) (k : Nat) : ∀ (out : List Int) (i : Int), 0 ≤ i → i + k = T.length → out.length + k ≤ T.length →
    foldI nxtBh k (T,q,es,out) i = (T,q,es,out ++ ((T.drop i.toNat).filter (hadB es)).map (·.ID))∧okI nxtBh (fun _ _=>(none:Option Unit)) okBh k (T,q,es,out) i:=by
  induction k with
  | zero =>
    intro out i h0 h1 h2
    rw [drop_end (by omega)]
    exact ⟨by simp [foldI],trivial⟩
  | succ k ih =>
    intro out i h0 h1 h2
    have hd:=drop_rd (r:=.task) (xs:=T) h0 (by omega)
    have hok:okBh (T,q,es,out) i:=by show i < (T.length:Int)∧(out.length + 1) * 8≤140737488355328; omega
    have e:nxtBh (T,q,es,out) i = (T,q,es,bif hadB es (rd .task T i) then out ++ [(rd .task T i).ID] else out):=rfl
    have hlen:(bif hadB es (rd .task T i) then out ++ [(rd .task T i).ID] else out).length + k≤T.length:=by
      cases hadB es (rd .task T i) with
      | true=>simp only [cond_true,List.length_append,List.length_cons,List.length_nil]; omega
      | false=>simp only [cond_false]; omega
    obtain ⟨k1,k2⟩:=ih (bif hadB es (rd .task T i) then out ++ [(rd .task T i).ID] else out) (i + 1) (by omega) (by omega) hlen
    refine ⟨?_,hok,fun _=>by rw [e]; exact k2⟩
    unfold foldI
    rw [e]
    refine k1.trans ?_
    rw [hd,List.filter_cons]
    cases hadB es (rd .task T i) with
    | true=>simp
    | false=>simp
theorem begWT_rez {w:Fu.World} {d:List Int} (h:smallW w):Rez (begWT w d) (bif mayW w then resW w.Now (beginW w d).1.T w.A w.Cur (beginW w d).2 else nilW w):=by
  obtain ⟨h1,h2⟩:=h
  refine .asrt (by unfold boundLT; omega) (.asrt (by unfold boundLA; omega) (.asrt ⟨h1,h2⟩ ?_))
  cases hm:mayW w with
  | false=>exact .itet rfl (.ret (.refl _) rfl)
  | true =>
    obtain ⟨k1,k2⟩:=foldAcc (r:=.task) (f:=fBeg1) (g:=gBeg1) (okE:=okBeg1) w.T [] ((w.Now,w.A,w.Cur),d,[]) (okBeg _ _)
    have e:((w.T.length:Int) - 0).toNat = w.T.length:=by omega
    refine .itee rfl (.asrt ⟨rfl,rfl⟩ (.asrt ⟨Int.le_refl _,by unfold maxI64; omega,by rw [e]; exact k2⟩ ?_))
    have k1':begA1 w d = ([] ++ (accM (r:=.task) fBeg1 gBeg1 ((w.Now,w.A,w.Cur),d,[]) w.T).1,(accM (r:=.task) fBeg1 gBeg1 ((w.Now,w.A,w.Cur),d,[]) w.T).2):=by unfold begA1; rw [e]; exact k1
    obtain ⟨a1,a2,a3⟩:=accBeg (w.Now,w.A,w.Cur) w.T d []
    have l1:=begTs_len w.Now w.T d
    generalize begA1 w d = x at k1' ⊢
    obtain ⟨xT,xq,xd,xes⟩:=x
    rw [List.nil_append,Prod.mk.injEq] at k1'
    obtain ⟨e1,e2⟩:=k1'
    rw [← e2] at a2 a3
    rw [a1] at e1
    simp only at e1 a2 a3
    subst e1; subst a2
    obtain ⟨f1,f2⟩:=foldBh (T:=(begTs w.Now d w.T).1) (q:=(w.Now,w.A,w.Cur)) (es:=xes) (by rw [l1]; omega) (((begTs w.Now d w.T).1.length:Int) - 0).toNat [] 0 (Int.le_refl _) (by omega) (by simp)
    have f3:=begTs_ids w.Now (hadB xes) w.T d (ascT_nodup _ (mayW_asc hm)) fun t _=>by rw [a3]; rfl
    rw [show (0:Int).toNat = 0 from rfl,List.drop_zero,List.nil_append,f3] at f1
    refine .asrt ⟨rfl,rfl⟩ (.asrt ⟨Int.le_refl _,by unfold maxI64; simp only [l1]; omega,f2⟩ ?_)
    have f1':begH2 ((begTs w.Now d w.T).1,(w.Now,w.A,w.Cur),xd,xes) = ((begTs w.Now d w.T).1,(w.Now,w.A,w.Cur),xes,(begTs w.Now d w.T).2):=f1
    rw [f1']
    refine .ret ?_ ?_
    · exact .refl _
    · simp only [beginW,hm,cond_true]
def conBegin0:Con:=resCon (d2 dWorld (dView (.int .i64))) (fun x=>smallW x.1) fun x=>bif mayW x.1 then resW x.1.Now (beginW x.1 x.2).1.T x.1.A x.1.Cur (beginW x.1 x.2).2 else nilW x.1
theorem conBegin0_valid:ValidCon c95.P 6 conBegin0:=resCon_valid c95_good 90 (by kernel_rfl) fun x h=>⟨_,fRelBegin x.1 x.2,begWT_rez h⟩
def conRBegin:Con:=resCon (d2 dWorld (dView (.int .i64))) (fun x=>smallW x.1) fun x=>resW x.1.Now (beginW x.1 x.2).1.T x.1.A x.1.Cur (beginW x.1 x.2).2
theorem conRBegin_valid:ValidCon c95.P 6 conRBegin:=conBegin0_valid.nilTail fun args r hr=>by
  unfold conRBegin resCon at hr
  unfold conBegin0 resCon
  split at hr
  · rename_i x hx
    obtain ⟨h1,h2⟩:=hr
    cases hm:mayW x.1 with
    | true=>exact .inl ⟨_,.refl _,h1,by simp only [hm,cond_true]; exact h2⟩
    | false =>
      refine .inr ⟨.agg [.int .i64 x.1.Now,.own 0,.own 1,.int .i64 x.1.Cur],(nilW x.1).2,.int .i64,3,?_,h1,?_⟩
      · rw [← h2]
        have e:beginW x.1 x.2 = (x.1,[]):=by unfold beginW; rw [hm]; rfl
        show resW x.1.Now (beginW x.1 x.2).1.T x.1.A x.1.Cur (beginW x.1 x.2).2 = _
        rw [e]
        rfl
      · simp only [hm,cond_false]; rfl
  · exact hr.elim
noncomputable def c96:Cfg:=c95.addCon 6 conRBegin
theorem c96_good:GoodCfg c96:=c95_good.addCon conRBegin_valid (by kernel_rfl)
end Go.Fx
namespace Go.Fx
open Go Go.Proofs
end Go.Fx
namespace Go.Fx
open Go Go.Proofs
end Go.Fx
