import Derived.Test.YtdmlnbfejgdhaaaGreatR1
namespace Go.Fx
open Go Go.Proofs
abbrev AEi:=List Int × List Int
def TEi (x:AEi × Int):St:=⟨puts (J 26) [(0,.view (.int .i64) x.1.1),(1,.view (.int .i64) x.1.2),(11,.view (.int .i64) x.1.1),(12,.int .i64 x.1.1.length),(13,.int .i64 x.2)],[],0⟩
def sEi:List Sh:=sets (Js 26) [(0,.keep),(1,.keep),(11,.keep),(12,.int),(13,.int)]
def eEi:List Sh:=sets (Js 26) [(4,.keep)]
def REi:Ex × St:=(.ret,⟨puts (J 26) [(4,.blit false)],[],0⟩)
def EEi:Ex × St:=(.exit 0,⟨J 26,[],0⟩)
def neI (x:AEi) (i:Int):Bool:=(rd (.int .i64) x.1 i:Int) != (rd (.int .i64) x.2 i:Int)
theorem bEi (x : AEi) (i : Int) : roundN c135 60 138 (loopAt c135.P 138 4) (norm2 0 [] [] sEi) (norm2 0 [] [] eEi) (TEi (x, i)) =
    .ite (decide (i < x.1.length)) (.asrt (0≤i∧i < x.1.length) (.asrt (0≤i∧i < x.2.length) (.ite (neI x i) (.ret REi) (.ret (.normal,TEi (x,IntKind.i64.wrap (i+1))))))) (.ret EEi):=by kernel_rfl
def gEi (σ:St):Option (AEi × Int) :=
 match nth σ.tmps 0,nth σ.tmps 1,nth σ.tmps 13 with
 | .view (.int .i64) a,.view (.int .i64) b,.int .i64 i=>some ((a,b),i)
 | _,_,_=>none
def LxEi (x:AEi × Int):Tree (Ex × St):=.asrt (0≤x.2∧x.2≤x.1.1.length∧x.1.1.length=x.1.2.length∧(x.1.1.length:Int)≤17592186044415) (.ite (decide (x.1.1.drop x.2.toNat=x.1.2.drop x.2.toNat)) (.ret EEi) (.ret REi))
def LEi:LoopCon:=entry 0 (norm2 0 [] [] sEi) TEi gEi LxEi
theorem lEi (hs:SubOf c135.P 138 (.loop (loopAt c135.P 138 4))):SoundLoop c135 (loopAt c135.P 138 4) LEi:=by
 refine loop_rule3 (C:=c135) (g:=138) (l:=4) c135_good 60 0 _ _ (Weak.norm2 0 [] [] sEi) (Weak.norm2 0 [] [] eEi) hs TEi LxEi (fun x=>(x.1.1.length-x.2).toNat) (fun x q h=>?_) entry_out
 obtain ⟨⟨a,b⟩,i⟩:=x
 obtain ⟨⟨h0,h1,h2,h3⟩,h⟩:=Tree.out_asrt.1 h
 simp only at h0 h1 h2 h3 h
 refine .of_eq (bEi (a,b) i) ?_
 rw [wrap_fits (n:=i+1) (by omega) (by omega)]
 refine Tree.wp_ite.2 ⟨fun hi=>?_,fun hi=>?_⟩
 ·have hi:i < (a.length:Int):=of_decide_eq_true hi
  have e:decide (a.drop i.toNat=b.drop i.toNat)=(!neI (a,b) i && decide (a.drop (i+1).toNat=b.drop (i+1).toNat)):=by
   rw [drop_rd (r:=.int .i64) (xs:=a) h0 hi,drop_rd (r:=.int .i64) (xs:=b) h0 (by omega)]
   unfold neI
   rw [Bool.eq_iff_iff]
   simp
  rw [e] at h
  refine ⟨⟨h0,hi⟩,⟨h0,by show i < (b.length:Int); omega⟩,Tree.wp_ite.2 ⟨fun hb=>?_,fun hb=>?_⟩⟩
  ·rw [hb] at h
   exact Rnd.ret h
  ·rw [hb,Bool.not_false,Bool.true_and] at h
   exact Rnd.go (m:=fun x:AEi × Int=>(x.1.1.length-x.2).toNat) (x:=((a,b),i)) ((a,b),i+1) (by simp only; omega) (Tree.out_asrt.2 ⟨⟨by simp only; omega,by simp only; omega,h2,h3⟩,h⟩)
 ·have hi:¬ i < (a.length:Int):=of_decide_eq_false hi
  rw [drop_end (xs:=a) (by omega),drop_end (xs:=b) (by omega)] at h
  exact Rnd.out h
noncomputable def c136:Cfg:=c135.addLoop 138 4 LEi
theorem c136_good:GoodCfg c136:=c135_good.addLoop (by unfold OneLoop; kernel_rfl) lEi
def eiT (a b:List Int):Tree (AV × List Blk):=.ite ((a.length:Int) != b.length) noB (.asrt (0=0∧TEi ((a,b),0)=TEi ((a,b),0)) (.asrt (0≤(0:Int)∧(0:Int)≤a.length∧a.length=b.length∧(a.length:Int)≤17592186044415) (.ite (decide (a.drop (0:Int).toNat=b.drop (0:Int).toNat)) (.ret (.blit true,[])) noB)))
theorem fEqI (a b:List Int):callC c136 60 138 [.view (.int .i64) a,.view (.int .i64) b]=eiT a b:=by kernel_rfl
def conEqI:Con:=flatCon (d2 (dView (.int .i64)) (dView (.int .i64))) (fun x=>(x.1.length:Int)≤17592186044415) fun x=>.bool (decide ((x.1:List Int)=x.2))
theorem eiT_rez {a b:List Int} (h:(a.length:Int)≤17592186044415):Rez (eiT a b) (.bool (decide (a=b)),[]):=by
 refine ite_rez (fun hl=>noB_rez ?_) fun hl=>.asrt ⟨rfl,rfl⟩ (.asrt ⟨Int.le_refl _,by omega,?_,h⟩ ?_)
 ·refine decide_eq_false fun e=>?_
  subst e
  simp at hl
 ·have:((a.length:Int)=b.length):=by simpa using hl
  omega
 ·rw [show (0:Int).toNat=0 from rfl,List.drop_zero,List.drop_zero]
  cases hd:decide (a=b) with
  | true=>exact .itet rfl (.ret (.blit rfl) rfl)
  | false=>exact .itee rfl (noB_rez rfl)
theorem conEqI_valid:ValidCon c136.P 138 conEqI:=flatCon_valid c136_good 60 (by kernel_rfl) fun x h=>⟨_,fEqI x.1 x.2,eiT_rez h⟩
noncomputable def c137:Cfg:=c136.addQuiet 138 conEqI
theorem c137_good:GoodCfg c137:=c136_good.addQuiet conEqI_valid flatCon_quiet
abbrev Trc:=Int × Int × Int × Int × List Int × List Int × List Int
def encTrc (t:Trc):List AV:=[.int .i64 t.1,.int .i64 t.2.1,.int .i64 t.2.2.1,.int .i64 t.2.2.2.1,.view (.int .i64) t.2.2.2.2.1,.view (.int .i64) t.2.2.2.2.2.1,.view (.int .i64) t.2.2.2.2.2.2]
def decTrc:AV→Option Trc
 | .agg [a,b,c,d,e,f,g] =>
  match a.i,b.i,c.i,d.i,e.asView (.int .i64),f.asView (.int .i64),g.asView (.int .i64) with
  | some a,some b,some c,some d,some e,some f,some g=>some (a,b,c,d,e,f,g)
  | _,_,_,_,_,_,_=>none
 | _=>none
def dTrc:Dc Trc:=⟨decTrc,fun t=>.agg (encTrc t),fun v w h=>by
 unfold decTrc at h
 split at h
 ·split at h
  ·rename_i h1 h2 h3 h4 h5 h6 h7; cases h; exact .agg (.cons (.i h1) (.cons (.i h2) (.cons (.i h3) (.cons (.i h4) (.cons (.view h5) (.cons (.view h6) (.cons (.view h7) .nil)))))))
  ·cases h
 ·cases h⟩
def TSr4 (x:(Fu.World × Fu.World) × Int):St:=⟨puts (J 73) [(2,.ptr 0 0),(3,.ptr 1 0),(5,.int .i64 x.2)],[(0,.cells (encW x.1.1)),(1,.cells (encW x.1.2))],2⟩
def sSr4:List Sh:=sets (Js 73) [(2,.keep),(3,.keep),(5,.int)]
def eSr4:List Sh:=sets (Js 73) [(2,.keep),(3,.keep),(4,.keep)]
def RSr4 (x:Fu.World × Fu.World):Ex × St:=(.ret,⟨puts (J 73) [(2,.ptr 0 0),(3,.ptr 1 0),(4,.blit false)],[(0,.cells (encW x.1)),(1,.cells (encW x.2))],2⟩)
def ESr4 (x:Fu.World × Fu.World):Ex × St:=(.exit 0,⟨puts (J 73) [(2,.ptr 0 0),(3,.ptr 1 0)],[(0,.cells (encW x.1)),(1,.cells (encW x.2))],2⟩)
theorem bSr4 (x : Fu.World × Fu.World) (i : Int) : roundN c137 60 70 (loopAt c137.P 70 4) (norm2 2 [] [0, 1] sSr4) (norm2 2 [] [0, 1] eSr4) (TSr4 (x, i)) =
    .ite (decide (i < x.1.T.length)) (.asrt (0≤i∧i < x.1.T.length) (.asrt (0≤i∧i < x.2.T.length) (.ite (!eqTaskB (rd .task x.1.T i) (rd .task x.2.T i)) (.ret (RSr4 x)) (.ret (.normal,TSr4 (x,IntKind.i64.wrap (i+1))))))) (.ret (ESr4 x)):=by kernel_rfl
def gSr4 (σ:St):Option ((Fu.World × Fu.World) × Int) :=
 match nth σ.tmps 5,σ.heap with
 | .int .i64 i,[(_,.cells [.int .i64 a,.view .task t,.view .ape p,.int .i64 c]),(_,.cells [.int .i64 a2,.view .task t2,.view .ape p2,.int .i64 c2])]=>some ((⟨a,t,p,c⟩,⟨a2,t2,p2,c2⟩),i)
 | _,_=>none
def LxSr4 (x:(Fu.World × Fu.World) × Int):Tree (Ex × St):=.asrt (0≤x.2∧x.2≤x.1.1.T.length∧x.1.1.T.length=x.1.2.T.length∧(x.1.1.T.length:Int)≤17592186044415) (.ite (decide (x.1.1.T.drop x.2.toNat=x.1.2.T.drop x.2.toNat)) (.ret (ESr4 x.1)) (.ret (RSr4 x.1)))
def LSr4:LoopCon:=entry 2 (norm2 2 [] [0,1] sSr4) TSr4 gSr4 LxSr4
theorem lSr4 (hs:SubOf c137.P 70 (.loop (loopAt c137.P 70 4))):SoundLoop c137 (loopAt c137.P 70 4) LSr4:=by
 refine loop_rule3 (C:=c137) (g:=70) (l:=4) c137_good 60 2 _ _ (Weak.norm2 2 [] [0,1] sSr4) (Weak.norm2 2 [] [0,1] eSr4) hs TSr4 LxSr4 (fun x=>(x.1.1.T.length-x.2).toNat) (fun x q h=>?_) entry_out
 obtain ⟨⟨a,b⟩,i⟩:=x
 obtain ⟨⟨h0,h1,h2,h3⟩,h⟩:=Tree.out_asrt.1 h
 simp only at h0 h1 h2 h3 h
 refine .of_eq (bSr4 (a,b) i) ?_
 rw [wrap_fits (n:=i+1) (by omega) (by omega)]
 refine Tree.wp_ite.2 ⟨fun hi=>?_,fun hi=>?_⟩
 ·have hi:i < (a.T.length:Int):=of_decide_eq_true hi
  rw [drop_rd (r:=.task) h0 hi,drop_rd (r:=.task) (xs:=b.T) h0 (by omega),cons_eq_dec,← eqTaskB_eq] at h
  refine ⟨⟨h0,hi⟩,⟨h0,by show i < (b.T.length:Int); omega⟩,Tree.wp_ite.2 ⟨fun hb=>?_,fun hb=>?_⟩⟩
  ·have hb:eqTaskB (rd .task a.T i) (rd .task b.T i)=false:=by simpa using hb
   rw [hb] at h
   exact Rnd.ret h
  ·have hb:eqTaskB (rd .task a.T i) (rd .task b.T i)=true:=by simpa using hb
   rw [hb,Bool.true_and] at h
   exact Rnd.go (m:=fun x:(Fu.World × Fu.World) × Int=>(x.1.1.T.length-x.2).toNat) (x:=((a,b),i)) ((a,b),i+1) (by simp only; omega) (Tree.out_asrt.2 ⟨⟨by simp only; omega,by simp only; omega,h2,h3⟩,h⟩)
 ·have hi:¬ i < (a.T.length:Int):=of_decide_eq_false hi
  rw [drop_end (by omega),drop_end (xs:=b.T) (by omega)] at h
  exact Rnd.out h
noncomputable def c138:Cfg:=c137.addLoop 70 4 LSr4
theorem c138_good:GoodCfg c138:=c137_good.addLoop (by unfold OneLoop; kernel_rfl) lSr4
def TSr9 (x:(Fu.World × Fu.World) × Int):St:=⟨puts (J 73) [(2,.ptr 0 0),(3,.ptr 1 0),(6,.int .i64 x.2)],[(0,.cells (encW x.1.1)),(1,.cells (encW x.1.2))],2⟩
def sSr9:List Sh:=sets (Js 73) [(2,.keep),(3,.keep),(6,.int)]
def eSr9:List Sh:=sets (Js 73) [(2,.keep),(3,.keep),(4,.keep)]
def RSr9 (x:Fu.World × Fu.World):Ex × St:=(.ret,⟨puts (J 73) [(2,.ptr 0 0),(3,.ptr 1 0),(4,.blit false)],[(0,.cells (encW x.1)),(1,.cells (encW x.2))],2⟩)
def ESr9 (x:Fu.World × Fu.World):Ex × St:=(.exit 2,⟨puts (J 73) [(2,.ptr 0 0),(3,.ptr 1 0)],[(0,.cells (encW x.1)),(1,.cells (encW x.2))],2⟩)
theorem bSr9 (x : Fu.World × Fu.World) (i : Int) : roundN c138 60 70 (loopAt c138.P 70 9) (norm2 2 [] [0, 1] sSr9) (norm2 2 [] [0, 1] eSr9) (TSr9 (x, i)) =
    .ite (decide (i < x.1.A.length)) (.asrt (0≤i∧i < x.1.A.length) (.asrt (0≤i∧i < x.2.A.length) (.ite (!eqApeB (rd .ape x.1.A i) (rd .ape x.2.A i)) (.ret (RSr9 x)) (.ret (.normal,TSr9 (x,IntKind.i64.wrap (i+1))))))) (.ret (ESr9 x)):=by kernel_rfl
def gSr9 (σ:St):Option ((Fu.World × Fu.World) × Int) :=
 match nth σ.tmps 6,σ.heap with
 | .int .i64 i,[(_,.cells [.int .i64 a,.view .task t,.view .ape p,.int .i64 c]),(_,.cells [.int .i64 a2,.view .task t2,.view .ape p2,.int .i64 c2])]=>some ((⟨a,t,p,c⟩,⟨a2,t2,p2,c2⟩),i)
 | _,_=>none
def LxSr9 (x:(Fu.World × Fu.World) × Int):Tree (Ex × St):=.asrt (0≤x.2∧x.2≤x.1.1.A.length∧x.1.1.A.length=x.1.2.A.length∧(x.1.1.A.length:Int)≤17592186044415) (.ite (decide (x.1.1.A.drop x.2.toNat=x.1.2.A.drop x.2.toNat)) (.ret (ESr9 x.1)) (.ret (RSr9 x.1)))
def LSr9:LoopCon:=entry 2 (norm2 2 [] [0,1] sSr9) TSr9 gSr9 LxSr9
theorem lSr9 (hs:SubOf c138.P 70 (.loop (loopAt c138.P 70 9))):SoundLoop c138 (loopAt c138.P 70 9) LSr9:=by
 refine loop_rule3 (C:=c138) (g:=70) (l:=9) c138_good 60 2 _ _ (Weak.norm2 2 [] [0,1] sSr9) (Weak.norm2 2 [] [0,1] eSr9) hs TSr9 LxSr9 (fun x=>(x.1.1.A.length-x.2).toNat) (fun x q h=>?_) entry_out
 obtain ⟨⟨a,b⟩,i⟩:=x
 obtain ⟨⟨h0,h1,h2,h3⟩,h⟩:=Tree.out_asrt.1 h
 simp only at h0 h1 h2 h3 h
 refine .of_eq (bSr9 (a,b) i) ?_
 rw [wrap_fits (n:=i+1) (by omega) (by omega)]
 refine Tree.wp_ite.2 ⟨fun hi=>?_,fun hi=>?_⟩
 ·have hi:i < (a.A.length:Int):=of_decide_eq_true hi
  rw [drop_rd (r:=.ape) h0 hi,drop_rd (r:=.ape) (xs:=b.A) h0 (by omega),cons_eq_dec,← eqApeB_eq] at h
  refine ⟨⟨h0,hi⟩,⟨h0,by show i < (b.A.length:Int); omega⟩,Tree.wp_ite.2 ⟨fun hb=>?_,fun hb=>?_⟩⟩
  ·have hb:eqApeB (rd .ape a.A i) (rd .ape b.A i)=false:=by simpa using hb
   rw [hb] at h
   exact Rnd.ret h
  ·have hb:eqApeB (rd .ape a.A i) (rd .ape b.A i)=true:=by simpa using hb
   rw [hb,Bool.true_and] at h
   exact Rnd.go (m:=fun x:(Fu.World × Fu.World) × Int=>(x.1.1.A.length-x.2).toNat) (x:=((a,b),i)) ((a,b),i+1) (by simp only; omega) (Tree.out_asrt.2 ⟨⟨by simp only; omega,by simp only; omega,h2,h3⟩,h⟩)
 ·have hi:¬ i < (a.A.length:Int):=of_decide_eq_false hi
  rw [drop_end (by omega),drop_end (xs:=b.A) (by omega)] at h
  exact Rnd.out h
noncomputable def c139:Cfg:=c138.addLoop 70 9 LSr9
theorem c139_good:GoodCfg c139:=c138_good.addLoop (by unfold OneLoop; kernel_rfl) lSr9
def same17T (a b:Fu.World):Tree (AV × List Blk):=.ite (a.Now != b.Now || (a.Cur != b.Cur || ((a.T.length:Int) != b.T.length || (a.A.length:Int) != b.A.length))) noB
 (.asrt (2=2∧TSr4 ((a,b),0)=TSr4 ((a,b),0)) (.asrt (0≤(0:Int)∧(0:Int)≤a.T.length∧a.T.length=b.T.length∧(a.T.length:Int)≤17592186044415) (.ite (decide (a.T.drop (0:Int).toNat=b.T.drop (0:Int).toNat))
 (.asrt (2=2∧TSr9 ((a,b),0)=TSr9 ((a,b),0)) (.asrt (0≤(0:Int)∧(0:Int)≤a.A.length∧a.A.length=b.A.length∧(a.A.length:Int)≤17592186044415) (.ite (decide (a.A.drop (0:Int).toNat=b.A.drop (0:Int).toNat)) (.ret (.blit true,[])) noB))) noB)))
theorem fSame17 (a b:Fu.World):callC c139 60 70 [.agg (encW a),.agg (encW b)]=same17T a b:=by kernel_rfl
def conSame17:Con:=flatCon (d2 dWorld dWorld) (fun x=>smallW x.1) fun x=>.bool (decide (x.1=x.2))
theorem same17T_rez {a b:Fu.World} (h:smallW a):Rez (same17T a b) (.bool (decide (a=b)),[]):=by
 refine ite_rez (fun hl=>noB_rez ?_) fun hl=>?_
 ·refine decide_eq_false fun e=>?_
  subst e
  simp at hl
 ·simp only [Bool.or_eq_false_iff,bne_eq_false_iff_eq] at hl
  obtain ⟨h1,h2,h3,h4⟩:=hl
  refine .asrt ⟨rfl,rfl⟩ (.asrt ⟨Int.le_refl _,by omega,by omega,by have:=h.1; omega⟩ ?_)
  rw [show (0:Int).toNat=0 from rfl,List.drop_zero,List.drop_zero,List.drop_zero,List.drop_zero]
  obtain ⟨a1,a2,a3,a4⟩:=a
  obtain ⟨b1,b2,b3,b4⟩:=b
  simp only at h1 h2 h3 h4 ⊢
  refine ite_rez (fun hd=>.asrt ⟨trivial,trivial⟩ (.asrt ⟨Int.le_refl _,by omega,by omega,by have:=h.2; simp only at this; omega⟩ (ite_rez (fun he=>.ret (.blit ?_) rfl) fun he=>noB_rez ?_))) fun hd=>noB_rez ?_
  ·have:=of_decide_eq_true hd
   have:=of_decide_eq_true he
   simp_all
  ·have:=of_decide_eq_false he
   simp_all
  ·have:=of_decide_eq_false hd
   simp_all
theorem conSame17_valid:ValidCon c139.P 70 conSame17:=flatCon_valid c139_good 60 (by kernel_rfl) fun x h=>⟨_,fSame17 x.1 x.2,same17T_rez h⟩
noncomputable def c140:Cfg:=c139.addQuiet 70 conSame17
theorem c140_good:GoodCfg c140:=c139_good.addQuiet conSame17_valid flatCon_quiet
end Go.Fx
namespace Go.Fx
open Go Go.Proofs
def mapF {β:Type} (f:Int→β):Nat→Int→List β
 | 0,_=>[]
 | n+1,i=>f i :: mapF f n (i+1)
theorem mapF_length {β:Type} (f:Int→β):∀ (n:Nat) (i:Int),(mapF f n i).length=n
 | 0,_=>rfl
 | n+1,i=>by unfold mapF; rw [List.length_cons,mapF_length f n]
theorem mapF_map {r:RTy} {β:Type} (g:r.carrier→β) (l:List r.carrier):∀ (n:Nat) (i:Int),0≤i→i+n=l.length→mapF (fun j=>g (rd r l j)) n i=(l.drop i.toNat).map g
 | 0,i,h0,h1=>by rw [drop_end (by omega)]; rfl
 | n+1,i,h0,h1=>by
  rw [drop_rd (r:=r) (xs:=l) h0 (by omega),List.map_cons]
  unfold mapF
  rw [mapF_map g l n (i+1) (by omega) (by omega)]
theorem mapF_all {r:RTy} {β:Type} (g:r.carrier→β) (l:List r.carrier):mapF (fun j=>g (rd r l j)) ((l.length:Int)-0).toNat 0=l.map g:=by
 rw [mapF_map g l _ 0 (Int.le_refl _) (by omega)]
 rfl
section
variable {A β:Type} (f:A→Int→β) (sz:Nat) (okE:A→Int→Prop)
def nxtP (x:A × List β) (i:Int):A × List β:=(x.1,x.2 ++ [f x.1 i])
def okP (x:A × List β) (i:Int):Prop:=(x.2.length+1)*sz≤140737488355328∧okE x.1 i
theorem foldP (a : A) (k : Nat) : ∀ (out : List β) (i : Int), (∀ j, i ≤ j → j < i + k → okE a j) → (out.length + k) * sz ≤ 140737488355328 →
    foldI (nxtP f) k (a,out) i=(a,out ++ mapF (f a) k i)∧okI (nxtP f) (fun _ _=>(none:Option Unit)) (okP sz okE) k (a,out) i:=by
  induction k with
  | zero=>intro out i _ _; exact ⟨by simp [foldI,mapF],trivial⟩
  | succ k ih =>
    intro out i h1 h2
    have hl:(out ++ [f a i]).length+k=out.length+(k+1):=by simp; omega
    obtain ⟨k1,k2⟩:=ih (out ++ [f a i]) (i+1) (fun j h3 h4=>h1 j (by omega) (by omega)) (by rw [hl]; exact h2)
    have h3:(out.length+1)*sz≤140737488355328:=Nat.le_trans (Nat.mul_le_mul_right _ (by omega)) h2
    refine ⟨?_,⟨h3,h1 i (Int.le_refl _) (by omega)⟩,fun _=>k2⟩
    unfold foldI
    refine k1.trans ?_
    rw [List.append_assoc]
    rfl
end
def orC (p:List AV→Bool) (c c':Con):Con:=fun args=>bif p args then c args else c' args
theorem orC_valid {P:Program} {g:Nat} {p:List AV→Bool} {c c':Con} (h:ValidCon P g c) (h':ValidCon P g c'):ValidCon P g (orC p c c'):=by
 refine ⟨h.1,fun args r hr=>?_⟩
 unfold orC at hr
 cases hp:p args with
 | true=>rw [hp] at hr; exact h.2 args r hr
 | false=>rw [hp] at hr; exact h'.2 args r hr
def argIs (s k:Nat) (l:List AV):Bool:=match nth l s with | .fn (.func g) _ _=>Nat.beq g k | _=>false
def mulHi (a b:Int):Int:=IntKind.u64.wrap (IntKind.u64.wrap (IntKind.u64.wrap (shrI .u64 (IntKind.u64.wrap a) 32*shrI .u64 (IntKind.u64.wrap b) 32)+shrI .u64 (IntKind.u64.wrap (IntKind.u64.wrap (shrI .u64 (IntKind.u64.wrap a) 32*andI .u64 (IntKind.u64.wrap b) 4294967295)+shrI .u64 (IntKind.u64.wrap (andI .u64 (IntKind.u64.wrap a) 4294967295*andI .u64 (IntKind.u64.wrap b) 4294967295)) 32)) 32) +
 shrI .u64 (IntKind.u64.wrap (andI .u64 (IntKind.u64.wrap (IntKind.u64.wrap (shrI .u64 (IntKind.u64.wrap a) 32*andI .u64 (IntKind.u64.wrap b) 4294967295)+shrI .u64 (IntKind.u64.wrap (andI .u64 (IntKind.u64.wrap a) 4294967295*andI .u64 (IntKind.u64.wrap b) 4294967295)) 32)) 4294967295+IntKind.u64.wrap (andI .u64 (IntKind.u64.wrap a) 4294967295*shrI .u64 (IntKind.u64.wrap b) 32))) 32)
def mulLo (a b:Int):Int:=IntKind.u64.wrap (IntKind.u64.wrap a*IntKind.u64.wrap b)
theorem fTimes (a b:Int):callC c140 60 224 [.int .i64 a,.int .i64 b]=.ret (.agg [.int .u64 (mulHi a b),.int .u64 (mulLo a b)],[]):=by kernel_rfl
def conTimes:Con:=plainCon (d2 dInt dInt) fun x=>.agg [.int .u64 (mulHi x.1 x.2),.int .u64 (mulLo x.1 x.2)]
theorem conTimes_valid:ValidCon c140.P 224 conTimes:=plainCon_valid c140_good 60 (by kernel_rfl) fun ⟨a,b⟩=>⟨_,fTimes a b,.ret (.refl _) rfl⟩
noncomputable def c141:Cfg:=c140.addQuiet 224 conTimes
theorem c141_good:GoodCfg c141:=c140_good.addQuiet conTimes_valid plainCon_quiet
theorem bif_rez {α:Type} (F:α→AV × List Blk) {c:Bool} {A B:Tree (AV × List Blk)} {x y:α} (ha:Rez A (F x)) (hb:Rez B (F y)):Rez (.ite c A B) (F (bif c then x else y)):=by
 cases c
 ·exact .itee rfl hb
 ·exact .itet rfl ha
def inZ (a:Int):Bool:=decide (a≥0) && decide (a≤4611686018427387904)
def inP (a:Int):Bool:=decide (a≥1) && decide (a≤4611686018427387904)
def isC (n:Int) (b:Bool):Tree (AV × List Blk):=.ret (.tup [.lit .i64 n,.blit b],[])
def cmp2 (h l h' l':Int):Int × Bool:=bif h == h' && l == l' then (0,true) else bif decide (h < h') then (-1,true) else bif decide (h > h') then (1,true) else bif decide (l < l') then (-1,true) else bif decide (l > l') then (1,true) else (0,true)
def cmpQ (a b c d:Int):Int × Bool:=bif inZ a then bif !inP b then (0,false) else bif inZ c then bif !inP d then (0,false) else cmp2 (mulHi a d) (mulLo a d) (mulHi c b) (mulLo c b) else (0,false) else (0,false)
def cmpLo (l l':Int):Tree (AV × List Blk):=.ite (l != l) (.ite (l' != l') (isC 0 true) (isC (-1) true)) (.ite (l' != l') (isC 1 true) (.ite (decide (l < l')) (isC (-1) true) (.ite (decide (l > l')) (isC 1 true) (isC 0 true))))
def cmpHi (h l h' l':Int):Tree (AV × List Blk):=.ite (h == h' && l == l') (isC 0 true) (.ite (h != h) (.ite (h' != h') (cmpLo l l') (isC (-1) true)) (.ite (h' != h') (isC 1 true) (.ite (decide (h < h')) (isC (-1) true) (.ite (decide (h > h')) (isC 1 true) (cmpLo l l')))))
theorem fCmp (a b c d : Int) : callC c141 60 199 [.int .i64 a, .int .i64 b, .int .i64 c, .int .i64 d] =
    .ite (inZ a) (.ite (!inP b) (isC 0 false) (.ite (inZ c) (.ite (!inP d) (isC 0 false) (cmpHi (mulHi a d) (mulLo a d) (mulHi c b) (mulLo c b))) (isC 0 false))) (isC 0 false):=by kernel_rfl
def rcC (v:Int × Bool):AV × List Blk:=(.tup [.int .i64 v.1,.bool v.2],[])
theorem isC_rez (n:Int) (b:Bool):Rez (isC n b) (rcC (n,b)):=.ret (.tup (.cons (.lit rfl) (.cons (.blit rfl) .nil))) rfl
theorem cmpLo_rez (l l':Int):Rez (cmpLo l l') (rcC (bif decide (l < l') then (-1,true) else bif decide (l > l') then (1,true) else (0,true))) :=
 .itee (by simp) (.itee (by simp) (bif_rez rcC (isC_rez _ _) (bif_rez rcC (isC_rez _ _) (isC_rez _ _))))
theorem cmpHi_rez (h l h' l':Int):Rez (cmpHi h l h' l') (rcC (cmp2 h l h' l')) :=
 bif_rez rcC (isC_rez _ _) (.itee (by simp) (.itee (by simp) (bif_rez rcC (isC_rez _ _) (bif_rez rcC (isC_rez _ _) (cmpLo_rez _ _)))))
def conCmp:Con:=plainCon (d4 dInt dInt dInt dInt) fun x=>.tup [.int .i64 (cmpQ x.1 x.2.1 x.2.2.1 x.2.2.2).1,.bool (cmpQ x.1 x.2.1 x.2.2.1 x.2.2.2).2]
theorem conCmp_valid:ValidCon c141.P 199 conCmp:=plainCon_valid c141_good 60 (by kernel_rfl) fun ⟨a,b,c,d⟩=>⟨_,fCmp a b c d,
 bif_rez rcC (bif_rez rcC (isC_rez _ _) (bif_rez rcC (bif_rez rcC (isC_rez _ _) (cmpHi_rez _ _ _ _)) (isC_rez _ _))) (isC_rez _ _)⟩
noncomputable def c142:Cfg:=c141.addQuiet 199 conCmp
theorem c142_good:GoodCfg c142:=c141_good.addQuiet conCmp_valid plainCon_quiet
def dSpr:Dc Fu.Spr:=dRow .spr
def mayR (s:Fu.Spr):Bool:=decide (s.Min≥1) && (decide (s.Min≤s.U) && (decide (s.U≤1048576) && (decide (s.E≥0) && decide (s.E≤8))))
def leastR (s:Fu.Spr):Int:=bif s.E == 0 then s.U else s.Min
theorem fSprMay (s:Fu.Spr):callC c142 60 196 [.agg (encSpr s)]=.ret (.bool (mayR s),[]):=by kernel_rfl
def conSprMay:Con:=plainCon (d1 dSpr) fun s=>.bool (mayR s)
theorem conSprMay_valid:ValidCon c142.P 196 conSprMay:=plainCon_valid c142_good 60 (by kernel_rfl) fun s=>⟨_,fSprMay s,.ret (.refl _) rfl⟩
noncomputable def c143:Cfg:=c142.addQuiet 196 conSprMay
theorem c143_good:GoodCfg c143:=c142_good.addQuiet conSprMay_valid plainCon_quiet
theorem fLeast (s:Fu.Spr):callC c143 60 53 [.agg (encSpr s)]=.ite (s.E == 0) (.ret (.int .i64 s.U,[])) (.ret (.int .i64 s.Min,[])):=by kernel_rfl
def conLeast:Con:=plainCon (d1 dSpr) fun s=>.int .i64 (leastR s)
theorem conLeast_valid:ValidCon c143.P 53 conLeast:=plainCon_valid c143_good 60 (by kernel_rfl) fun s=>⟨_,fLeast s,by
 show Rez _ (.int .i64 (leastR s),[])
 unfold leastR
 cases (s.E == 0) with
 | true=>exact .itet rfl (.ret (.refl _) rfl)
 | false=>exact .itee rfl (.ret (.refl _) rfl)⟩
noncomputable def c144:Cfg:=c143.addQuiet 53 conLeast
theorem c144_good:GoodCfg c144:=c143_good.addQuiet conLeast_valid plainCon_quiet
def badF:AV:=.fn (.func 195) [] []
def TSx (x:List Fu.Spr × Int):St:=⟨puts (J 19) [(0,.view .spr x.1),(1,badF),(7,.int .i64 x.1.length),(8,.int .i64 x.2)],[],0⟩
def sSx:List Sh:=sets (Js 19) [(0,.keep),(1,.keep),(7,.int),(8,.int)]
def eSx:List Sh:=sets (Js 19) [(4,.int)]
def RSx (x:List Fu.Spr × Int):Ex × St:=(.ret,⟨puts (J 19) [(4,.int .i64 x.2)],[],0⟩)
def ESx (_:List Fu.Spr):Ex × St:=(.exit 0,⟨J 19,[],0⟩)
theorem bSx (x : List Fu.Spr) (i : Int) : roundN c144 60 223 (loopAt c144.P 223 2) (norm2 0 [] [] sSx) (norm2 0 [] [] eSx) (TSx (x, i)) =
    .ite (decide (i < x.length)) (.asrt (0≤i∧i < x.length) (.ite (!mayR (rd .spr x i)) (.ret (RSx (x,i))) (.ret (.normal,TSx (x,IntKind.i64.wrap (i+1)))))) (.ret (ESx x)):=by kernel_rfl
def gSx (σ:St):Option (List Fu.Spr × Int) :=
 match nth σ.tmps 0,nth σ.tmps 8 with
 | .view .spr A,.int .i64 i=>some (A,i)
 | _,_=>none
def pSx (x:List Fu.Spr) (i:Int):Bool:=!mayR (rd .spr x i)
def LSx:LoopCon:=searchF 0 (norm2 0 [] [] sSx) TSx gSx (fun x=>x.length) (fun _=>True) pSx RSx ESx
theorem lSx (hs:SubOf c144.P 223 (.loop (loopAt c144.P 223 2))):SoundLoop c144 (loopAt c144.P 223 2) LSx :=
 search_loop (C:=c144) (g:=223) (l:=2) c144_good 60 0 _ _ (Weak.norm2 0 [] [] sSx) (Weak.norm2 0 [] [] eSx) hs TSx gSx (fun x=>x.length) (fun _=>True) pSx RSx ESx (fun _=>by intro h; cases h) (fun _=>by intro h; cases h)
  (fun x i h0 hi hl _=>.of_eq (bSx x i) (by
   rw [wrap_fits (n:=i+1) (by omega) (by omega)]
   refine (Tree.out_ite_true (decide_eq_true hi)).2 ⟨⟨h0,hi⟩,?_⟩
   unfold pSx
   cases h:!mayR (rd .spr x i) with
   | true=>exact (Tree.out_ite_true rfl).2 rfl
   | false=>exact (Tree.out_ite_false rfl).2 rfl))
  (fun x i hi=>.of_eq (bSx x i) ((Tree.out_ite_false (decide_eq_false (by omega))).2 rfl))
noncomputable def c145:Cfg:=c144.addLoop 223 2 LSx
theorem c145_good:GoodCfg c145:=c144_good.addLoop (by unfold OneLoop; kernel_rfl) lSx
def sprsOK (l:List Fu.Spr):Bool:=decide ((l.length:Int)≤4) && !(firstP (pSx l) ((l.length:Int)-0).toNat 0).isSome
theorem fSpMay (l : List Fu.Spr) : callC c145 60 163 [.view .spr l] = .ite (decide ((l.length : Int) ≤ 4)) (.asrt (0 = 0 ∧ TSx (l, 0) = TSx (l, 0)) (.asrt ((0 ≤ (0 : Int) ∧ (l.length : Int) < 17592186044416) ∧ True)
    (.ite (firstP (pSx l) ((l.length:Int)-0).toNat 0).isSome (.ret (.bool (!decide ((firstP (pSx l) ((l.length:Int)-0).toNat 0).getD 0≥0)),[])) (.ret (.blit true,[]))))) (.ret (.blit false,[])):=by kernel_rfl
def conSpMay:Con:=plainCon (d1 (dView .spr)) fun l=>.bool (sprsOK l)
theorem conSpMay_valid:ValidCon c145.P 163 conSpMay:=plainCon_valid c145_good 60 (by kernel_rfl) fun l=>⟨_,fSpMay l,by
 show Rez _ (.bool (sprsOK l),[])
 unfold sprsOK
 cases h:decide ((l.length:Int)≤4) with
 | false=>exact .itee rfl (.ret (.blit rfl) rfl)
 | true =>
  have h1:=of_decide_eq_true h
  refine .itet rfl (.asrt ⟨rfl,rfl⟩ (.asrt ⟨⟨Int.le_refl _,by omega⟩,trivial⟩ ?_))
  cases hf:firstP (pSx l) ((l.length:Int)-0).toNat 0 with
  | none=>exact .itee rfl (.ret (.blit rfl) rfl)
  | some j =>
   have hj:=(firstP_some hf).1.1
   refine .itet rfl (.ret (.eq ?_) rfl)
   simp only [Option.getD_some,Option.isSome_some]
   rw [decide_eq_true hj]
   rfl⟩
noncomputable def c146:Cfg:=c145.addQuiet 163 conSpMay
theorem c146_good:GoodCfg c146:=c145_good.addQuiet conSpMay_valid plainCon_quiet
def lstF:AV:=.fn (.func 53) [] []
def prsF (a b:Int):AV:=.fn (.func 51) [] [.pv [.int .i64 a],.pv [.int .i64 b]]
def hasR (a b:Int) (s:Fu.Spr):Int:=maxI (leastR s) (IntKind.i64.wrap (s.U-ceilV (IntKind.i64.wrap (a*s.E)) b))
abbrev AEl:=List Fu.Spr
def TEl (x:(AEl × List (RTy.carrier (.int .i64))) × Int):St:=⟨puts (J 22) [(1,lstF),(5,.own 0),(8,.view .spr x.1.1),(9,.int .i64 (x.1.1).length),(10,.int .i64 x.2)],[(0,.rows (.int .i64) 3 x.1.2)],1⟩
def sEl:List Sh:=sets (Js 22) [(1,.keep),(5,.keep),(8,.keep),(9,.int),(10,.int)]
def eEl:List Sh:=sets (Js 22) [(5,.keep)]
def fEl (ss:List Sh) (σ:St):St:=norm2 0 [.tmp 5] [0] ss (ownSlot 5 (.int .i64) 3 σ)
theorem weak_fEl (ss:List Sh) (σ:St):Weak 0 σ (fEl ss σ):=(Weak.ownSlot 0 5 (.int .i64) 3 σ).trans (Weak.norm2 0 [.tmp 5] [0] ss _)
def EEl (x:AEl × List (RTy.carrier (.int .i64))):Ex × St:=(.exit 0,⟨puts (J 22) [(5,.own 0)],[(0,.rows (.int .i64) 3 x.2)],1⟩)
def vEl (a:AEl) (i:Int):RTy.carrier (.int .i64):=leastR (rd .spr a i)
def okEEl:AEl→Int→Prop:=fun a i=>True
theorem bEl (x : AEl × List (RTy.carrier (.int .i64))) (i : Int) : roundN c146 60 54 (loopAt c146.P 54 3) (fEl sEl) (fEl eEl) (TEl (x, i)) =
    .ite (decide (i < ((x.1).length:Int))) (.asrt (0≤i∧i < (x.1.length:Int)) (.asrt ((x.2 ++ [vEl x.1 i]).length*8≤140737488355328) (.ret (.normal,TEl ((x.1,x.2 ++ [vEl x.1 i]),IntKind.i64.wrap (i+1)))))) (.ret (EEl x)):=by kernel_rfl
def gEl (σ:St):Option ((AEl × List (RTy.carrier (.int .i64))) × Int) :=
 match nth σ.tmps 8,nth σ.tmps 10,σ.heap with
 | .view .spr l,.int .i64 i,[(_,.rows (.int .i64) _ o)]=>some ((l,o),i)
 | _,_,_=>none
def LEl:LoopCon:=boundF 0 (fEl sEl) TEl gEl (fun x=>((x.1).length:Int)) (okP 8 okEEl) (nxtP vEl) EEl
theorem lEl (hs:SubOf c146.P 54 (.loop (loopAt c146.P 54 3))):SoundLoop c146 (loopAt c146.P 54 3) LEl :=
 bound_fold (C:=c146) (g:=54) (l:=3) c146_good 60 0 _ _ (weak_fEl sEl) (weak_fEl eEl) hs TEl gEl (fun x=>((x.1).length:Int)) (okP 8 okEEl) (nxtP vEl) EEl
  (fun _=>by intro h; cases h) (fun _ _=>rfl)
  (fun x i h0 hi hm hok=>.of_eq (bEl x i) (by
   unfold maxI64 at hm
   rw [wrap_fits (n:=i+1) (by omega) (by omega)]
   refine (Tree.out_ite_true (decide_eq_true hi)).2 ?_
   have hl:=hok.1
   have he:=hok.2
   have hz:(x.2 ++ [vEl x.1 i]).length*8≤140737488355328:=by rw [List.length_append]; exact hl
   exact ⟨⟨h0,hi⟩,hz,rfl⟩))
  (fun x i hi=>.of_eq (bEl x i) ((Tree.out_ite_false (decide_eq_false (by omega))).2 rfl))
def ElT (a : AEl) : Tree (AV × List Blk) := .asrt (0 = 0 ∧ TEl ((a, []), 0) = TEl ((a, []), 0)) (.asrt (0 ≤ (0 : Int) ∧ ((a).length : Int) ≤ maxI64 ∧ okI (nxtP vEl) (fun _ _ => (none : Option Unit)) (okP 8 okEEl) (((a).length : Int) - 0).toNat (a, []) 0)
    (.ret (.own 0,[.rows (.int .i64) 3 (foldI (nxtP vEl) (((a).length:Int)-0).toNat (a,[]) 0).2])))
theorem ElT_rez {a:AEl} (hl:((a).length:Int) < 17592186044416) (_:((a).length:Int)*8≤140737488355328) (he:∀ j:Int,0≤j→j < ((a).length:Int)→okEEl a j):Rez (ElT a) (.own 0,[.rows (.int .i64) 3 (mapF (vEl a) (((a).length:Int)-0).toNat 0)]):=by
 obtain ⟨k1,k2⟩:=foldP vEl 8 okEEl a (((a).length:Int)-0).toNat [] 0 (fun j h1 h2=>he j h1 (by omega)) (by simp only [List.length_nil]; omega)
 refine .asrt ⟨rfl,rfl⟩ (.asrt ⟨Int.le_refl _,by unfold maxI64; omega,k2⟩ (.ret (.refl _) ?_))
 rw [k1]
 rfl
abbrev AEp:=List Fu.Spr × Int × Int
def TEp (x:(AEp × List (RTy.carrier (.int .i64))) × Int):St:=⟨puts (J 22) [(1,prsF (x.1.1).2.1 (x.1.1).2.2),(5,.own 0),(8,.view .spr (x.1.1).1),(9,.int .i64 (x.1.1).1.length),(10,.int .i64 x.2)],[(0,.rows (.int .i64) 3 x.1.2)],1⟩
def sEp:List Sh:=sets (Js 22) [(1,.keep),(5,.keep),(8,.keep),(9,.int),(10,.int)]
def eEp:List Sh:=sets (Js 22) [(5,.keep)]
def fEp (ss:List Sh) (σ:St):St:=norm2 0 [.tmp 5] [0] ss (ownSlot 5 (.int .i64) 3 σ)
theorem weak_fEp (ss:List Sh) (σ:St):Weak 0 σ (fEp ss σ):=(Weak.ownSlot 0 5 (.int .i64) 3 σ).trans (Weak.norm2 0 [.tmp 5] [0] ss _)
def EEp (x:AEp × List (RTy.carrier (.int .i64))):Ex × St:=(.exit 0,⟨puts (J 22) [(5,.own 0)],[(0,.rows (.int .i64) 3 x.2)],1⟩)
def vEp (a:AEp) (i:Int):RTy.carrier (.int .i64):=hasR a.2.1 a.2.2 (rd .spr a.1 i)
def okEEp:AEp→Int→Prop:=fun a i=>True
theorem bEp (x : AEp × List (RTy.carrier (.int .i64))) (i : Int) : roundN c146 60 54 (loopAt c146.P 54 3) (fEp sEp) (fEp eEp) (TEp (x, i)) =
    .ite (decide (i < ((x.1).1.length:Int))) (.asrt (0≤i∧i < (x.1.1.length:Int)) (.asrt ((x.2 ++ [vEp x.1 i]).length*8≤140737488355328) (.ret (.normal,TEp ((x.1,x.2 ++ [vEp x.1 i]),IntKind.i64.wrap (i+1)))))) (.ret (EEp x)):=by kernel_rfl
def gEp (σ:St):Option ((AEp × List (RTy.carrier (.int .i64))) × Int) :=
 match nth σ.tmps 8,nth σ.tmps 1,nth σ.tmps 10,σ.heap with
 | .view .spr l,.fn _ _ [.pv [.int .i64 p],.pv [.int .i64 q]],.int .i64 i,[(_,.rows (.int .i64) _ o)]=>some (((l,p,q),o),i)
 | _,_,_,_=>none
def LEp:LoopCon:=boundF 0 (fEp sEp) TEp gEp (fun x=>((x.1).1.length:Int)) (okP 8 okEEp) (nxtP vEp) EEp
theorem lEp (hs:SubOf c146.P 54 (.loop (loopAt c146.P 54 3))):SoundLoop c146 (loopAt c146.P 54 3) LEp :=
 bound_fold (C:=c146) (g:=54) (l:=3) c146_good 60 0 _ _ (weak_fEp sEp) (weak_fEp eEp) hs TEp gEp (fun x=>((x.1).1.length:Int)) (okP 8 okEEp) (nxtP vEp) EEp
  (fun _=>by intro h; cases h) (fun _ _=>rfl)
  (fun x i h0 hi hm hok=>.of_eq (bEp x i) (by
   unfold maxI64 at hm
   rw [wrap_fits (n:=i+1) (by omega) (by omega)]
   refine (Tree.out_ite_true (decide_eq_true hi)).2 ?_
   have hl:=hok.1
   have he:=hok.2
   have hz:(x.2 ++ [vEp x.1 i]).length*8≤140737488355328:=by rw [List.length_append]; exact hl
   exact ⟨⟨h0,hi⟩,hz,rfl⟩))
  (fun x i hi=>.of_eq (bEp x i) ((Tree.out_ite_false (decide_eq_false (by omega))).2 rfl))
def EpT (a : AEp) : Tree (AV × List Blk) := .asrt (0 = 0 ∧ TEp ((a, []), 0) = TEp ((a, []), 0)) (.asrt (0 ≤ (0 : Int) ∧ ((a).1.length : Int) ≤ maxI64 ∧ okI (nxtP vEp) (fun _ _ => (none : Option Unit)) (okP 8 okEEp) (((a).1.length : Int) - 0).toNat (a, []) 0)
    (.ret (.own 0,[.rows (.int .i64) 3 (foldI (nxtP vEp) (((a).1.length:Int)-0).toNat (a,[]) 0).2])))
theorem EpT_rez {a:AEp} (hl:((a).1.length:Int) < 17592186044416) (_:((a).1.length:Int)*8≤140737488355328) (he:∀ j:Int,0≤j→j < ((a).1.length:Int)→okEEp a j):Rez (EpT a) (.own 0,[.rows (.int .i64) 3 (mapF (vEp a) (((a).1.length:Int)-0).toNat 0)]):=by
 obtain ⟨k1,k2⟩:=foldP vEp 8 okEEp a (((a).1.length:Int)-0).toNat [] 0 (fun j h1 h2=>he j h1 (by omega)) (by simp only [List.length_nil]; omega)
 refine .asrt ⟨rfl,rfl⟩ (.asrt ⟨Int.le_refl _,by unfold maxI64; omega,k2⟩ (.ret (.refl _) ?_))
 rw [k1]
 rfl
def LEe:LoopCon:=orL (fnIs 1 53) LEl LEp
noncomputable def c147:Cfg:=c146.addLoop 54 3 LEe
theorem c147_good:GoodCfg c147:=c146_good.addLoop (by unfold OneLoop; kernel_rfl) fun hs=>orL_sound (lEl hs) (lEp hs)
theorem cEl (l:List Fu.Spr):callC c147 60 54 [.view .spr l,lstF]=ElT l:=by kernel_rfl
theorem cEp (l:List Fu.Spr) (p q:Int):callC c147 60 54 [.view .spr l,prsF p q]=EpT (l,p,q):=by kernel_rfl
def decPrs:AV→Option (Int × Int)
 | .fn (.func k) [] [.pv [v],.pv [u]]=>if k=51 then (match v.i,u.i with | some a,some b=>some (a,b) | _,_=>none) else none
 | _=>none
theorem AsArg.fn2 {f:Fn} {a b c d:AV} (h:AsArg a b) (h':AsArg c d):AsArg (.fn f [] [a,c]) (.fn f [] [b,d]):=⟨fun hr=>by
 cases hr with
 | fn _ h1 h2 _=>exact .fn _ h1 ((AsArgs.cons h (.cons h' .nil)).reps h2) .nil⟩
def dPrs:Dc (Int × Int):=⟨decPrs,fun x=>prsF x.1 x.2,fun v x h=>by
 unfold decPrs at h
 split at h
 ·split at h
  ·rename_i hk
   subst hk
   split at h
   ·rename_i a b h1 h2
    cases h
    exact .fn2 (.pvOne (.ik h1)) (.pvOne (.ik h2))
   ·cases h
  ·cases h
 ·cases h⟩
def conEl0:Con:=resCon (d2 (dView .spr) (dFn 53)) (fun x=>(x.1.length:Int) < 17592186044416) fun x=>(.own 0,[.rows (.int .i64) 3 (x.1.map leastR)])
theorem conEl_rez {l:List Fu.Spr} (h:(l.length:Int) < 17592186044416):Rez (ElT l) (.own 0,[.rows (.int .i64) 3 (l.map leastR)]):=by
 have:=ElT_rez (a:=l) h (by omega) (fun _ _ _=>trivial)
 rw [show mapF (vEl l) ((l.length:Int)-0).toNat 0=l.map leastR from mapF_all (r:=.spr) leastR l] at this
 exact this
theorem conEl0_valid:ValidCon c147.P 54 conEl0:=resCon_valid c147_good 60 (by kernel_rfl) fun x h=>⟨_,cEl x.1,conEl_rez h⟩
def conEp0:Con:=resCon (d2 (dView .spr) dPrs) (fun x=>(x.1.length:Int) < 17592186044416) fun x=>(.own 0,[.rows (.int .i64) 3 (x.1.map (hasR x.2.1 x.2.2))])
theorem conEp_rez {l:List Fu.Spr} {p q:Int} (h:(l.length:Int) < 17592186044416):Rez (EpT (l,p,q)) (.own 0,[.rows (.int .i64) 3 (l.map (hasR p q))]):=by
 have:=EpT_rez (a:=(l,p,q)) h (by show (l.length:Int)*8≤140737488355328; omega) (fun _ _ _=>trivial)
 rw [show mapF (vEp (l,p,q)) ((l.length:Int)-0).toNat 0=l.map (hasR p q) from mapF_all (r:=.spr) (hasR p q) l] at this
 exact this
theorem conEp0_valid:ValidCon c147.P 54 conEp0:=resCon_valid c147_good 60 (by kernel_rfl) fun x h=>⟨_,cEp x.1 x.2.1 x.2.2,conEp_rez h⟩
def conEe:Con:=orC (argIs 1 53) conEl0 conEp0
noncomputable def c148:Cfg:=c147.addCon 54 conEe
theorem c148_good:GoodCfg c148:=c147_good.addCon (orC_valid conEl0_valid conEp0_valid) (by kernel_rfl)
def roomR (l:List Fu.Spr) (load:Int):Bool:=bif !sprsOK l || (decide (load < 0) || decide (load > 1099511627776)) then false else (sumV (l.map leastR)).2 && decide ((sumV (l.map leastR)).1≤load)
theorem fRoom (l:List Fu.Spr) (n:Int):callC c148 60 108 [.view .spr l,.int .i64 n]=.ite (!sprsOK l || (decide (n < 0) || decide (n > 1099511627776))) (.ret (.blit false,[])) (.asrt ((l.length:Int) < 17592186044416) (.ret (.bool ((sumV (l.map leastR)).2 && decide ((sumV (l.map leastR)).1≤n)),[]))):=by kernel_rfl
def conRoom:Con:=plainCon (d2 (dView .spr) dInt) fun x=>.bool (roomR x.1 x.2)
theorem sprsOK_len {l:List Fu.Spr} (h:sprsOK l=true):(l.length:Int)≤4:=by
 unfold sprsOK at h
 rw [Bool.and_eq_true] at h
 exact of_decide_eq_true h.1
theorem conRoom_valid:ValidCon c148.P 108 conRoom:=plainCon_valid c148_good 60 (by kernel_rfl) fun ⟨l,n⟩=>⟨_,fRoom l n,by
 show Rez _ (.bool (roomR l n),[])
 unfold roomR
 cases h:(!sprsOK l || (decide (n < 0) || decide (n > 1099511627776))) with
 | true=>exact .itet rfl (.ret (.blit rfl) rfl)
 | false =>
  rw [Bool.or_eq_false_iff,Bool.not_eq_false'] at h
  have:=sprsOK_len h.1
  exact .itee rfl (.asrt (by omega) (.ret (.refl _) rfl))⟩
noncomputable def c149:Cfg:=c148.addQuiet 108 conRoom
theorem c149_good:GoodCfg c149:=c148_good.addQuiet conRoom_valid plainCon_quiet
def TCm (x:Int × Int):St:=⟨puts (J 12) [(0,.int .i64 x.1),(1,.int .i64 x.2),(4,.lit .i64 0)],[],0⟩
def sCm:List Sh:=sets (Js 12) [(0,.int),(1,.int),(4,.keep)]
def eCm:List Sh:=sets (Js 12) [(0,.int),(4,.keep)]
def ECm (n:Int):Ex × St:=(.exit 0,⟨puts (J 12) [(0,.int .i64 n),(4,.lit .i64 0)],[],0⟩)
def comF:Nat→Int→Int→Int
 | 0,a,_=>a
 | n+1,a,b=>bif decide (b > 0) then comF n b (a.tmod b) else a
def comV (a b:Int):Int:=comF (b.toNat+1) a b
theorem bCm (a b : Int) : roundN c149 60 198 (loopAt c149.P 198 1) (norm2 0 [] [] sCm) (norm2 0 [] [] eCm) (TCm (a, b)) =
    .ite (decide (b > 0)) (.asrt (b≠0) (.ret (.normal,TCm (b,a.tmod b)))) (.ret (ECm a)):=by kernel_rfl
def gCm (σ:St):Option (Int × Int) :=
 match nth σ.tmps 0,nth σ.tmps 1 with
 | .int .i64 a,.int .i64 b=>some (a,b)
 | _,_=>none
def LxCm (x:Int × Int):Tree (Ex × St):=.ret (ECm (comV x.1 x.2))
def LCm:LoopCon:=entry 0 (norm2 0 [] [] sCm) TCm gCm LxCm
theorem comF_more:∀ (n m:Nat) (a b:Int),b < n→b < m→comF n a b=comF m a b
 | 0,m,a,b,h1,h2=>by
  cases m with
  | zero=>rfl
  | succ m=>unfold comF; rw [decide_eq_false (show ¬ b > 0 by omega)]; rfl
 | n+1,m,a,b,h1,h2=>by
  cases m with
  | zero=>unfold comF; rw [decide_eq_false (show ¬ b > 0 by omega)]; rfl
  | succ m =>
   unfold comF
   cases h:decide (b > 0) with
   | false=>rfl
   | true =>
    have hb:b > 0:=of_decide_eq_true h
    have:=Int.tmod_lt_of_pos a hb
    exact comF_more n m b (a.tmod b) (by omega) (by omega)
theorem comV_step {a b:Int} (h:0 < b):comV a b=comV b (a.tmod b):=by
 have h1:=Int.tmod_lt_of_pos a h
 have e:comV a b=comF b.toNat b (a.tmod b):=by
  unfold comV
  show (bif decide (b > 0) then comF b.toNat b (a.tmod b) else a)=_
  rw [decide_eq_true h]
  rfl
 rw [e]
 exact comF_more _ _ _ _ (by omega) (by omega)
theorem comV_stop {a b:Int} (h:¬ 0 < b):comV a b=a:=by
 unfold comV
 unfold comF
 rw [decide_eq_false h]
 rfl
theorem comF_pos:∀ (n:Nat) (a b:Int),0 < a→0 < comF n a b
 | 0,a,b,h=>h
 | n+1,a,b,h=>by
  unfold comF
  cases hb:decide (b > 0) with
  | false=>exact h
  | true=>exact comF_pos n b (a.tmod b) (of_decide_eq_true hb)
theorem lCm (hs:SubOf c149.P 198 (.loop (loopAt c149.P 198 1))):SoundLoop c149 (loopAt c149.P 198 1) LCm:=by
 refine loop_rule3 (C:=c149) (g:=198) (l:=1) c149_good 60 0 _ _ (Weak.norm2 0 [] [] sCm) (Weak.norm2 0 [] [] eCm) hs TCm LxCm (fun x=>x.2.toNat) (fun x q h=>?_) entry_out
 obtain ⟨a,b⟩:=x
 refine .of_eq (bCm a b) (Tree.wp_ite.2 ⟨fun hi=>?_,fun hi=>?_⟩)
 ·have hi:0 < b:=of_decide_eq_true hi
  have h1:=Int.tmod_lt_of_pos a hi
  refine ⟨by omega,Rnd.go (m:=fun x:Int × Int=>x.2.toNat) (x:=(a,b)) (b,a.tmod b) (by simp only; omega) ?_⟩
  unfold LxCm at h ⊢
  simp only at h ⊢
  rw [← comV_step hi]
  exact h
 ·have hi:¬ 0 < b:=of_decide_eq_false hi
  unfold LxCm at h
  simp only at h
  rw [comV_stop hi] at h
  exact Rnd.out h
noncomputable def c150:Cfg:=c149.addLoop 198 1 LCm
theorem c150_good:GoodCfg c150:=c149_good.addLoop (by unfold OneLoop; kernel_rfl) lCm
theorem fCommon (a b:Int):callC c150 60 198 [.int .i64 a,.int .i64 b]=.asrt (0=0∧TCm (a,b)=TCm (a,b)) (.ret (.int .i64 (comV a b),[])):=by kernel_rfl
def conCommon:Con:=plainCon (d2 dInt dInt) fun x=>.int .i64 (comV x.1 x.2)
theorem conCommon_valid:ValidCon c150.P 198 conCommon:=plainCon_valid c150_good 60 (by kernel_rfl) fun ⟨a,b⟩=>⟨_,fCommon a b,.asrt ⟨rfl,rfl⟩ (.ret (.refl _) rfl)⟩
noncomputable def c151:Cfg:=c150.addQuiet 198 conCommon
theorem c151_good:GoodCfg c151:=c150_good.addQuiet conCommon_valid plainCon_quiet
def belowR (f:Int × Int) (s:Fu.Spr):Bool:=decide ((cmpQ (IntKind.i64.wrap (f.1*s.E)) f.2 (IntKind.i64.wrap (s.U-s.Min)) 1).1 > 0)
theorem fBelow (p q:Int) (s:Fu.Spr):callC c151 60 166 [.agg [.int .i64 p,.int .i64 q],.agg (encSpr s)]=.ret (.bool (belowR (p,q) s),[]):=by kernel_rfl
def dForce:Dc (Int × Int):=⟨fun v=>match v with | .agg [a,b]=>(match a.i,b.i with | some a,some b=>some (a,b) | _,_=>none) | _=>none,fun x=>.agg [.int .i64 x.1,.int .i64 x.2],fun v a h=>by
 split at h
 ·split at h
  ·rename_i h1 h2
   cases h
   exact .agg (.cons (.ik h1) (.cons (.ik h2) .nil))
  ·cases h
 ·cases h⟩
def conBelow:Con:=plainCon (d2 dForce dSpr) fun x=>.bool (belowR x.1 x.2)
theorem conBelow_valid:ValidCon c151.P 166 conBelow:=plainCon_valid c151_good 60 (by kernel_rfl) fun x=>⟨_,fBelow x.1.1 x.1.2 x.2,.ret (.refl _) rfl⟩
noncomputable def c152:Cfg:=c151.addQuiet 166 conBelow
theorem c152_good:GoodCfg c152:=c151_good.addQuiet conBelow_valid plainCon_quiet
abbrev AFl:=List Fu.Spr × Int × List (Int × Fu.Spr)
def TFl (x:AFl × Int):St:=⟨puts (J 62) [(0,.view .spr x.1.1),(1,.int .i64 x.1.2.1),(4,.ptr 0 0),(5,.map 1),(15,.view .spr x.1.1),(16,.int .i64 x.1.1.length),(17,.int .i64 x.2)],[(0,.cells [.lit .i64 0,.lit .i64 0]),(1,.imap .spr x.1.2.2)],2⟩
def sFl:List Sh:=sets (Js 62) [(0,.keep),(1,.int),(4,.keep),(5,.keep),(15,.keep),(16,.int),(17,.int)]
def eFl:List Sh:=sets (Js 62) [(0,.keep),(1,.int),(4,.keep),(5,.keep)]
def EFl (x:AFl):Ex × St:=(.exit 0,⟨puts (J 62) [(0,.view .spr x.1),(1,.int .i64 x.2.1),(4,.ptr 0 0),(5,.map 1)],[(0,.cells [.lit .i64 0,.lit .i64 0]),(1,.imap .spr x.2.2)],2⟩)
theorem bFl (x : AFl) (i : Int) : roundN c152 60 109 (loopAt c152.P 109 3) (norm2 2 [] [0, 1] sFl) (norm2 2 [] [0, 1] eFl) (TFl (x, i)) =
    .ite (decide (i < x.1.length)) (.asrt (0≤i∧i < x.1.length) (.ite (decide ((rd .spr x.1 i).E > 0)) (.ret (.normal,TFl ((x.1,x.2.1,mput x.2.2 i (rd .spr x.1 i)),IntKind.i64.wrap (i+1)))) (.ret (.normal,TFl (x,IntKind.i64.wrap (i+1)))))) (.ret (EFl x)):=by kernel_rfl
def gFl (σ:St):Option (AFl × Int) :=
 match nth σ.tmps 0,nth σ.tmps 1,nth σ.tmps 17,σ.heap with
 | .view .spr l,.int .i64 n,.int .i64 i,[_,(_,.imap .spr m)]=>some ((l,n,m),i)
 | _,_,_,_=>none
def nxtFl (x:AFl) (i:Int):AFl:=(x.1,x.2.1,bif decide ((rd .spr x.1 i).E > 0) then mput x.2.2 i (rd .spr x.1 i) else x.2.2)
def LFl:LoopCon:=boundF 2 (norm2 2 [] [0,1] sFl) TFl gFl (fun x=>x.1.length) (fun _ _=>True) nxtFl EFl
theorem lFl (hs:SubOf c152.P 109 (.loop (loopAt c152.P 109 3))):SoundLoop c152 (loopAt c152.P 109 3) LFl :=
 bound_fold (C:=c152) (g:=109) (l:=3) c152_good 60 2 _ _ (Weak.norm2 2 [] [0,1] sFl) (Weak.norm2 2 [] [0,1] eFl) hs TFl gFl (fun x=>x.1.length) (fun _ _=>True) nxtFl EFl
  (fun _=>by intro h; cases h) (fun _ _=>rfl)
  (fun x i h0 hi hm hok=>.of_eq (bFl x i) (by
   unfold maxI64 at hm
   rw [wrap_fits (n:=i+1) (by omega) (by omega)]
   refine (Tree.out_ite_true (decide_eq_true hi)).2 ⟨⟨h0,hi⟩,?_⟩
   unfold nxtFl
   cases h:decide ((rd .spr x.1 i).E > 0) with
   | true=>exact (Tree.out_ite_true rfl).2 rfl
   | false=>exact (Tree.out_ite_false rfl).2 rfl))
  (fun x i hi=>.of_eq (bFl x i) ((Tree.out_ite_false (decide_eq_false (by omega))).2 rfl))
noncomputable def c153:Cfg:=c152.addLoop 109 3 LFl
theorem c153_good:GoodCfg c153:=c152_good.addLoop (by unfold OneLoop; kernel_rfl) lFl
abbrev ASo:=List Fu.Spr × List (Int × Fu.Spr) × Int × Int
def TSo (x:ASo × Int):St:=⟨puts (J 60) [(0,.map 1),(1,.view .spr x.1.1),(6,.ptr 2 0),(7,.int .i64 x.1.2.2.1),(8,.int .i64 x.1.2.2.2),(16,.view .spr x.1.1),(17,.int .i64 x.1.1.length),(18,.int .i64 x.2)],[(0,.cells [.lit .i64 0,.lit .i64 0]),(1,.imap .spr x.1.2.1),(2,.cells [.lit .i64 0,.lit .i64 0])],3⟩
def sSo:List Sh:=sets (Js 60) [(0,.keep),(1,.keep),(6,.keep),(7,.int),(8,.int),(16,.keep),(17,.int),(18,.int)]
def eSo:List Sh:=sets (Js 60) [(6,.keep),(7,.int),(8,.int)]
def ESo (x:ASo):Ex × St:=(.exit 0,⟨puts (J 60) [(6,.ptr 2 0),(7,.int .i64 x.2.2.1),(8,.int .i64 x.2.2.2)],[(0,.cells [.lit .i64 0,.lit .i64 0]),(1,.imap .spr x.2.1),(2,.cells [.lit .i64 0,.lit .i64 0])],3⟩)
def nxtSo (x:ASo) (i:Int):ASo:=(x.1,x.2.1,(bif (mget x.2.1 i).isSome then IntKind.i64.wrap (x.2.2.1+(rd .spr x.1 i).U) else IntKind.i64.wrap (x.2.2.1+leastR (rd .spr x.1 i))),bif (mget x.2.1 i).isSome then IntKind.i64.wrap (x.2.2.2+(rd .spr x.1 i).E) else x.2.2.2)
theorem bSo (x : ASo) (i : Int) : roundN c153 60 165 (loopAt c153.P 165 3) (norm2 3 [] [0, 1, 2] sSo) (norm2 3 [] [0, 1, 2] eSo) (TSo (x, i)) =
    .ite (decide (i < x.1.length)) (.asrt (0≤i∧i < x.1.length) (.ret (.normal,TSo (nxtSo x i,IntKind.i64.wrap (i+1))))) (.ret (ESo x)):=by kernel_rfl
def gSo (σ:St):Option (ASo × Int) :=
 match nth σ.tmps 1,nth σ.tmps 7,nth σ.tmps 8,nth σ.tmps 18,σ.heap with
 | .view .spr l,.int .i64 a,.int .i64 b,.int .i64 i,[_,(_,.imap .spr m),_]=>some ((l,m,a,b),i)
 | .view .spr l,.int .i64 a,.lit .i64 b,.lit .i64 i,[_,(_,.imap .spr m),_]=>some ((l,m,a,b),i)
 | _,_,_,_,_=>none
def LSo:LoopCon:=boundF 3 (norm2 3 [] [0,1,2] sSo) TSo gSo (fun x=>x.1.length) (fun _ _=>True) nxtSo ESo
theorem lSo (hs:SubOf c153.P 165 (.loop (loopAt c153.P 165 3))):SoundLoop c153 (loopAt c153.P 165 3) LSo :=
 bound_fold (C:=c153) (g:=165) (l:=3) c153_good 60 3 _ _ (Weak.norm2 3 [] [0,1,2] sSo) (Weak.norm2 3 [] [0,1,2] eSo) hs TSo gSo (fun x=>x.1.length) (fun _ _=>True) nxtSo ESo
  (fun _=>by intro h; cases h) (fun _ _=>rfl)
  (fun x i h0 hi hm hok=>.of_eq (bSo x i) (by
   unfold maxI64 at hm
   rw [wrap_fits (n:=i+1) (by omega) (by omega)]
   exact (Tree.out_ite_true (decide_eq_true hi)).2 ⟨⟨h0,hi⟩,rfl⟩))
  (fun x i hi=>.of_eq (bSo x i) ((Tree.out_ite_false (decide_eq_false (by omega))).2 rfl))
noncomputable def c154:Cfg:=c153.addLoop 165 3 LSo
theorem c154_good:GoodCfg c154:=c153_good.addLoop (by unfold OneLoop; kernel_rfl) lSo
abbrev ADe:=(List Fu.Spr × Int × (Int × Int) × Int) × List (Int × Fu.Spr)
def TDe (x:ADe × Int):St:=⟨puts (J 62) [(0,.view .spr x.1.1.1),(1,.int .i64 x.1.1.2.1),(4,.ptr 0 0),(5,.map 1),(8,.ptr 3 0),(9,.int .i64 x.1.1.2.2.2),(35,.view .spr x.1.1.1),(36,.int .i64 x.1.1.1.length),(37,.int .i64 x.2)],[(0,.cells [.lit .i64 0,.lit .i64 0]),(1,.imap .spr x.1.2),(3,.cells [.int .i64 x.1.1.2.2.1.1,.int .i64 x.1.1.2.2.1.2])],4⟩
def sDe:List Sh:=sets (Js 62) [(0,.keep),(1,.int),(4,.keep),(5,.keep),(8,.keep),(9,.int),(35,.keep),(36,.int),(37,.int)]
def eDe:List Sh:=sets (Js 62) [(0,.keep),(1,.int),(4,.keep),(5,.keep),(8,.keep),(9,.int)]
def fDe (ss:List Sh) (σ:St):St:=genBlk 3 [.int,.int] (norm2 4 [] [0,1,3] ss σ)
theorem weak_fDe (ss:List Sh) (σ:St):Weak 4 σ (fDe ss σ):=(Weak.norm2 4 [] [0,1,3] ss σ).trans (Weak.genBlk 4 3 [.int,.int] _)
def EDe (x:ADe):Ex × St:=(.exit 4,⟨puts (J 62) [(0,.view .spr x.1.1),(1,.int .i64 x.1.2.1),(4,.ptr 0 0),(5,.map 1),(8,.ptr 3 0),(9,.int .i64 x.1.2.2.2)],[(0,.cells [.lit .i64 0,.lit .i64 0]),(1,.imap .spr x.2),(3,.cells [.int .i64 x.1.2.2.1.1,.int .i64 x.1.2.2.1.2])],4⟩)
theorem bDe (x : ADe) (i : Int) : roundN c154 60 109 (loopAt c154.P 109 11) (fDe sDe) (fDe eDe) (TDe (x, i)) =
    .ite (decide (i < x.1.1.length)) (.asrt (0≤i∧i < x.1.1.length) (.ite ((mget x.2 i).isSome && belowR (x.1.2.2.1.1,x.1.2.2.1.2) (rd .spr x.1.1 i)) (.ret (.normal,TDe ((x.1,mdel x.2 i),IntKind.i64.wrap (i+1)))) (.ret (.normal,TDe (x,IntKind.i64.wrap (i+1)))))) (.ret (EDe x)):=by kernel_rfl
def gDe (σ:St):Option (ADe × Int) :=
 match nth σ.tmps 0,nth σ.tmps 1,nth σ.tmps 9,nth σ.tmps 37,σ.heap with
 | .view .spr l,.int .i64 n,.int .i64 k,.int .i64 i,[_,(_,.imap .spr m),(_,.cells [p,q])]=>match p.i,q.i with | some p,some q=>some (((l,n,(p,q),k),m),i) | _,_=>none
 | _,_,_,_,_=>none
def nxtDe (x:ADe) (i:Int):ADe:=(x.1,bif (mget x.2 i).isSome && belowR (x.1.2.2.1.1,x.1.2.2.1.2) (rd .spr x.1.1 i) then mdel x.2 i else x.2)
def LDe:LoopCon:=boundF 4 (fDe sDe) TDe gDe (fun x=>x.1.1.length) (fun _ _=>True) nxtDe EDe
theorem lDe (hs:SubOf c154.P 109 (.loop (loopAt c154.P 109 11))):SoundLoop c154 (loopAt c154.P 109 11) LDe :=
 bound_fold (C:=c154) (g:=109) (l:=11) c154_good 60 4 _ _ (weak_fDe sDe) (weak_fDe eDe) hs TDe gDe (fun x=>x.1.1.length) (fun _ _=>True) nxtDe EDe
  (fun _=>by intro h; cases h) (fun _ _=>rfl)
  (fun x i h0 hi hm hok=>.of_eq (bDe x i) (by
   unfold maxI64 at hm
   rw [wrap_fits (n:=i+1) (by omega) (by omega)]
   refine (Tree.out_ite_true (decide_eq_true hi)).2 ⟨⟨h0,hi⟩,?_⟩
   unfold nxtDe
   cases h:((mget x.2 i).isSome && belowR (x.1.2.2.1.1,x.1.2.2.1.2) (rd .spr x.1.1 i)) with
   | true=>exact (Tree.out_ite_true rfl).2 rfl
   | false=>exact (Tree.out_ite_false rfl).2 rfl))
  (fun x i hi=>.of_eq (bDe x i) ((Tree.out_ite_false (decide_eq_false (by omega))).2 rfl))
def TDf (x:ADe × Int):St:=⟨puts (J 62) [(0,.view .spr x.1.1.1),(1,.int .i64 x.1.1.2.1),(4,.ptr 0 0),(5,.map 1),(8,.ptr 67 0),(9,.int .i64 x.1.1.2.2.2),(35,.view .spr x.1.1.1),(36,.int .i64 x.1.1.1.length),(37,.int .i64 x.2)],[(0,.cells [.lit .i64 0,.lit .i64 0]),(1,.imap .spr x.1.2),(67,.cells [.int .i64 x.1.1.2.2.1.1,.int .i64 x.1.1.2.2.1.2])],68⟩
def fDf (ss:List Sh) (σ:St):St:=genBlk 67 [.int,.int] (norm2 68 [] [0,1,67] ss σ)
theorem weak_fDf (ss:List Sh) (σ:St):Weak 68 σ (fDf ss σ):=(Weak.norm2 68 [] [0,1,67] ss σ).trans (Weak.genBlk 68 67 [.int,.int] _)
def EDf (x:ADe):Ex × St:=(.exit 4,⟨puts (J 62) [(0,.view .spr x.1.1),(1,.int .i64 x.1.2.1),(4,.ptr 0 0),(5,.map 1),(8,.ptr 67 0),(9,.int .i64 x.1.2.2.2)],[(0,.cells [.lit .i64 0,.lit .i64 0]),(1,.imap .spr x.2),(67,.cells [.int .i64 x.1.2.2.1.1,.int .i64 x.1.2.2.1.2])],68⟩)
theorem bDf (x : ADe) (i : Int) : roundN c154 60 109 (loopAt c154.P 109 11) (fDf sDe) (fDf eDe) (TDf (x, i)) =
    .ite (decide (i < x.1.1.length)) (.asrt (0≤i∧i < x.1.1.length) (.ite ((mget x.2 i).isSome && belowR (x.1.2.2.1.1,x.1.2.2.1.2) (rd .spr x.1.1 i)) (.ret (.normal,TDf ((x.1,mdel x.2 i),IntKind.i64.wrap (i+1)))) (.ret (.normal,TDf (x,IntKind.i64.wrap (i+1)))))) (.ret (EDf x)):=by kernel_rfl
def LDf:LoopCon:=boundF 68 (fDf sDe) TDf gDe (fun x=>x.1.1.length) (fun _ _=>True) nxtDe EDf
theorem lDf (hs:SubOf c154.P 109 (.loop (loopAt c154.P 109 11))):SoundLoop c154 (loopAt c154.P 109 11) LDf :=
 bound_fold (C:=c154) (g:=109) (l:=11) c154_good 60 68 _ _ (weak_fDf sDe) (weak_fDf eDe) hs TDf gDe (fun x=>x.1.1.length) (fun _ _=>True) nxtDe EDf
  (fun _=>by intro h; cases h) (fun _ _=>rfl)
  (fun x i h0 hi hm hok=>.of_eq (bDf x i) (by
   unfold maxI64 at hm
   rw [wrap_fits (n:=i+1) (by omega) (by omega)]
   refine (Tree.out_ite_true (decide_eq_true hi)).2 ⟨⟨h0,hi⟩,?_⟩
   unfold nxtDe
   cases h:((mget x.2 i).isSome && belowR (x.1.2.2.1.1,x.1.2.2.1.2) (rd .spr x.1.1 i)) with
   | true=>exact (Tree.out_ite_true rfl).2 rfl
   | false=>exact (Tree.out_ite_false rfl).2 rfl))
  (fun x i hi=>.of_eq (bDf x i) ((Tree.out_ite_false (decide_eq_false (by omega))).2 rfl))
def LDg:LoopCon:=eitherL 4 LDe LDf
theorem lDg (hs:SubOf c154.P 109 (.loop (loopAt c154.P 109 11))):SoundLoop c154 (loopAt c154.P 109 11) LDg:=.either 4 (lDe hs) (lDf hs)
noncomputable def c155:Cfg:=c154.addLoop 109 11 LDg
theorem c155_good:GoodCfg c155:=c154_good.addLoop (by unfold OneLoop; kernel_rfl) lDg
abbrev AFd:=List Fu.Spr × Int × List (Int × Fu.Spr)
def TFd (x:AFd):St:=⟨puts (J 62) [(0,.view .spr x.1),(1,.int .i64 x.2.1),(4,.ptr 0 0),(5,.map 1)],[(0,.cells [.lit .i64 0,.lit .i64 0]),(1,.imap .spr x.2.2)],2⟩
def sFd:List Sh:=sets (Js 62) [(0,.keep),(1,.int),(4,.keep),(5,.keep)]
def eFd:List Sh:=sets (Js 62) [(4,.keep)]
def oS (l:List Fu.Spr) (n:Int) (m:List (Int × Fu.Spr)):ASo:=foldI nxtSo ((l.length:Int)-0).toNat (l,m,IntKind.i64.wrap (0-n),0) 0
def dS (l:List Fu.Spr) (n:Int) (f:Int × Int) (m:List (Int × Fu.Spr)) (k:Int):ADe:=foldI nxtDe ((l.length:Int)-0).toNat ((l,n,f,k),m) 0
def EFd (f:Int × Int):Ex × St:=(.ret,⟨puts (J 62) [(4,.ptr 0 0)],[(0,.cells [.int .i64 f.1,.int .i64 f.2])],2⟩)
def rndFd (l:List Fu.Spr) (n:Int) (f:Int × Int) (m:List (Int × Fu.Spr)) (k:Int) (N:Nat) (T:ADe × Int→St):Tree (Ex × St):=.asrt (N=N∧T (((l,n,f,k),m),0)=T (((l,n,f,k),m),0)) (.asrt (0≤(0:Int)∧(l.length:Int)≤maxI64∧okI nxtDe (fun _ _=>(none:Option Unit)) (fun _ _=>True) ((l.length:Int)-0).toNat ((l,n,f,k),m) 0)
 (.ite (((dS l n f m k).2.length:Int) == (dS l n f m k).1.2.2.2) (.ret (EFd (dS l n f m k).1.2.2.1)) (.ret (.normal,TFd ((dS l n f m k).1.1,(dS l n f m k).1.2.1,(dS l n f m k).2)))))
def comO (l:List Fu.Spr) (n:Int) (m:List (Int × Fu.Spr)):Int:=comV (oS l n m).2.2.1 (oS l n m).2.2.2
theorem bFd (l : List Fu.Spr) (n : Int) (m : List (Int × Fu.Spr)) : roundN c155 60 109 (loopAt c155.P 109 8) (norm2 2 [] [0, 1] sFd) (norm2 2 [] [0] eFd) (TFd (l, n, m)) =
    .asrt (3=3∧TSo ((l,m,IntKind.i64.wrap (0-n),0),0)=TSo ((l,m,IntKind.i64.wrap (0-n),0),0)) (.asrt (0≤(0:Int)∧(l.length:Int)≤maxI64∧okI nxtSo (fun _ _=>(none:Option Unit)) (fun _ _=>True) ((l.length:Int)-0).toNat (l,m,IntKind.i64.wrap (0-n),0) 0)
      (.ite (decide ((oS l n m).2.2.1≤0) || (oS l n m).2.2.2 == 0) (rndFd l n (0,1) (oS l n m).2.1 (oS l n m).2.1.length 4 TDe)
        (.asrt (comO l n m≠0) (.asrt (comO l n m≠0) (rndFd l n (IntKind.i64.wrap ((oS l n m).2.2.1.tdiv (comO l n m)),IntKind.i64.wrap ((oS l n m).2.2.2.tdiv (comO l n m))) (oS l n m).2.1 (oS l n m).2.1.length 68 TDf))))):=by kernel_rfl
theorem mdel_len {α:Type}:∀ (m:List (Int × α)) (k:Int),(mdel m k).length≤m.length
 | [],_=>Nat.le_refl _
 | (j,x) :: m,k=>by
  unfold mdel
  split
  ·simp
  ·have:=mdel_len m k
   simp only [List.length_cons]
   omega
theorem foldSo (l:List Fu.Spr) (m:List (Int × Fu.Spr)):∀ (k:Nat) (p:Int × Int) (i:Int),(foldI nxtSo k (l,m,p) i).1=l∧(foldI nxtSo k (l,m,p) i).2.1=m
 | 0,_,_=>⟨rfl,rfl⟩
 | k+1,p,i=>foldSo l m k _ (i+1)
theorem foldDe (c:List Fu.Spr × Int × (Int × Int) × Int):∀ (k:Nat) (m:List (Int × Fu.Spr)) (i:Int),(foldI nxtDe k (c,m) i).1=c∧(foldI nxtDe k (c,m) i).2.length≤m.length
 | 0,_,_=>⟨rfl,Nat.le_refl _⟩
 | k+1,m,i=>by
  unfold foldI
  obtain ⟨h1,h2⟩:=foldDe c k (nxtDe (c,m) i).2 (i+1)
  refine ⟨h1,Nat.le_trans h2 ?_⟩
  unfold nxtDe
  simp only
  cases (mget m i).isSome && belowR (c.2.2.1.1,c.2.2.1.2) (rd .spr c.1 i) with
  | true=>exact mdel_len m i
  | false=>exact Nat.le_refl _
theorem okI_true {A:Type} (nxt:A→Int→A):∀ (k:Nat) (x:A) (i:Int),okI nxt (fun _ _=>(none:Option Unit)) (fun _ _=>True) k x i
 | 0,_,_=>trivial
 | k+1,x,i=>⟨trivial,fun _=>okI_true nxt k _ (i+1)⟩
def ofS (l:List Fu.Spr) (n:Int) (m:List (Int × Fu.Spr)):Int × Int:=bif decide ((oS l n m).2.2.1≤0) || (oS l n m).2.2.2 == 0 then (0,1) else (IntKind.i64.wrap ((oS l n m).2.2.1.tdiv (comO l n m)),IntKind.i64.wrap ((oS l n m).2.2.2.tdiv (comO l n m)))
def delS (l:List Fu.Spr) (n:Int) (m:List (Int × Fu.Spr)):List (Int × Fu.Spr):=(dS l n (ofS l n m) m m.length).2
def findF (l:List Fu.Spr) (n:Int):Nat→List (Int × Fu.Spr)→Int × Int
 | 0,m=>ofS l n m
 | k+1,m=>bif decide ((delS l n m).length=m.length) then ofS l n m else findF l n k (delS l n m)
theorem delS_len (l:List Fu.Spr) (n:Int) (m:List (Int × Fu.Spr)):(delS l n m).length≤m.length:=(foldDe _ _ _ _).2
theorem delS_nil (l:List Fu.Spr) (n:Int):(delS l n []).length=([]:List (Int × Fu.Spr)).length:=Nat.le_antisymm (delS_len l n []) (Nat.zero_le _)
theorem findF_more (l:List Fu.Spr) (n:Int):∀ (k k':Nat) (m:List (Int × Fu.Spr)),m.length≤k→m.length≤k'→findF l n k m=findF l n k' m
 | 0,0,_,_,_=>rfl
 | 0,k'+1,m,h,_=>by
  have hm:m=[]:=List.length_eq_zero_iff.1 (by omega)
  subst hm
  unfold findF
  rw [decide_eq_true (delS_nil l n)]
  rfl
 | k+1,0,m,_,h=>by
  have hm:m=[]:=List.length_eq_zero_iff.1 (by omega)
  subst hm
  unfold findF
  rw [decide_eq_true (delS_nil l n)]
  rfl
 | k+1,k'+1,m,h,h'=>by
  unfold findF
  cases hb:decide ((delS l n m).length=m.length) with
  | true=>rfl
  | false =>
   have hne:(delS l n m).length≠m.length:=of_decide_eq_false hb
   have:=delS_len l n m
   exact findF_more l n k k' _ (by omega) (by omega)
def LxFd (x:AFd):Tree (Ex × St):=.asrt ((x.1.length:Int) < 17592186044416) (.ret (EFd (findF x.1 x.2.1 x.2.2.length x.2.2)))
def gFd (σ:St):Option AFd :=
 match nth σ.tmps 0,nth σ.tmps 1,σ.heap with
 | .view .spr l,.int .i64 n,[_,(_,.imap .spr m)]=>some (l,n,m)
 | _,_,_=>none
def LFd:LoopCon:=entry 2 (norm2 2 [] [0,1] sFd) TFd gFd LxFd
theorem rndFd_wp {N : Nat} {T : ADe × Int → St} {l : List Fu.Spr} {n : Int} {m : List (Int × Fu.Spr)} {q : Ex × St} (hl : (l.length : Int) < 17592186044416) (h : EFd (findF l n m.length m) = q) :
    (rndFd l n (ofS l n m) (oS l n m).2.1 (oS l n m).2.1.length N T).wp (Rnd TFd (fun x:AFd=>x.2.2.length) LxFd (l,n,m) q):=by
  have e1:(oS l n m).2.1=m:=(foldSo l m _ _ _).2
  rw [e1]
  have e2:(dS l n (ofS l n m) m m.length).1=(l,n,ofS l n m,(m.length:Int)):=(foldDe _ _ _ _).1
  refine ⟨⟨rfl,rfl⟩,⟨Int.le_refl _,by unfold maxI64; omega,okI_true _ _ _ _⟩,Tree.wp_ite.2 ⟨fun hb=>?_,fun hb=>?_⟩⟩
  · rw [e2] at hb ⊢
    have hb:((delS l n m).length:Int)=m.length:=eq_of_beq hb
    cases m with
    | nil=>exact Rnd.ret h
    | cons a m =>
      have hs:findF l n (a :: m).length (a :: m)=ofS l n (a :: m):=by
        show (bif decide ((delS l n (a :: m)).length=(a :: m).length) then ofS l n (a :: m) else _)=_
        rw [decide_eq_true (show (delS l n (a :: m)).length=(a :: m).length by omega)]
        rfl
      rw [hs] at h
      exact Rnd.ret h
  · rw [e2] at hb ⊢
    have hb:((delS l n m).length:Int)≠m.length:=beq_eq_false_iff_ne.1 hb
    have hle:=delS_len l n m
    have hlt:(delS l n m).length < m.length:=by omega
    refine Rnd.go (m:=fun x:AFd=>x.2.2.length) (x:=(l,n,m)) (l,n,delS l n m) hlt (Tree.out_asrt.2 ⟨hl,?_⟩)
    cases m with
    | nil=>simp at hlt
    | cons a m =>
      have hs:findF l n (a :: m).length (a :: m)=findF l n (delS l n (a :: m)).length (delS l n (a :: m)):=by
        show (bif decide ((delS l n (a :: m)).length=(a :: m).length) then ofS l n (a :: m) else findF l n m.length (delS l n (a :: m)))=_
        rw [decide_eq_false (show ¬ (delS l n (a :: m)).length=(a :: m).length by omega)]
        simp only [List.length_cons] at hlt
        exact findF_more l n _ _ _ (by omega) (Nat.le_refl _)
      rw [hs] at h
      exact h
theorem lFd (hs:SubOf c155.P 109 (.loop (loopAt c155.P 109 8))):SoundLoop c155 (loopAt c155.P 109 8) LFd:=by
 refine loop_rule3 (C:=c155) (g:=109) (l:=8) c155_good 60 2 _ _ (Weak.norm2 2 [] [0,1] sFd) (Weak.norm2 2 [] [0] eFd) hs TFd LxFd (fun x=>x.2.2.length) (fun x q h=>?_) entry_out
 obtain ⟨l,n,m⟩:=x
 obtain ⟨hl,h⟩:=Tree.out_asrt.1 h
 simp only at hl
 have h:EFd (findF l n m.length m)=q:=h
 refine .of_eq (bFd l n m) ⟨⟨rfl,rfl⟩,⟨Int.le_refl _,by unfold maxI64; omega,okI_true _ _ _ _⟩,Tree.wp_ite.2 ⟨fun hb=>?_,fun hb=>?_⟩⟩
 ·have e:ofS l n m=(0,1):=by unfold ofS; rw [hb]; rfl
  have key:=rndFd_wp (N:=4) (T:=TDe) hl h
  rw [e] at key
  exact key
 ·have e:ofS l n m=(IntKind.i64.wrap ((oS l n m).2.2.1.tdiv (comO l n m)),IntKind.i64.wrap ((oS l n m).2.2.2.tdiv (comO l n m))):=by unfold ofS; rw [hb]; rfl
  rw [Bool.or_eq_false_iff] at hb
  have h1:¬ (oS l n m).2.2.1≤0:=of_decide_eq_false hb.1
  have h2:comO l n m≠0:=by
   have:=comF_pos ((oS l n m).2.2.2.toNat+1) (oS l n m).2.2.1 (oS l n m).2.2.2 (by omega)
   have e3:comO l n m=comF ((oS l n m).2.2.2.toNat+1) (oS l n m).2.2.1 (oS l n m).2.2.2:=rfl
   omega
  have key:=rndFd_wp (N:=68) (T:=TDf) hl h
  rw [e] at key
  exact ⟨h2,h2,key⟩
noncomputable def c156:Cfg:=c155.addLoop 109 8 LFd
theorem c156_good:GoodCfg c156:=c155_good.addLoop (by unfold OneLoop; kernel_rfl) lFd
def fillS (l:List Fu.Spr) (n:Int):AFl:=foldI nxtFl ((l.length:Int)-0).toNat (l,n,[]) 0
theorem foldFl (l:List Fu.Spr) (n:Int):∀ (k:Nat) (m:List (Int × Fu.Spr)) (i:Int),(foldI nxtFl k (l,n,m) i).1=l∧(foldI nxtFl k (l,n,m) i).2.1=n
 | 0,_,_=>⟨rfl,rfl⟩
 | k+1,m,i=>foldFl l n k _ (i+1)
def forceV (l:List Fu.Spr) (n:Int):Int × Int:=findF l n (fillS l n).2.2.length (fillS l n).2.2
theorem fFind (l : List Fu.Spr) (n : Int) : callC c156 60 109 [.view .spr l, .int .i64 n] = .asrt (2 = 2 ∧ TFl ((l, n, []), 0) = TFl ((l, n, []), 0)) (.asrt (0 ≤ (0 : Int) ∧ (l.length : Int) ≤ maxI64 ∧ okI nxtFl (fun _ _ => (none : Option Unit)) (fun _ _ => True) ((l.length : Int) - 0).toNat (l, n, []) 0)
    (.asrt (2=2∧TFd (fillS l n)=TFd (fillS l n)) (.asrt (((fillS l n).1.length:Int) < 17592186044416) (.ret (.agg [.int .i64 (findF (fillS l n).1 (fillS l n).2.1 (fillS l n).2.2.length (fillS l n).2.2).1,.int .i64 (findF (fillS l n).1 (fillS l n).2.1 (fillS l n).2.2.length (fillS l n).2.2).2],[]))))):=by kernel_rfl
def conFind:Con:=flatCon (d2 (dView .spr) dInt) (fun x=>(x.1.length:Int) < 17592186044416) fun x=>.agg [.int .i64 (forceV x.1 x.2).1,.int .i64 (forceV x.1 x.2).2]
theorem find_rez {l:List Fu.Spr} {n:Int} (h:(l.length:Int) < 17592186044416):∃ t,callC c156 60 109 [.view .spr l,.int .i64 n]=t∧Rez t (.agg [.int .i64 (forceV l n).1,.int .i64 (forceV l n).2],[]):=by
 obtain ⟨h1,h2⟩:=foldFl l n ((l.length:Int)-0).toNat [] 0
 refine ⟨_,fFind l n,.asrt ⟨rfl,rfl⟩ (.asrt ⟨Int.le_refl _,by unfold maxI64; omega,okI_true _ _ _ _⟩ (.asrt ⟨rfl,rfl⟩ ?_))⟩
 have e1:(fillS l n).1=l:=h1
 have e2:(fillS l n).2.1=n:=h2
 rw [e1,e2]
 exact .asrt h (.ret (.refl _) rfl)
theorem conFind_valid:ValidCon c156.P 109 conFind:=flatCon_valid c156_good 60 (by kernel_rfl) fun x h=>find_rez h
noncomputable def c157:Cfg:=c156.addQuiet 109 conFind
theorem c157_good:GoodCfg c157:=c156_good.addQuiet conFind_valid flatCon_quiet
def forceR (l:List Fu.Spr) (n:Int):(Int × Int) × Bool:=bif roomR l n then (forceV l n,true) else ((0,0),false)
theorem roomR_len {l:List Fu.Spr} {n:Int} (h:roomR l n=true):(l.length:Int)≤4:=by
 unfold roomR at h
 cases hc:(!sprsOK l || (decide (n < 0) || decide (n > 1099511627776))) with
 | true=>rw [hc] at h; cases h
 | false =>
  rw [Bool.or_eq_false_iff,Bool.not_eq_false'] at hc
  exact sprsOK_len hc.1
theorem fForce (l:List Fu.Spr) (n:Int):callC c157 60 50 [.view .spr l,.int .i64 n]=.ite (!roomR l n) (.ret (.tup [.lit .i64 0,.lit .i64 0,.blit false],[])) (.asrt ((l.length:Int) < 17592186044416) (.ret (.tup [.int .i64 (forceV l n).1,.int .i64 (forceV l n).2,.blit true],[]))):=by kernel_rfl
def conForce:Con:=plainCon (d2 (dView .spr) dInt) fun x=>.tup [.int .i64 (forceR x.1 x.2).1.1,.int .i64 (forceR x.1 x.2).1.2,.bool (forceR x.1 x.2).2]
theorem conForce_valid:ValidCon c157.P 50 conForce:=plainCon_valid c157_good 60 (by kernel_rfl) fun x=>⟨_,fForce x.1 x.2,by
 show Rez _ (.tup [.int .i64 (forceR x.1 x.2).1.1,.int .i64 (forceR x.1 x.2).1.2,.bool (forceR x.1 x.2).2],[])
 unfold forceR
 cases h:roomR x.1 x.2 with
 | false=>exact .itet rfl (.ret (.tup (.cons (.lit rfl) (.cons (.lit rfl) (.cons (.blit rfl) .nil)))) rfl)
 | true =>
  have:=roomR_len h
  exact .itee rfl (.asrt (by omega) (.ret (.tup (.cons (.refl _) (.cons (.refl _) (.cons (.blit rfl) .nil)))) rfl))⟩
noncomputable def c158:Cfg:=c157.addQuiet 50 conForce
theorem c158_good:GoodCfg c158:=c157_good.addQuiet conForce_valid plainCon_quiet
def pressR (l:List Fu.Spr) (n:Int):List Int × Bool:=bif (forceR l n).2 then (l.map (hasR (forceR l n).1.1 (forceR l n).1.2),true) else ([],false)
theorem fPress (l:List Fu.Spr) (n:Int):callC c158 60 19 [.view .spr l,.int .i64 n]=.ite (!(forceR l n).2) (.ret (.tup [.nils,.blit false],[])) (.asrt ((l.length:Int) < 17592186044416) (.ret (.tup [.own 0,.blit true],[.rows (.int .i64) 3 (l.map (hasR (forceR l n).1.1 (forceR l n).1.2))]))):=by kernel_rfl
def conPress:Con:=plainCon (d2 (dView .spr) dInt) fun x=>.tup [.view (.int .i64) (pressR x.1 x.2).1,.bool (pressR x.1 x.2).2]
theorem forceR_len {l:List Fu.Spr} {n:Int} (h:(forceR l n).2=true):(l.length:Int)≤4:=by
 unfold forceR at h
 cases hr:roomR l n with
 | false=>rw [hr] at h; cases h
 | true=>exact roomR_len hr
theorem conPress_valid:ValidCon c158.P 19 conPress:=frozenPlain_valid c158_good 60 (by kernel_rfl) fun x=>⟨_,rfl,by
 obtain ⟨l,n⟩:=x
 show Rez (frozen (callC c158 60 19) [.view .spr l,.int .i64 n]) _
 unfold frozen
 rw [fPress]
 show Rez (.ite (!(forceR l n).2) (.ret (.tup [.nils,.blit false],[])) (.asrt ((l.length:Int) < 17592186044416) (.ret (.tup [.view (.int .i64) (l.map (hasR (forceR l n).1.1 (forceR l n).1.2)),.blit true],[])))) (.tup [.view (.int .i64) (pressR l n).1,.bool (pressR l n).2],[])
 unfold pressR
 cases h:(forceR l n).2 with
 | false=>exact .itet rfl (.ret (.tup (.cons (.view rfl) (.cons (.blit rfl) .nil))) rfl)
 | true =>
  have:=forceR_len h
  exact .itee rfl (.asrt (by omega) (.ret (.tup (.cons (.refl _) (.cons (.blit rfl) .nil))) rfl))⟩
noncomputable def c159:Cfg:=c158.addQuiet 19 conPress
theorem c159_good:GoodCfg c159:=c158_good.addQuiet conPress_valid plainCon_quiet
end Go.Fx
namespace Go.Fx
open Go Go.Proofs
theorem fUTop (s:Fu.Spec):callC c159 60 17 [.agg (encSpec s)]=.ret (.int .i64 (unitsV s s.T),[]):=by kernel_rfl
def conUTop:Con:=plainCon (d1 dSpec) fun s=>.int .i64 (unitsV s s.T)
theorem conUTop_valid:ValidCon c159.P 17 conUTop:=plainCon_valid c159_good 60 (by kernel_rfl) fun s=>⟨_,fUTop s,.ret (.refl _) rfl⟩
noncomputable def c160:Cfg:=c159.addQuiet 17 conUTop
theorem c160_good:GoodCfg c160:=c159_good.addQuiet conUTop_valid plainCon_quiet
theorem fULeast (s:Fu.Spec):callC c160 60 18 [.agg (encSpec s)]=.ret (.int .i64 (unitsV s s.Max),[]):=by kernel_rfl
def conULeast:Con:=plainCon (d1 dSpec) fun s=>.int .i64 (unitsV s s.Max)
theorem conULeast_valid:ValidCon c160.P 18 conULeast:=plainCon_valid c160_good 60 (by kernel_rfl) fun s=>⟨_,fULeast s,.ret (.refl _) rfl⟩
noncomputable def c161:Cfg:=c160.addQuiet 18 conULeast
theorem c161_good:GoodCfg c161:=c160_good.addQuiet conULeast_valid plainCon_quiet
def perQ (s:Fu.Spec) (u:Int):Int:=maxI (ceilV (IntKind.i64.wrap (IntKind.i64.wrap (s.C*s.M)*1048576)) (IntKind.i64.wrap (u*s.K))) s.T
def ofP (s:Fu.Spec) (u:Int):Int × Bool:=bif !mayS s || (decide (u < 1) || decide (u > 1048576)) then (0,false) else bif decide (perQ s u > s.Max) || decide (unitsV s (perQ s u) > u) then (0,false) else (perQ s u,true)
theorem fOfP (s:Fu.Spec) (u:Int):callC c161 60 94 [.agg (encSpec s),.int .i64 u]=.ite (!mayS s || (decide (u < 1) || decide (u > 1048576))) (isC 0 false) (.ite (decide (perQ s u > s.Max) || decide (unitsV s (perQ s u) > u)) (isC 0 false) (.ret (.tup [.int .i64 (perQ s u),.blit true],[]))):=by kernel_rfl
def conOfP:Con:=plainCon (d2 dSpec dInt) fun x=>.tup [.int .i64 (ofP x.1 x.2).1,.bool (ofP x.1 x.2).2]
theorem conOfP_valid:ValidCon c161.P 94 conOfP:=plainCon_valid c161_good 60 (by kernel_rfl) fun x=>⟨_,fOfP x.1 x.2,
 bif_rez rcC (isC_rez _ _) (bif_rez rcC (isC_rez _ _) (.ret (.tup (.cons (.refl _) (.cons (.blit rfl) .nil))) rfl))⟩
noncomputable def c162:Cfg:=c161.addQuiet 94 conOfP
theorem c162_good:GoodCfg c162:=c161_good.addQuiet conOfP_valid plainCon_quiet
def badG:AV:=.fn (.func 192) [] []
def TSg (x:List Fu.Spec × Int):St:=⟨puts (J 19) [(0,.view .spec x.1),(1,badG),(7,.int .i64 x.1.length),(8,.int .i64 x.2)],[],0⟩
def sSg:List Sh:=sets (Js 19) [(0,.keep),(1,.keep),(7,.int),(8,.int)]
def eSg:List Sh:=sets (Js 19) [(4,.int)]
def RSg (x:List Fu.Spec × Int):Ex × St:=(.ret,⟨puts (J 19) [(4,.int .i64 x.2)],[],0⟩)
def ESg (_:List Fu.Spec):Ex × St:=(.exit 0,⟨J 19,[],0⟩)
theorem bSg (x : List Fu.Spec) (i : Int) : roundN c162 60 221 (loopAt c162.P 221 2) (norm2 0 [] [] sSg) (norm2 0 [] [] eSg) (TSg (x, i)) =
    .ite (decide (i < x.length)) (.asrt (0≤i∧i < x.length) (.ite (!mayS (rd .spec x i)) (.ret (RSg (x,i))) (.ret (.normal,TSg (x,IntKind.i64.wrap (i+1)))))) (.ret (ESg x)):=by kernel_rfl
def gSg (σ:St):Option (List Fu.Spec × Int) :=
 match nth σ.tmps 0,nth σ.tmps 8 with
 | .view .spec A,.int .i64 i=>some (A,i)
 | _,_=>none
def pSg (x:List Fu.Spec) (i:Int):Bool:=!mayS (rd .spec x i)
def LSg:LoopCon:=searchF 0 (norm2 0 [] [] sSg) TSg gSg (fun x=>x.length) (fun _=>True) pSg RSg ESg
theorem lSg (hs:SubOf c162.P 221 (.loop (loopAt c162.P 221 2))):SoundLoop c162 (loopAt c162.P 221 2) LSg :=
 search_loop (C:=c162) (g:=221) (l:=2) c162_good 60 0 _ _ (Weak.norm2 0 [] [] sSg) (Weak.norm2 0 [] [] eSg) hs TSg gSg (fun x=>x.length) (fun _=>True) pSg RSg ESg (fun _=>by intro h; cases h) (fun _=>by intro h; cases h)
  (fun x i h0 hi hl _=>.of_eq (bSg x i) (by
   rw [wrap_fits (n:=i+1) (by omega) (by omega)]
   refine (Tree.out_ite_true (decide_eq_true hi)).2 ⟨⟨h0,hi⟩,?_⟩
   unfold pSg
   cases h:!mayS (rd .spec x i) with
   | true=>exact (Tree.out_ite_true rfl).2 rfl
   | false=>exact (Tree.out_ite_false rfl).2 rfl))
  (fun x i hi=>.of_eq (bSg x i) ((Tree.out_ite_false (decide_eq_false (by omega))).2 rfl))
noncomputable def c163:Cfg:=c162.addLoop 221 2 LSg
theorem c163_good:GoodCfg c163:=c162_good.addLoop (by unfold OneLoop; kernel_rfl) lSg
def badV (l:List Fu.Spec):Bool:=(firstP (pSg l) ((l.length:Int)-0).toNat 0).isSome
theorem fBad (l : List Fu.Spec) : callC c163 60 158 [.view .spec l] = .asrt (0 = 0 ∧ TSg (l, 0) = TSg (l, 0)) (.asrt ((0 ≤ (0 : Int) ∧ (l.length : Int) < 17592186044416) ∧ True)
    (.ite (firstP (pSg l) ((l.length:Int)-0).toNat 0).isSome (.ret (.bool (decide ((firstP (pSg l) ((l.length:Int)-0).toNat 0).getD 0≥0)),[])) (.ret (.blit false,[])))):=by kernel_rfl
def conBad:Con:=flatCon (d1 (dView .spec)) (fun l=>(l.length:Int) < 17592186044416) fun l=>.bool (badV l)
theorem bad_rez {l:List Fu.Spec} (h:(l.length:Int) < 17592186044416):∃ t,callC c163 60 158 [.view .spec l]=t∧Rez t (.bool (badV l),[]):=⟨_,fBad l,by
 unfold badV
 refine .asrt ⟨rfl,rfl⟩ (.asrt ⟨⟨Int.le_refl _,h⟩,trivial⟩ ?_)
 cases hf:firstP (pSg l) ((l.length:Int)-0).toNat 0 with
 | none=>exact .itee rfl (.ret (.blit rfl) rfl)
 | some j =>
  have hj:=(firstP_some hf).1.1
  refine .itet rfl (.ret (.eq ?_) rfl)
  simp only [Option.getD_some,Option.isSome_some]
  rw [decide_eq_true hj]⟩
theorem conBad_valid:ValidCon c163.P 158 conBad:=flatCon_valid c163_good 60 (by kernel_rfl) fun x h=>bad_rez h
noncomputable def c164:Cfg:=c163.addQuiet 158 conBad
theorem c164_good:GoodCfg c164:=c163_good.addQuiet conBad_valid flatCon_quiet
def sprOf (s:Fu.Spec):Fu.Spr:=⟨unitsV s s.T,unitsV s s.Max,s.E⟩
def sprF:AV:=.fn (.func 160) [] []
def fixF (u:List Int):AV:=.fn (.func 93) [] [.pv [.view (.int .i64) u]]
abbrev AEs:=List Fu.Spec
def TEs (x:(AEs × List (RTy.carrier .spr)) × Int):St:=⟨puts (J 24) [(1,sprF),(5,.own 0),(8,.view .spec x.1.1),(9,.int .i64 (x.1.1).length),(10,.int .i64 x.2)],[(0,.rows .spr 51 x.1.2)],1⟩
def sEs:List Sh:=sets (Js 24) [(1,.keep),(5,.keep),(8,.keep),(9,.int),(10,.int)]
def eEs:List Sh:=sets (Js 24) [(5,.keep)]
def fEs (ss:List Sh) (σ:St):St:=norm2 0 [.tmp 5] [0] ss (ownSlot 5 .spr 51 σ)
theorem weak_fEs (ss:List Sh) (σ:St):Weak 0 σ (fEs ss σ):=(Weak.ownSlot 0 5 .spr 51 σ).trans (Weak.norm2 0 [.tmp 5] [0] ss _)
def EEs (x:AEs × List (RTy.carrier .spr)):Ex × St:=(.exit 0,⟨puts (J 24) [(5,.own 0)],[(0,.rows .spr 51 x.2)],1⟩)
def vEs (a:AEs) (i:Int):RTy.carrier .spr:=sprOf (rd .spec a i)
def okEEs:AEs→Int→Prop:=fun a i=>True
theorem bEs (x : AEs × List (RTy.carrier .spr)) (i : Int) : roundN c164 60 159 (loopAt c164.P 159 3) (fEs sEs) (fEs eEs) (TEs (x, i)) =
    .ite (decide (i < ((x.1).length:Int))) (.asrt (0≤i∧i < (x.1.length:Int)) (.asrt ((x.2 ++ [vEs x.1 i]).length*24≤140737488355328) (.ret (.normal,TEs ((x.1,x.2 ++ [vEs x.1 i]),IntKind.i64.wrap (i+1)))))) (.ret (EEs x)):=by kernel_rfl
def gEs (σ:St):Option ((AEs × List (RTy.carrier .spr)) × Int) :=
 match nth σ.tmps 8,nth σ.tmps 10,σ.heap with
 | .view .spec l,.int .i64 i,[(_,.rows .spr _ o)]=>some ((l,o),i)
 | _,_,_=>none
def LEs:LoopCon:=boundF 0 (fEs sEs) TEs gEs (fun x=>((x.1).length:Int)) (okP 24 okEEs) (nxtP vEs) EEs
theorem lEs (hs:SubOf c164.P 159 (.loop (loopAt c164.P 159 3))):SoundLoop c164 (loopAt c164.P 159 3) LEs :=
 bound_fold (C:=c164) (g:=159) (l:=3) c164_good 60 0 _ _ (weak_fEs sEs) (weak_fEs eEs) hs TEs gEs (fun x=>((x.1).length:Int)) (okP 24 okEEs) (nxtP vEs) EEs
  (fun _=>by intro h; cases h) (fun _ _=>rfl)
  (fun x i h0 hi hm hok=>.of_eq (bEs x i) (by
   unfold maxI64 at hm
   rw [wrap_fits (n:=i+1) (by omega) (by omega)]
   refine (Tree.out_ite_true (decide_eq_true hi)).2 ?_
   have hl:=hok.1
   have he:=hok.2
   have hz:(x.2 ++ [vEs x.1 i]).length*24≤140737488355328:=by rw [List.length_append]; exact hl
   exact ⟨⟨h0,hi⟩,hz,rfl⟩))
  (fun x i hi=>.of_eq (bEs x i) ((Tree.out_ite_false (decide_eq_false (by omega))).2 rfl))
noncomputable def c165:Cfg:=c164.addLoop 159 3 LEs
theorem c165_good:GoodCfg c165:=c164_good.addLoop (by unfold OneLoop; kernel_rfl) lEs
def EsT (a : AEs) : Tree (AV × List Blk) := .asrt (0 = 0 ∧ TEs ((a, []), 0) = TEs ((a, []), 0)) (.asrt (0 ≤ (0 : Int) ∧ ((a).length : Int) ≤ maxI64 ∧ okI (nxtP vEs) (fun _ _ => (none : Option Unit)) (okP 24 okEEs) (((a).length : Int) - 0).toNat (a, []) 0)
    (.ret (.own 0,[.rows .spr 51 (foldI (nxtP vEs) (((a).length:Int)-0).toNat (a,[]) 0).2])))
theorem EsT_rez {a:AEs} (hl:((a).length:Int) < 17592186044416) (_:((a).length:Int)*24≤140737488355328) (he:∀ j:Int,0≤j→j < ((a).length:Int)→okEEs a j):Rez (EsT a) (.own 0,[.rows .spr 51 (mapF (vEs a) (((a).length:Int)-0).toNat 0)]):=by
 obtain ⟨k1,k2⟩:=foldP vEs 24 okEEs a (((a).length:Int)-0).toNat [] 0 (fun j h1 h2=>he j h1 (by omega)) (by simp only [List.length_nil]; omega)
 refine .asrt ⟨rfl,rfl⟩ (.asrt ⟨Int.le_refl _,by unfold maxI64; omega,k2⟩ (.ret (.refl _) ?_))
 rw [k1]
 rfl
theorem cEs (l:List Fu.Spec):callC c165 60 159 [.view .spec l,sprF]=EsT l:=by kernel_rfl
def conEs:Con:=resCon (d2 (dView .spec) (dFn 160)) (fun x=>(x.1.length:Int)≤4) fun x=>(.own 0,[.rows .spr 51 (x.1.map sprOf)])
theorem conEs_rez {l:List Fu.Spec} (h:(l.length:Int)≤4):Rez (EsT l) (.own 0,[.rows .spr 51 (l.map sprOf)]):=by
 have:=EsT_rez (a:=l) (by omega) (by omega) (fun _ _ _=>trivial)
 rw [show mapF (vEs l) ((l.length:Int)-0).toNat 0=l.map sprOf from mapF_all (r:=.spec) sprOf l] at this
 exact this
theorem conEs_valid:ValidCon c165.P 159 conEs:=resCon_valid c165_good 60 (by kernel_rfl) fun x h=>⟨_,cEs x.1,conEs_rez h⟩
noncomputable def c166:Cfg:=c165.addCon 159 conEs
theorem c166_good:GoodCfg c166:=c165_good.addCon conEs_valid (by kernel_rfl)
abbrev AEf:=List Fu.Spec × List Int
def TEf (x:(AEf × List (RTy.carrier .fix)) × Int):St:=⟨puts (J 24) [(1,fixF (x.1.1).2),(5,.own 0),(8,.view .spec (x.1.1).1),(9,.int .i64 (x.1.1).1.length),(10,.int .i64 x.2)],[(0,.rows .fix 58 x.1.2)],1⟩
def sEf:List Sh:=sets (Js 24) [(1,.keep),(5,.keep),(8,.keep),(9,.int),(10,.int)]
def eEf:List Sh:=sets (Js 24) [(5,.keep)]
def fEf (ss:List Sh) (σ:St):St:=norm2 0 [.tmp 5] [0] ss (ownSlot 5 .fix 58 σ)
theorem weak_fEf (ss:List Sh) (σ:St):Weak 0 σ (fEf ss σ):=(Weak.ownSlot 0 5 .fix 58 σ).trans (Weak.norm2 0 [.tmp 5] [0] ss _)
def EEf (x:AEf × List (RTy.carrier .fix)):Ex × St:=(.exit 0,⟨puts (J 24) [(5,.own 0)],[(0,.rows .fix 58 x.2)],1⟩)
def vEf (a:AEf) (i:Int):RTy.carrier .fix:=⟨rd .spec a.1 i,(ofP (rd .spec a.1 i) (rd (.int .i64) a.2 i)).1⟩
def okEEf:AEf→Int→Prop:=fun a i=>0≤i∧i < a.2.length
theorem bEf (x : AEf × List (RTy.carrier .fix)) (i : Int) : roundN c166 60 92 (loopAt c166.P 92 3) (fEf sEf) (fEf eEf) (TEf (x, i)) =
    .ite (decide (i < ((x.1).1.length:Int))) (.asrt (0≤i∧i < (x.1.1.length:Int)) (.asrt (0≤i∧i < x.1.2.length) (.asrt ((x.2 ++ [vEf x.1 i]).length*56≤140737488355328) (.ret (.normal,TEf ((x.1,x.2 ++ [vEf x.1 i]),IntKind.i64.wrap (i+1))))))) (.ret (EEf x)):=by kernel_rfl
def gEf (σ:St):Option ((AEf × List (RTy.carrier .fix)) × Int) :=
 match nth σ.tmps 8,nth σ.tmps 1,nth σ.tmps 10,σ.heap with
 | .view .spec l,.fn _ _ [.pv [.view (.int .i64) u]],.int .i64 i,[(_,.rows .fix _ o)]=>some (((l,u),o),i)
 | _,_,_,_=>none
def LEf:LoopCon:=boundF 0 (fEf sEf) TEf gEf (fun x=>((x.1).1.length:Int)) (okP 56 okEEf) (nxtP vEf) EEf
theorem lEf (hs:SubOf c166.P 92 (.loop (loopAt c166.P 92 3))):SoundLoop c166 (loopAt c166.P 92 3) LEf :=
 bound_fold (C:=c166) (g:=92) (l:=3) c166_good 60 0 _ _ (weak_fEf sEf) (weak_fEf eEf) hs TEf gEf (fun x=>((x.1).1.length:Int)) (okP 56 okEEf) (nxtP vEf) EEf
  (fun _=>by intro h; cases h) (fun _ _=>rfl)
  (fun x i h0 hi hm hok=>.of_eq (bEf x i) (by
   unfold maxI64 at hm
   rw [wrap_fits (n:=i+1) (by omega) (by omega)]
   refine (Tree.out_ite_true (decide_eq_true hi)).2 ?_
   have hl:=hok.1
   have he:=hok.2
   have hz:(x.2 ++ [vEf x.1 i]).length*56≤140737488355328:=by rw [List.length_append]; exact hl
   exact ⟨⟨h0,hi⟩,he,hz,rfl⟩))
  (fun x i hi=>.of_eq (bEf x i) ((Tree.out_ite_false (decide_eq_false (by omega))).2 rfl))
noncomputable def c167:Cfg:=c166.addLoop 92 3 LEf
theorem c167_good:GoodCfg c167:=c166_good.addLoop (by unfold OneLoop; kernel_rfl) lEf
def EfT (a : AEf) : Tree (AV × List Blk) := .asrt (0 = 0 ∧ TEf ((a, []), 0) = TEf ((a, []), 0)) (.asrt (0 ≤ (0 : Int) ∧ ((a).1.length : Int) ≤ maxI64 ∧ okI (nxtP vEf) (fun _ _ => (none : Option Unit)) (okP 56 okEEf) (((a).1.length : Int) - 0).toNat (a, []) 0)
    (.ret (.own 0,[.rows .fix 58 (foldI (nxtP vEf) (((a).1.length:Int)-0).toNat (a,[]) 0).2])))
theorem EfT_rez {a:AEf} (hl:((a).1.length:Int) < 17592186044416) (_:((a).1.length:Int)*56≤140737488355328) (he:∀ j:Int,0≤j→j < ((a).1.length:Int)→okEEf a j):Rez (EfT a) (.own 0,[.rows .fix 58 (mapF (vEf a) (((a).1.length:Int)-0).toNat 0)]):=by
 obtain ⟨k1,k2⟩:=foldP vEf 56 okEEf a (((a).1.length:Int)-0).toNat [] 0 (fun j h1 h2=>he j h1 (by omega)) (by simp only [List.length_nil]; omega)
 refine .asrt ⟨rfl,rfl⟩ (.asrt ⟨Int.le_refl _,by unfold maxI64; omega,k2⟩ (.ret (.refl _) ?_))
 rw [k1]
 rfl
theorem cEf (l:List Fu.Spec) (u:List Int):callC c167 60 92 [.view .spec l,fixF u]=EfT (l,u):=by kernel_rfl
def decFixF:AV→Option (List Int)
 | .fn (.func k) [] [.pv [v]]=>if k=93 then castView (.int .i64) v else none
 | _=>none
def dFixF:Dc (List Int):=⟨decFixF,fixF,fun v a h=>by
 unfold decFixF at h
 split at h
 ·split at h
  ·rename_i hk; subst hk; exact .fn1 (.pvOne (AsArg.castView h))
  ·cases h
 ·cases h⟩
def fixesV (l:List Fu.Spec) (u:List Int):List Fu.Fix:=mapF (vEf (l,u)) ((l.length:Int)-0).toNat 0
def conEf:Con:=resCon (d2 (dView .spec) dFixF) (fun x=>(x.1.length:Int)≤4∧(x.1.length:Int)≤(x.2:List Int).length) fun x=>(.own 0,[.rows .fix 58 (fixesV x.1 x.2)])
theorem conEf_rez {l:List Fu.Spec} {u:List Int} (h:(l.length:Int)≤4) (hu:(l.length:Int)≤u.length):Rez (EfT (l,u)) (.own 0,[.rows .fix 58 (fixesV l u)]) :=
 EfT_rez (a:=(l,u)) (by simp only; omega) (by simp only; omega) fun j h1 h2=>⟨h1,by simp only at h2 ⊢; omega⟩
theorem conEf_valid:ValidCon c167.P 92 conEf:=resCon_valid c167_good 60 (by kernel_rfl) fun x h=>⟨_,cEf x.1 x.2,conEf_rez h.1 h.2⟩
noncomputable def c168:Cfg:=c167.addCon 92 conEf
theorem c168_good:GoodCfg c168:=c167_good.addCon conEf_valid (by kernel_rfl)
def springsV (l:List Fu.Spec):List Fu.Spr × Bool:=bif decide ((l.length:Int) > 4) || badV l then ([],false) else (l.map sprOf,true)
theorem fSprings (l:List Fu.Spec):callC c168 60 91 [.view .spec l]=.asrt (decide ((l.length:Int) > 4)=false→(l.length:Int) < 17592186044416) (.ite (decide ((l.length:Int) > 4) || badV l) (.ret (.tup [.nils,.blit false],[])) (.asrt ((l.length:Int)≤4) (.ret (.tup [.own 0,.blit true],[.rows .spr 51 (l.map sprOf)])))):=by kernel_rfl
def conSprings:Con:=plainCon (d1 (dView .spec)) fun l=>.tup [.view .spr (springsV l).1,.bool (springsV l).2]
theorem conSprings_valid:ValidCon c168.P 91 conSprings:=frozenPlain_valid c168_good 60 (by kernel_rfl) fun l=>⟨_,rfl,by
 show Rez (frozen (callC c168 60 91) [.view .spec l]) _
 unfold frozen
 rw [fSprings]
 show Rez (.asrt (decide ((l.length:Int) > 4)=false→(l.length:Int) < 17592186044416) (.ite (decide ((l.length:Int) > 4) || badV l) (.ret (.tup [.nils,.blit false],[])) (.asrt ((l.length:Int)≤4) (.ret (.tup [.view .spr (l.map sprOf),.blit true],[]))))) (.tup [.view .spr (springsV l).1,.bool (springsV l).2],[])
 unfold springsV
 refine .asrt (fun h=>?_) ?_
 ·have:=of_decide_eq_false h; omega
 ·cases h:(decide ((l.length:Int) > 4) || badV l) with
  | true=>exact .itet rfl (.ret (.tup (.cons (.view rfl) (.cons (.blit rfl) .nil))) rfl)
  | false =>
   rw [Bool.or_eq_false_iff] at h
   have:=of_decide_eq_false h.1
   exact .itee rfl (.asrt (by omega) (.ret (.tup (.cons (.refl _) (.cons (.blit rfl) .nil))) rfl))⟩
noncomputable def c169:Cfg:=c168.addQuiet 91 conSprings
theorem c169_good:GoodCfg c169:=c168_good.addQuiet conSprings_valid plainCon_quiet
def unitsU (l:List Fu.Spec):List Int × Bool:=pressR (springsV l).1 983040
def targetV (l:List Fu.Spec):List Fu.Fix × Int:=bif decide ((l.length:Int) > 4) then ([],3) else bif !(springsV l).2 then ([],1) else bif !(unitsU l).2 then ([],5) else bif !testV (fixesV l (unitsU l).1) then ([],6) else (fixesV l (unitsU l).1,0)
theorem fTarget (l : List Fu.Spec) : callC c169 60 45 [.view .spec l] = .ite (decide ((l.length : Int) > 4)) (.ret (.tup [.nils, .lit .i64 3], [])) (.ite (!(springsV l).2) (.ret (.tup [.nils, .lit .i64 1], [])) (.ite (!(unitsU l).2) (.ret (.tup [.nils, .lit .i64 5], []))
    (.asrt ((l.length:Int)≤4∧(l.length:Int)≤(unitsU l).1.length) (.asrt (((fixesV l (unitsU l).1).length:Int) < 17592186044416) (.ite (!testV (fixesV l (unitsU l).1)) (.ret (.tup [.nils,.lit .i64 6],[])) (.ret (.tup [.own 0,.lit .i64 0],[.rows .fix 58 (fixesV l (unitsU l).1)]))))))):=by kernel_rfl
def tgRes (v:List Fu.Fix × Int):AV × List Blk:=bif v.2 == 0 then (.tup [.own 0,.int .i64 v.2],[.rows .fix 58 v.1]) else (.tup [.nils,.int .i64 v.2],[])
theorem tgRes_ok {v:List Fu.Fix × Int} (h:(v.2 == 0)=true):tgRes v=(.tup [.own 0,.int .i64 v.2],[.rows .fix 58 v.1]):=by
 unfold tgRes
 rw [h]
 rfl
theorem tgRes_no {v:List Fu.Fix × Int} (h:(v.2 == 0)=false):tgRes v=(.tup [.nils,.int .i64 v.2],[]):=by
 unfold tgRes
 rw [h]
 rfl
def conTarget0:Con:=resCon (d1 (dView .spec)) (fun _=>True) fun l=>tgRes (targetV l)
theorem pressR_len {l:List Fu.Spr} {n:Int} (h:(pressR l n).2=true):(pressR l n).1.length=l.length:=by
 unfold pressR at h ⊢
 cases hf:(forceR l n).2 with
 | false=>rw [hf] at h; cases h
 | true=>simp
theorem springsV_len {l:List Fu.Spec} (h:(springsV l).2=true):(springsV l).1.length=l.length:=by
 unfold springsV at h ⊢
 cases hf:(decide ((l.length:Int) > 4) || badV l) with
 | true=>rw [hf] at h; cases h
 | false=>simp
theorem target_rez (l:List Fu.Spec):∃ t,callC c169 60 45 [.view .spec l]=t∧Rez t (tgRes (targetV l)):=⟨_,fTarget l,by
 have no:∀ n:Int,n≠0→Rez (.ret (.tup [.nils,.lit .i64 n],[])) (tgRes ([],n)):=fun n h=>by
  rw [tgRes_no (v:=([],n)) (beq_eq_false_iff_ne.2 h)]
  exact .ret (.tup (.cons (.refl _) (.cons (.lit rfl) .nil))) rfl
 unfold targetV
 cases h1:decide ((l.length:Int) > 4) with
 | true=>exact .itet rfl (no 3 (by decide))
 | false =>
  have l1:=of_decide_eq_false h1
  refine .itee rfl ?_
  cases h2:(springsV l).2 with
  | false=>exact .itet rfl (no 1 (by decide))
  | true =>
   refine .itee rfl ?_
   cases h3:(unitsU l).2 with
   | false=>exact .itet rfl (no 5 (by decide))
   | true =>
    have e1:=pressR_len h3
    have e2:=springsV_len h2
    have e3:(unitsU l).1.length=l.length:=e1.trans e2
    have e4:(fixesV l (unitsU l).1).length=((l.length:Int)-0).toNat:=mapF_length _ _ _
    refine .itee rfl (.asrt ⟨by omega,by omega⟩ (.asrt (by omega) ?_))
    cases h4:testV (fixesV l (unitsU l).1) with
    | false=>exact .itet rfl (no 6 (by decide))
    | true=>exact .itee rfl (.ret (.tup (.cons (.refl _) (.cons (.lit rfl) .nil))) rfl)⟩
theorem conTarget0_valid:ValidCon c169.P 45 conTarget0:=resCon_valid c169_good 60 (by kernel_rfl) fun l _=>target_rez l
def conTarget:Con:=resCon (d1 (dView .spec)) (fun _=>True) fun l=>(.tup [.own 0,.int .i64 (targetV l).2],[.rows .fix 58 (targetV l).1])
theorem targetV_no {l:List Fu.Spec} (h:(targetV l).2≠0):(targetV l).1=[]:=by
 unfold targetV at h ⊢
 cases h1:decide ((l.length:Int) > 4) with
 | true=>rfl
 | false =>
  cases h2:(springsV l).2 with
  | false=>rfl
  | true =>
   cases h3:(unitsU l).2 with
   | false=>rfl
   | true =>
    cases h4:testV (fixesV l (unitsU l).1) with
    | false=>rfl
    | true =>
     rw [h1,h2,h3,h4] at h
     exact absurd rfl h
theorem conTarget_valid:ValidCon c169.P 45 conTarget:=conTarget0_valid.orNil fun args r hr=>by
 unfold conTarget resCon at hr
 unfold conTarget0 resCon
 split at hr
 ·rename_i l hl
  obtain ⟨_,rfl⟩:=hr
  cases hm:(targetV l).2 == 0 with
  | true=>exact .inl ⟨_,.refl _,trivial,tgRes_ok hm⟩
  | false =>
   have hn:(targetV l).2≠0:=beq_eq_false_iff_ne.1 hm
   refine .inr (.inl ⟨[.int .i64 (targetV l).2],[.int .i64 (targetV l).2],.fix,58,.cons (.refl _) .nil,by show (AV.tup _,[Blk.rows .fix _ (targetV l).1])=_; rw [targetV_no hn],trivial,tgRes_no hm⟩)
 ·exact hr.elim
noncomputable def c170:Cfg:=c169.addCon 45 conTarget
theorem c170_good:GoodCfg c170:=c169_good.addCon conTarget_valid (by kernel_rfl)
end Go.Fx
