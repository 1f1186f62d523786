import Derived.Test.YtdmlnbfejgdhaaaGreatO4
import Derived.Test.YtdmlnbfejgdhaaaGreatQA
namespace Go.Fx
open Go Go.Proofs
abbrev AAf:=(Fu.Serv × List Fu.Op) × Int
def zServ:List AV:=[.lit .i64 0,.nils,.nils,.lit .i64 0,.blit false,.lit .i64 0,.lit .i64 0,.lit .i64 0,.nils,.lit .i64 0,.lit .i64 0]
def TAf (x:AAf):St:=⟨puts (J 23) [(0,.view .op x.1.2),(2,.ptr 0 0),(3,.ptr 1 0),(4,.int .i64 x.2)],[(0,.cells zServ),(1,.cells (encS x.1.1))],2⟩
def sAf:List Sh:=sets (Js 23) [(0,.keep),(2,.keep),(3,.keep),(4,.int)]
def eAf:List Sh:=sets (Js 23) [(2,.keep),(3,.keep)]
def fAf (σ:St):St:=norm2 2 [] [0,1] sAf σ
def gFAf (σ:St):St:=norm2 2 [] [0,1] eAf σ
def EAf (s:Fu.Serv):Ex × St:=(.exit 0,⟨puts (J 23) [(2,.ptr 0 0),(3,.ptr 1 0)],[(0,.cells zServ),(1,.cells (encS s))],2⟩)
def runA (l:List Fu.Op):Nat→Fu.Serv→Int→Fu.Serv
 | 0,s,_=>s
 | n+1,s,i=>runA l n (doV s (rd .op l i)).1 (i+1)
theorem runA_may {l:List Fu.Op}:∀ (n:Nat) (s:Fu.Serv) (i:Int),0≤i→i+n≤1000→mayE s=true→lowN i s.W→mayE (runA l n s i)=true∧lowN (i+n) (runA l n s i).W
 | 0,s,i,_,_,hm,hl=>⟨hm,by rw [show i+((0:Nat):Int)=i by omega]; exact hl⟩
 | n+1,s,i,h0,h1,hm,hl=>by
  obtain ⟨k1,k2,_⟩:=do_may (o:=rd .op l i) ⟨h0,by omega⟩ hm hl
  obtain ⟨k3,k4⟩:=runA_may (l:=l) n _ (i+1) (by omega) (by omega) k1 k2
  refine ⟨k3,?_⟩
  rw [show i+((n+1:Nat):Int)=i+1+n by omega]
  exact k4
theorem newA_may:mayE newE=true:=by decide +kernel
theorem newA_low:lowN 0 newE.W:=⟨by decide,fun t ht=>by cases ht⟩
theorem bAf (s : Fu.Serv) (l : List Fu.Op) (i : Int) : roundN c240 60 14 (loopAt c240.P 14 3) fAf gFAf (TAf ((s, l), i)) =
    .ite (decide (i < l.length)) (.asrt (0≤i∧i < l.length) (.asrt (okDo (s,rd .op l i)) (.ret (.normal,TAf (((doV s (rd .op l i)).1,l),IntKind.i64.wrap (i+1)))))) (.ret (EAf s)):=by kernel_rfl
def gAf (σ:St):Option AAf :=
 match nth σ.tmps 0,nth σ.tmps 4,σ.heap with
 | .view .op l',.int .i64 i,[_,(_,.cells [.int .i64 a,.view .task t,.view .ape p,.int .i64 c,.bool o,.int .i64 si,.int .i64 by',.int .i64 n,.view .aim l,.int .i64 y,.int .i64 z])]=>some ((⟨⟨a,t,p,c⟩,⟨o,si,by',n,l⟩,y,z⟩,l'),i)
 | _,_,_=>none
def okAf (x:AAf):Prop:=(0≤x.2∧x.1.2.length≤200∧∀ o ∈ x.1.2,(o.D.length:Int)≤17592186044415)∧(mayE x.1.1=true∧lowN x.2 x.1.1.W∧(x.2≤x.1.2.length∨x.2=0))
def LxAf (x:AAf):Tree (Ex × St):=.asrt (okAf x) (.ret (EAf (runA x.1.2 (x.1.2.length-x.2).toNat x.1.1 x.2)))
def LAf:LoopCon:=entry 2 fAf TAf gAf LxAf
theorem lAf (hs:SubOf c240.P 14 (.loop (loopAt c240.P 14 3))):SoundLoop c240 (loopAt c240.P 14 3) LAf:=by
 refine loop_rule3 (C:=c240) (g:=14) (l:=3) c240_good 60 2 _ _ (Weak.norm2 2 [] [0,1] sAf) (Weak.norm2 2 [] [0,1] eAf) hs TAf LxAf (fun x=>(x.1.2.length-x.2).toNat) (fun x q h=>?_) entry_out
 obtain ⟨⟨s,l⟩,i⟩:=x
 obtain ⟨⟨⟨h0,h1,h2⟩,⟨h3,h4,h5⟩⟩,h⟩:=Tree.out_asrt.1 h
 simp only at h0 h1 h2 h3 h4 h5 h
 refine .of_eq (bAf s l i) (Tree.wp_ite.2 ⟨fun hi=>?_,fun hi=>?_⟩)
 ·have hi:i < (l.length:Int):=of_decide_eq_true hi
  have hb:0≤i∧i≤1000:=by omega
  obtain ⟨k1,k2,k3⟩:=do_may (o:=rd .op l i) hb h3 h4
  refine ⟨⟨h0,hi⟩,⟨mayE_small h3,h2 _ (rd_mem' (r:=.op) h0 hi)⟩,?_⟩
  rw [wrap_fits (n:=i+1) (by omega) (by omega)]
  have e:((l.length:Int)-i).toNat=((l.length:Int)-(i+1)).toNat+1:=by omega
  rw [e] at h
  exact Rnd.go (m:=fun x:AAf=>(x.1.2.length-x.2).toNat) (x:=((s,l),i)) _ (by simp only; omega) (Tree.out_asrt.2 ⟨⟨⟨by simp only; omega,h1,h2⟩,⟨k1,k2,by simp only; omega⟩⟩,h⟩)
 ·have hi:¬ i < (l.length:Int):=of_decide_eq_false hi
  have e:((l.length:Int)-i).toNat=0:=by omega
  rw [e] at h
  exact Rnd.out h
noncomputable def c241:Cfg:=c240.addLoop 14 3 LAf
theorem c241_good:GoodCfg c241:=c240_good.addLoop (by unfold OneLoop; kernel_rfl) lAf
def aftS (l:List Fu.Op):Fu.Serv:=runA l ((l.length:Int)-0).toNat newE 0
theorem aft_may {l:List Fu.Op} (h:l.length≤200):mayE (aftS l)=true∧lowN 200 (aftS l).W:=by
 obtain ⟨k1,k2⟩:=runA_may (l:=l) ((l.length:Int)-0).toNat newE 0 (Int.le_refl _) (by omega) newA_may newA_low
 exact ⟨k1,⟨by have:=k2.1; show (runA l ((l.length:Int)-0).toNat newE 0).W.Now≤_; omega,fun t ht=>by have:=k2.2 t ht; omega⟩⟩
theorem fAft (l:List Fu.Op):callC c241 60 14 [.view .op l]=.asrt (2=2∧TAf ((newE,l),0)=TAf ((newE,l),0)) (.asrt (okAf ((newE,l),0)) (.ret (.agg (encS (aftS l)),[]))):=by kernel_rfl
def conAft:Con:=flatCon (d1 (dView .op)) (fun l=>l.length≤200∧∀ o ∈ l,(o.D.length:Int)≤17592186044415) fun l=>.agg (encS (aftS l))
theorem conAft_valid:ValidCon c241.P 14 conAft:=flatCon_valid c241_good 60 (by kernel_rfl) fun l h=>⟨_,fAft l,.asrt ⟨rfl,rfl⟩ (.asrt ⟨⟨Int.le_refl _,h.1,h.2⟩,newA_may,newA_low,.inr rfl⟩ (.ret (.refl _) rfl))⟩
noncomputable def c242:Cfg:=c241.addQuiet 14 conAft
theorem c242_good:GoodCfg c242:=c241_good.addQuiet conAft_valid flatCon_quiet
end Go.Fx
