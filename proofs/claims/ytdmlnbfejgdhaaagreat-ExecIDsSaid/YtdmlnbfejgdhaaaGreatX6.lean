import Derived.Test.YtdmlnbfejgdhaaaGreatO4
import Derived.Test.YtdmlnbfejgdhaaaGreatQA
namespace Go.Fx
open Go Go.Proofs
abbrev AX6:=(Fu.Serv × List Fu.Op) × Int
def TX6 (x:AX6):St:=⟨puts (J 120) [(0,.view .op x.1.2),(4,.ptr 0 0),(5,.int .i64 x.2)],[(0,.cells (encS x.1.1))],1⟩
def sX6:List Sh:=sets (Js 120) [(0,.keep),(4,.keep),(5,.int)]
def eX6:List Sh:=sets (Js 120) [(2,.keep)]
def fX6 (σ:St):St:=norm2 1 [] [0] sX6 σ
def gFX6 (σ:St):St:=norm2 1 [] [] eX6 σ
def RX6:Ex × St:=(.ret,⟨puts (J 120) [(2,.blit false)],[],1⟩)
def EX6:Ex × St:=(.exit 0,⟨J 120,[],1⟩)
def onceX6 (s:Fu.Serv) (u:Bool) (x:Fu.Serv × (Int × Int) × Trc):Bool:=!(u == (x.1.NextAp == IntKind.i64.wrap (s.NextAp + 1))) || bif !u then x.1.NextAp != s.NextAp || (u && x.2.1.2 != s.NextAp) else u && x.2.1.2 != s.NextAp
def joinX6 (s:Fu.Serv) (j u:Bool) (x:Fu.Serv × (Int × Int) × Trc):Bool:=bif j then x.2.1.2 != s.NextID || onceX6 s u x else onceX6 s u x
def badX6 (s:Fu.Serv) (k:Int) (x:Fu.Serv × (Int × Int) × Trc):Bool:=!((k == 0 && x.2.1.1 == 0) == (x.1.NextID == IntKind.i64.wrap (s.NextID + 1))) ||
  bif !(k == 0 && x.2.1.1 == 0) then x.1.NextID != s.NextID || joinX6 s (k == 0 && x.2.1.1 == 0) (k == 3 && x.2.1.1 == 0) x else joinX6 s (k == 0 && x.2.1.1 == 0) (k == 3 && x.2.1.1 == 0) x
theorem bX6 (s : Fu.Serv) (l : List Fu.Op) (i : Int) : roundN c240 60 11 (loopAt c240.P 11 6) fX6 gFX6 (TX6 ((s, l), i)) =
    .ite (decide (i < l.length)) (.asrt (0≤i∧i < l.length) (.asrt (okDo (s,rd .op l i)) (.asrt (0≤i∧i < l.length) (.asrt (0≤i∧i < l.length)
      (.ite (badX6 s (rd .op l i).Kind (doV s (rd .op l i))) (.ret RX6) (.ret (.normal,TX6 (((doV s (rd .op l i)).1,l),IntKind.i64.wrap (i + 1))))))))) (.ret EX6):=by kernel_rfl
def gX6 (σ:St):Option AX6 :=
  match nth σ.tmps 0,nth σ.tmps 5,σ.heap with
  | .view .op l',.int .i64 i,[(_,.cells [.int .i64 a,.view .task t,.view .ape p,.int .i64 c,.bool o,.int .i64 si,.int .i64 by',.int .i64 n,.view .aim l,.int .i64 y,.int .i64 z])]=>some ((⟨⟨a,t,p,c⟩,⟨o,si,by',n,l⟩,y,z⟩,l'),i)
  | _,_,_=>none
def okX6 (x:AX6):Prop:=0≤x.2∧x.1.2.length≤150∧(∀ o ∈ x.1.2,(o.D.length:Int)≤17592186044415)∧mayE x.1.1 = true∧lowN x.2 x.1.1.W∧(x.2≤x.1.2.length∨x.2 = 0)
def LxX6 (x:AX6):Tree (Ex × St):=.asrt (okX6 x) (.ret EX6)
def LX6:LoopCon:=entry 1 fX6 TX6 gX6 LxX6
theorem moveV_ids (s:Fu.Serv):(moveV s).1.NextID = s.NextID∧(moveV s).1.NextAp = s.NextAp:=by
  unfold moveV
  cases (tryV s).2 <;> exact ⟨rfl,rfl⟩
theorem leave_ids (s:Fu.Serv) (id:Int):(leaveR s id).1.NextID = s.NextID∧(leaveR s id).1.NextAp = s.NextAp:=by
  unfold leaveR
  cases (leaveE s id != 0) with
  | true=>exact ⟨rfl,rfl⟩
  | false=>cases freshE s id <;> exact ⟨rfl,rfl⟩
theorem no_ids {s s':Fu.Serv} {k n:Int} {e:Int} {t:Trc} (hm:mayE s = true) (h1:s'.NextID = s.NextID) (h2:s'.NextAp = s.NextAp) (hj:(k == 0 && e == 0) = false) (hu:(k == 3 && e == 0) = false):badX6 s k (s',(e,n),t) = false:=by
  have hi:=(mayE_safe hm).2.1
  have ha:=(mayE_safe hm).2.2
  unfold badX6 joinX6 onceX6
  simp only [hj,hu,h1,h2]
  rw [wrap_fits (n:=s.NextID + 1) (by omega) (by omega),wrap_fits (n:=s.NextAp + 1) (by omega) (by omega),show (s.NextID == s.NextID + 1) = false from beq_eq_false_iff_ne.2 (by omega),show (s.NextAp == s.NextAp + 1) = false from beq_eq_false_iff_ne.2 (by omega)]
  simp
theorem ids6 {s:Fu.Serv} {o:Fu.Op} (hm:mayE s = true):badX6 s o.Kind (doV s o) = false:=by
  have hi:=(mayE_safe hm).2.1
  have ha:=(mayE_safe hm).2.2
  have h:=do_case s o
  revert h
  generalize doV s o = x
  intro h
  cases h with
  | err e h=>exact no_ids hm rfl rfl (by rw [show (e == 0) = false from beq_eq_false_iff_ne.2 h,Bool.and_false]) (by rw [show (e == 0) = false from beq_eq_false_iff_ne.2 h,Bool.and_false])
  | join hw hk hz =>
    have e:=(join_ok hz).2.2.2
    unfold badX6 joinX6 onceX6
    rw [e,hk]
    simp only [putV]
    rw [wrap_fits (n:=s.NextID + 1) (by omega) (by omega),wrap_fits (n:=s.NextAp + 1) (by omega) (by omega),show (s.NextAp == s.NextAp + 1) = false from beq_eq_false_iff_ne.2 (by omega),show maxI s.NextID 0 = s.NextID by unfold maxI; rw [if_neg (by omega)]]
    simp
  | rate hw hk hz =>
    rw [hk]
    have e:=(rate_ok hz).2.2.2.2
    exact no_ids hm (by rw [e]; rfl) (by rw [e]; rfl) rfl rfl
  | leave hw hk hz =>
    rw [hk]
    exact no_ids hm (leave_ids s o.ID).1 (leave_ids s o.ID).2 rfl rfl
  | once hw hk ha' hf =>
    unfold badX6 joinX6 onceX6
    rw [hk]
    simp only [subS]
    rw [wrap_fits (n:=s.NextID + 1) (by omega) (by omega),wrap_fits (n:=s.NextAp + 1) (by omega) (by omega),show (s.NextID == s.NextID + 1) = false from beq_eq_false_iff_ne.2 (by omega)]
    simp
  | tick hw hk =>
    rw [hk]
    exact no_ids hm (moveV_ids s).1 (moveV_ids s).2 rfl rfl
theorem lX6 (hs:SubOf c240.P 11 (.loop (loopAt c240.P 11 6))):SoundLoop c240 (loopAt c240.P 11 6) LX6:=by
  refine loop_rule3 (C:=c240) (g:=11) (l:=6) c240_good 60 1 _ _ (Weak.norm2 1 [] [0] sX6) (Weak.norm2 1 [] [] eX6) hs TX6 LxX6 (fun x=>(x.1.2.length - x.2).toNat) (fun x q h=>?_) entry_out
  obtain ⟨⟨s,l⟩,i⟩:=x
  obtain ⟨⟨h0,h1,h2,h3,h4,h5⟩,h⟩:=Tree.out_asrt.1 h
  simp only at h0 h1 h2 h3 h4 h5
  refine .of_eq (bX6 s l i) (Tree.wp_ite.2 ⟨fun hi=>?_,fun hi=>Rnd.out h⟩)
  have hi:i < (l.length:Int):=of_decide_eq_true hi
  have hb:0≤i∧i≤1000:=by omega
  obtain ⟨k1,k2,k3⟩:=do_may (o:=rd .op l i) hb h3 h4
  refine ⟨⟨h0,hi⟩,⟨mayE_small h3,h2 _ (rd_mem' (r:=.op) h0 hi)⟩,⟨h0,hi⟩,⟨h0,hi⟩,Tree.wp_ite.2 ⟨fun hx=>?_,fun _=>?_⟩⟩
  · rw [ids6 h3] at hx
    cases hx
  · rw [wrap_fits (n:=i + 1) (by omega) (by omega)]
    exact Rnd.go (m:=fun x:AX6=>(x.1.2.length - x.2).toNat) (x:=((s,l),i)) _ (by simp only; omega) (Tree.out_asrt.2 ⟨⟨by simp only; omega,h1,h2,k1,k2,by simp only; omega⟩,h⟩)
noncomputable def c241:Cfg:=c240.addLoop 11 6 LX6
theorem c241_good:GoodCfg c241:=c240_good.addLoop (by unfold OneLoop; kernel_rfl) lX6
theorem newE_may:mayE newE = true:=by decide +kernel
theorem newE_low:lowN 0 newE.W:=⟨by decide,fun t ht=>by cases ht⟩
def good1L (args:List AV):Prop:=∃ l:List Fu.Op,args = [.view .op l]∧∀ o ∈ l,(o.D.length:Int)≤17592186044415
def eidT (l:List Fu.Op):Tree (AV × List Blk):=.ite (decide ((l.length:Int) > 150)) (.ret (.blit true,[])) (.asrt (1 = 1∧TX6 ((newE,l),0) = TX6 ((newE,l),0)) (.asrt (okX6 ((newE,l),0)) (.ret (.blit true,[]))))
theorem fEid (l:List Fu.Op):callC c241 60 11 [.view .op l] = eidT l:=by kernel_rfl
theorem eidT_tru {l:List Fu.Op} (hd:∀ o ∈ l,(o.D.length:Int)≤17592186044415):Tru (eidT l):=by
  refine .ite (fun _=>.yes) fun hb=>.asrt ⟨rfl,rfl⟩ (.asrt ?_ .yes)
  have hb:=of_decide_eq_false hb
  exact ⟨Int.le_refl _,by simp only; omega,hd,newE_may,newE_low,.inr rfl⟩
theorem conEid_valid:ValidCon c241.P 11 (lawCon good1L):=lawCon_of (n:=60) c241_good (by kernel_rfl) fun args ⟨l,h1,h3⟩=>by
  subst h1
  exact ⟨_,fEid l,eidT_tru h3⟩
end Go.Fx
