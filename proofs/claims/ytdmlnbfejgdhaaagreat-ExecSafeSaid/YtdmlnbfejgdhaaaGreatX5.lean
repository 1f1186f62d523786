import Derived.Test.YtdmlnbfejgdhaaaGreatO4
import Derived.Test.YtdmlnbfejgdhaaaGreatQA
namespace Go.Fx
open Go Go.Proofs
abbrev ALo:=Fu.Serv × Bool
def TLo (x:ALo × Int):St:=⟨puts (J 29) [(1,.ptr 0 0),(3,.bool x.1.2),(4,.int .i64 x.2)],[(0,.cells (encS x.1.1))],1⟩
def sLo:List Sh:=sets (Js 29) [(1,.keep),(3,.bool),(4,.int)]
def eLo:List Sh:=sets (Js 29) [(3,.bool)]
def ELo (x:ALo):Ex × St:=(.exit 0,⟨puts (J 29) [(3,.bool x.2)],[(0,.cells (encS x.1))],1⟩)
def nxtLo (x:ALo) (i:Int):ALo:=(x.1,x.2 && decide ((rd .task x.1.W.T i).N≤274877906944))
theorem bLo (x : ALo) (i : Int) : roundN c240 60 31 (loopAt c240.P 31 3) (norm2 1 [] [0] sLo) (norm2 1 [] [0] eLo) (TLo (x, i)) =
    .ite (decide (i < x.1.W.T.length)) (.asrt (x.2 = true→0≤i∧i < x.1.W.T.length) (.ret (.normal,TLo (nxtLo x i,IntKind.i64.wrap (i + 1))))) (.ret (ELo x)):=by kernel_rfl
def gLo (σ:St):Option (ALo × Int) :=
  match nth σ.tmps 3,nth σ.tmps 4,σ.heap with
  | .bool b,.int .i64 i,[(_,.cells [.int .i64 a,.view .task t,.view .ape p,.int .i64 c,.bool o,.int .i64 si,.int .i64 by',.int .i64 n,.view .aim l,.int .i64 y,.int .i64 z])]=>some ((⟨⟨a,t,p,c⟩,⟨o,si,by',n,l⟩,y,z⟩,b),i)
  | _,_,_=>none
def okLo (_:ALo) (_:Int):Prop:=True
def LLo:LoopCon:=boundF 1 (norm2 1 [] [0] sLo) TLo gLo (fun x=>x.1.W.T.length) okLo nxtLo ELo
theorem lLo (hs:SubOf c240.P 31 (.loop (loopAt c240.P 31 3))):SoundLoop c240 (loopAt c240.P 31 3) LLo :=
  bound_fold (C:=c240) (g:=31) (l:=3) c240_good 60 1 _ _ (Weak.norm2 1 [] [0] sLo) (Weak.norm2 1 [] [0] eLo) hs TLo gLo (fun x=>x.1.W.T.length) okLo nxtLo ELo
    (fun _=>by intro h; cases h) (fun _ _=>rfl)
    (fun x i h0 hi hm _=>.of_eq (bLo x i) (by
      unfold maxI64 at hm
      rw [wrap_fits (n:=i + 1) (by omega) (by omega)]
      exact (Tree.out_ite_true (decide_eq_true hi)).2 ⟨fun _=>⟨h0,hi⟩,rfl⟩))
    (fun x i hi=>.of_eq (bLo x i) ((Tree.out_ite_false (decide_eq_false (by omega))).2 rfl))
noncomputable def c241:Cfg:=c240.addLoop 31 3 LLo
theorem c241_good:GoodCfg c241:=c240_good.addLoop (by unfold OneLoop; kernel_rfl) lLo
def lowS (s:Fu.Serv):Bool:=decide (s.W.Now≤137438953472) && s.W.T.all fun t=>decide (t.N≤274877906944)
def lowTr (s:Fu.Serv):Tree (AV × List Blk):=.asrt (1 = 1∧TLo ((s,decide (s.W.Now≤137438953472)),0) = TLo ((s,decide (s.W.Now≤137438953472)),0)) (.asrt (0≤(0:Int)∧(s.W.T.length:Int)≤maxI64∧okI nxtLo (fun _ _=>(none:Option Unit)) okLo ((s.W.T.length:Int) - 0).toNat (s,decide (s.W.Now≤137438953472)) 0)
  (.ret (.bool (foldI nxtLo ((s.W.T.length:Int) - 0).toNat (s,decide (s.W.Now≤137438953472)) 0).2,[])))
theorem fLowS (s:Fu.Serv):callC c241 60 31 [.agg (encS s)] = lowTr s:=by kernel_rfl
theorem foldLo {s:Fu.Serv} (k:Nat):∀ (b:Bool) (i:Int),0≤i→i + k = s.W.T.length→foldI nxtLo k (s,b) i = (s,b && (s.W.T.drop i.toNat).all fun t=>decide (t.N≤274877906944))∧okI nxtLo (fun _ _=>(none:Option Unit)) okLo k (s,b) i:=by
  induction k with
  | zero=>intro b i h0 h1; rw [drop_end (by omega)]; exact ⟨by simp [foldI],trivial⟩
  | succ k ih =>
    intro b i h0 h1
    have hd:=drop_rd (r:=.task) (xs:=s.W.T) h0 (by omega)
    obtain ⟨k1,k2⟩:=ih (b && decide ((rd .task s.W.T i).N≤274877906944)) (i + 1) (by omega) (by omega)
    refine ⟨?_,trivial,fun _=>k2⟩
    unfold foldI
    refine k1.trans ?_
    rw [hd,List.all_cons,Bool.and_assoc]
def conLowS:Con:=flatCon (d1 dServ) smallS fun s=>.bool (lowS s)
theorem conLowS_valid:ValidCon c241.P 31 conLowS:=flatCon_valid c241_good 60 (by kernel_rfl) fun s h=>⟨_,fLowS s,by
  have hT:=h.1.1
  obtain ⟨k1,k2⟩:=foldLo (s:=s) ((s.W.T.length:Int) - 0).toNat (decide (s.W.Now≤137438953472)) 0 (Int.le_refl _) (by omega)
  refine .asrt ⟨rfl,rfl⟩ (.asrt ⟨Int.le_refl _,by unfold maxI64; omega,k2⟩ (retB ?_))
  rw [k1,show (0:Int).toNat = 0 from rfl,List.drop_zero]
  rfl⟩
noncomputable def c242:Cfg:=c241.addQuiet 31 conLowS
theorem c242_good:GoodCfg c242:=c241_good.addQuiet conLowS_valid flatCon_quiet
theorem lowS_iff {s:Fu.Serv}:lowS s = true↔lowN 0 s.W:=by
  unfold lowS lowN
  simp only [Bool.and_eq_true,decide_eq_true_eq,List.all_eq_true,Int.add_zero]
abbrev AX5:=(Fu.Serv × List Fu.Op) × Int
def TX5 (x:AX5):St:=⟨puts (J 84) [(1,.view .op x.1.2),(2,.ptr 0 0),(7,.int .i64 x.2)],[(0,.cells (encS x.1.1))],2⟩
def sX5:List Sh:=sets (Js 84) [(1,.keep),(2,.keep),(7,.int)]
def eX5:List Sh:=sets (Js 84) [(4,.keep)]
def fX5 (σ:St):St:=norm2 2 [] [0] sX5 σ
def gFX5 (σ:St):St:=norm2 2 [] [] eX5 σ
def RX5:Ex × St:=(.ret,⟨puts (J 84) [(4,.blit false)],[],2⟩)
def EX5:Ex × St:=(.exit 0,⟨J 84,[],2⟩)
def badX5 (s:Fu.Serv) (x:Fu.Serv × (Int × Int) × Trc):Bool:=!mayE x.1 || (decide ((x.2.2.2.2.2.2.2.1.length:Int) > 0) || (x.2.1.1 != 0 && (x.2.1.2 != 0 || (!decide (x.1 = s) || !(x.2.2.2.1 == 0 && x.2.2.2.2.1 == 0)))))
theorem bX5 (s : Fu.Serv) (l : List Fu.Op) (i : Int) : roundN c242 60 6 (loopAt c242.P 6 6) fX5 gFX5 (TX5 ((s, l), i)) =
    .ite (decide (i < l.length)) (.asrt (0≤i∧i < l.length) (.asrt (okDo (s,rd .op l i)) (.asrt (smallS (doV s (rd .op l i)).1) (.asrt ((!mayE (doV s (rd .op l i)).1) = false→decide (((doV s (rd .op l i)).2.2.2.2.2.2.2.1.length:Int) > 0) = false→((doV s (rd .op l i)).2.1.1 != 0) = true→((doV s (rd .op l i)).2.1.2 != 0) = false→smallS (doV s (rd .op l i)).1)
      (.ite (badX5 s (doV s (rd .op l i))) (.ret RX5) (.ret (.normal,TX5 (((doV s (rd .op l i)).1,l),IntKind.i64.wrap (i + 1))))))))) (.ret EX5):=by kernel_rfl
def gX5 (σ:St):Option AX5 :=
  match nth σ.tmps 1,nth σ.tmps 7,σ.heap with
  | .view .op l',.int .i64 i,[(_,.cells [.int .i64 a,.view .task t,.view .ape p,.int .i64 c,.bool o,.int .i64 si,.int .i64 by',.int .i64 n,.view .aim l,.int .i64 y,.int .i64 z])]=>some ((⟨⟨a,t,p,c⟩,⟨o,si,by',n,l⟩,y,z⟩,l'),i)
  | _,_,_=>none
def okX5 (x:AX5):Prop:=0≤x.2∧x.1.2.length≤150∧(∀ o ∈ x.1.2,(o.D.length:Int)≤17592186044415)∧mayE x.1.1 = true∧lowN x.2 x.1.1.W∧(x.2≤x.1.2.length∨x.2 = 0)
def LxX5 (x:AX5):Tree (Ex × St):=.asrt (okX5 x) (.ret EX5)
def LX5:LoopCon:=entry 2 fX5 TX5 gX5 LxX5
theorem safe5 {s:Fu.Serv} {o:Fu.Op} {b:Int} (hb:0≤b∧b≤1000) (hm:mayE s = true) (hl:lowN b s.W):badX5 s (doV s o) = false:=by
  obtain ⟨k1,k2,k3⟩:=do_may (o:=o) hb hm hl
  have key:((doV s o).2.1.1 != 0) = true→(doV s o).2.1.2 = 0∧(doV s o).1 = s∧(doV s o).2.2.2.1 = 0∧(doV s o).2.2.2.2.1 = 0:=by
    have h:=do_case s o
    revert h
    generalize doV s o = x
    intro h hn
    cases h with
    | err e h=>exact ⟨rfl,rfl,rfl,rfl⟩
    | join hw hk hz=>cases hn
    | rate hw hk hz=>cases hn
    | leave hw hk hz=>cases hn
    | once hw hk ha hf=>cases hn
    | tick hw hk=>cases hn
  unfold badX5
  rw [k1,k3]
  cases hn:((doV s o).2.1.1 != 0) with
  | false=>rfl
  | true =>
    obtain ⟨h1,h2,h3,h4⟩:=key hn
    rw [h1,h3,h4,decide_eq_true h2]
    rfl
theorem lX5 (hs:SubOf c242.P 6 (.loop (loopAt c242.P 6 6))):SoundLoop c242 (loopAt c242.P 6 6) LX5:=by
  refine loop_rule3 (C:=c242) (g:=6) (l:=6) c242_good 60 2 _ _ (Weak.norm2 2 [] [0] sX5) (Weak.norm2 2 [] [] eX5) hs TX5 LxX5 (fun x=>(x.1.2.length - x.2).toNat) (fun x q h=>?_) entry_out
  obtain ⟨⟨s,l⟩,i⟩:=x
  obtain ⟨⟨h0,h1,h2,h3,h4,h5⟩,h⟩:=Tree.out_asrt.1 h
  simp only at h0 h1 h2 h3 h4 h5
  refine .of_eq (bX5 s l i) (Tree.wp_ite.2 ⟨fun hi=>?_,fun hi=>Rnd.out h⟩)
  have hi:i < (l.length:Int):=of_decide_eq_true hi
  have hb:0≤i∧i≤1000:=by omega
  obtain ⟨k1,k2,k3⟩:=do_may (o:=rd .op l i) hb h3 h4
  refine ⟨⟨h0,hi⟩,⟨mayE_small h3,h2 _ (rd_mem' (r:=.op) h0 hi)⟩,mayE_small k1,fun _ _ _ _=>mayE_small k1,Tree.wp_ite.2 ⟨fun hx=>?_,fun _=>?_⟩⟩
  · rw [safe5 hb h3 h4] at hx
    cases hx
  · rw [wrap_fits (n:=i + 1) (by omega) (by omega)]
    exact Rnd.go (m:=fun x:AX5=>(x.1.2.length - x.2).toNat) (x:=((s,l),i)) _ (by simp only; omega) (Tree.out_asrt.2 ⟨⟨by simp only; omega,h1,h2,k1,k2,by simp only; omega⟩,h⟩)
noncomputable def c243:Cfg:=c242.addLoop 6 6 LX5
theorem c243_good:GoodCfg c243:=c242_good.addLoop (by unfold OneLoop; kernel_rfl) lX5
def good2L (args:List AV):Prop:=∃ (s:Fu.Serv) (l:List Fu.Op),args = [.agg (encS s),.view .op l]∧smallS s∧∀ o ∈ l,(o.D.length:Int)≤17592186044415
def esfT (s:Fu.Serv) (l:List Fu.Op):Tree (AV × List Blk):=.asrt (smallS s) (.ite (nearE s) (.asrt (smallS s) (.asrt ((!lowS s) = false→decide ((l.length:Int) > 150) = false→smallS s)
  (.ite (!lowS s || (decide ((l.length:Int) > 150) || !mayE s)) (.ret (.blit true,[])) (.asrt (2 = 2∧TX5 ((s,l),0) = TX5 ((s,l),0)) (.asrt (okX5 ((s,l),0)) (.ret (.blit true,[]))))))) (.ret (.blit true,[])))
theorem fEsf (s:Fu.Serv) (l:List Fu.Op):callC c243 60 6 [.agg (encS s),.view .op l] = esfT s l:=by kernel_rfl
theorem esfT_tru {s:Fu.Serv} {l:List Fu.Op} (h:smallS s) (hd:∀ o ∈ l,(o.D.length:Int)≤17592186044415):Tru (esfT s l):=by
  refine .asrt h (.ite (fun _=>.asrt h (.asrt (fun _ _=>h) (.ite (fun _=>.yes) fun hb=>.asrt ⟨rfl,rfl⟩ (.asrt ?_ .yes)))) fun _=>.yes)
  simp only [Bool.or_eq_false_iff,Bool.not_eq_false',decide_eq_false_iff_not] at hb
  obtain ⟨h1,h2,h3⟩:=hb
  exact ⟨Int.le_refl _,by simp only; omega,hd,h3,lowS_iff.1 h1,.inr rfl⟩
theorem conEsf_valid:ValidCon c243.P 6 (lawCon good2L):=lawCon_of (n:=60) c243_good (by kernel_rfl) fun args ⟨s,l,h1,h2,h3⟩=>by
  subst h1
  exact ⟨_,fEsf s l,esfT_tru h2 h3⟩
end Go.Fx
