import Derived.Test.YtdmlnbfejgdhaaaGreatQB
namespace Go.Fx
open Go Go.Proofs
abbrev AX7:=Fu.Serv × Fu.Serv × List Fu.Op × Int
def hX7 (x:AX7):Heap:=[(0,.cells (encS x.1)),(81,.cells (encS x.2.1))]
def TY7 (x:AX7 × Int):St:=⟨puts (J 68) [(0,.view .op x.1.2.2.1),(4,.ptr 0 0),(5,.int .i64 x.1.2.2.2),(6,.ptr 81 0),(9,.int .i64 x.2)],hX7 x.1,129⟩
def sY7:List Sh:=sets (Js 68) [(0,.keep),(4,.keep),(5,.int),(6,.keep),(9,.int)]
def eY7:List Sh:=sets (Js 68) [(0,.keep),(2,.keep),(4,.keep),(5,.int),(6,.keep)]
def fY7 (σ:St):St:=norm2 129 [] [0,81] sY7 σ
def gFY7 (σ:St):St:=norm2 129 [] [0,81] eY7 σ
def EY7 (x:AX7):Ex × St:=(.exit 2,⟨puts (J 68) [(0,.view .op x.2.2.1),(4,.ptr 0 0),(5,.int .i64 x.2.2.2),(6,.ptr 81 0)],hX7 x,129⟩)
def RY7 (x:AX7):Ex × St:=(.ret,⟨puts (J 68) [(0,.view .op x.2.2.1),(2,.blit false),(4,.ptr 0 0),(5,.int .i64 x.2.2.2),(6,.ptr 81 0)],hX7 x,129⟩)
theorem bY7 (x : AX7) (k : Int) : roundN c242 60 12 (loopAt c242.P 12 10) fY7 gFY7 (TY7 (x, k)) =
    .ite (decide (k < x.2.1.W.T.length)) (.asrt (0≤k∧k < x.2.1.W.T.length) (.asrt ((rd .task x.2.1.W.T k).Kept = true→FineP (rd .task x.2.1.W.T k).H (rd .task x.2.1.W.T k).S.M (rd .task x.2.1.W.T k).S.K)
      (.ite ((rd .task x.2.1.W.T k).Kept && !true) (.ret (RY7 x)) (.ret (.normal,TY7 (x,IntKind.i64.wrap (k + 1))))))) (.ret (EY7 x)):=by kernel_rfl
def gY7 (σ:St):Option (AX7 × Int) :=
  match nth σ.tmps 0,nth σ.tmps 5,nth σ.tmps 9,σ.heap with
  | .view .op l',.int .i64 i,.int .i64 k,[(_,.cells [.int .i64 a,.view .task t,.view .ape p,.int .i64 c,.bool o,.int .i64 si,.int .i64 by',.int .i64 n,.view .aim l,.int .i64 y,.int .i64 z]),(_,.cells [.int .i64 a2,.view .task t2,.view .ape p2,.int .i64 c2,.bool o2,.int .i64 si2,.int .i64 by2,.int .i64 n2,.view .aim l2,.int .i64 y2,.int .i64 z2])] =>
    some ((⟨⟨a,t,p,c⟩,⟨o,si,by',n,l⟩,y,z⟩,⟨⟨a2,t2,p2,c2⟩,⟨o2,si2,by2,n2,l2⟩,y2,z2⟩,l',i),k)
  | _,_,_,_=>none
def okY7 (x:AX7 × Int):Prop:=0≤x.2∧x.1.2.1.W.T.length≤4∧∀ t ∈ x.1.2.1.W.T,t.Kept = true→FineP t.H t.S.M t.S.K
def LxY7 (x:AX7 × Int):Tree (Ex × St):=.asrt (okY7 x) (.ret (EY7 x.1))
def LY7:LoopCon:=entry 129 fY7 TY7 gY7 LxY7
theorem lY7 (hs:SubOf c242.P 12 (.loop (loopAt c242.P 12 10))):SoundLoop c242 (loopAt c242.P 12 10) LY7:=by
  refine loop_rule3 (C:=c242) (g:=12) (l:=10) c242_good 60 129 _ _ (Weak.norm2 129 [] [0,81] sY7) (Weak.norm2 129 [] [0,81] eY7) hs TY7 LxY7 (fun x=>(x.1.2.1.W.T.length - x.2).toNat) (fun x q h=>?_) entry_out
  obtain ⟨x,k⟩:=x
  obtain ⟨⟨h0,h1,h2⟩,h⟩:=Tree.out_asrt.1 h
  simp only at h0 h1 h2
  refine .of_eq (bY7 x k) (Tree.wp_ite.2 ⟨fun hi=>?_,fun hi=>Rnd.out h⟩)
  have hi:k < (x.2.1.W.T.length:Int):=of_decide_eq_true hi
  refine ⟨⟨h0,hi⟩,h2 _ (rd_mem' (r:=.task) h0 hi),Tree.wp_ite.2 ⟨fun hb=>?_,fun _=>?_⟩⟩
  · simp at hb
  · rw [wrap_fits (n:=k + 1) (by omega) (by omega)]
    exact Rnd.go (m:=fun x:AX7 × Int=>(x.1.2.1.W.T.length - x.2).toNat) (x:=(x,k)) (x,k + 1) (by simp only; omega) (Tree.out_asrt.2 ⟨⟨by simp only; omega,h1,h2⟩,h⟩)
noncomputable def c243:Cfg:=c242.addLoop 12 10 LY7
theorem c243_good:GoodCfg c243:=c242_good.addLoop (by unfold OneLoop; kernel_rfl) lY7
abbrev BX7:=(Fu.Serv × List Fu.Op) × Int
def TX7 (x:BX7):St:=⟨puts (J 68) [(0,.view .op x.1.2),(4,.ptr 0 0),(5,.int .i64 x.2)],[(0,.cells (encS x.1.1))],1⟩
def sX7:List Sh:=sets (Js 68) [(0,.keep),(4,.keep),(5,.int)]
def eX7:List Sh:=sets (Js 68) [(2,.keep),(4,.keep)]
def fX7 (σ:St):St:=norm2 1 [] [0] sX7 σ
def gFX7 (σ:St):St:=norm2 1 [] [0] eX7 σ
def EX7 (s:Fu.Serv):Ex × St:=(.exit 0,⟨puts (J 68) [(4,.ptr 0 0)],[(0,.cells (encS s))],1⟩)
theorem bX7 (s : Fu.Serv) (l : List Fu.Op) (i : Int) : roundN c243 60 12 (loopAt c243.P 12 6) fX7 gFX7 (TX7 ((s, l), i)) =
    .ite (decide (i < l.length)) (.asrt (0≤i∧i < l.length) (.asrt (okDo (s,rd .op l i)) (.asrt (129 = 129∧TY7 ((s,(doV s (rd .op l i)).1,l,i),0) = TY7 ((s,(doV s (rd .op l i)).1,l,i),0)) (.asrt (okY7 ((s,(doV s (rd .op l i)).1,l,i),0))
      (.ret (.normal,TX7 (((doV s (rd .op l i)).1,l),IntKind.i64.wrap (i + 1)))))))) (.ret (EX7 s)):=by kernel_rfl
def gX7 (σ:St):Option BX7 :=
  match nth σ.tmps 0,nth σ.tmps 5,σ.heap with
  | .view .op l',.int .i64 i,[(_,.cells [.int .i64 a,.view .task t,.view .ape p,.int .i64 c,.bool o,.int .i64 si,.int .i64 by',.int .i64 n,.view .aim l,.int .i64 y,.int .i64 z])]=>some ((⟨⟨a,t,p,c⟩,⟨o,si,by',n,l⟩,y,z⟩,l'),i)
  | _,_,_=>none
def okX7 (x:BX7):Prop:=(0≤x.2∧x.1.2.length≤200∧∀ o ∈ x.1.2,(o.D.length:Int)≤17592186044415)∧(mayE x.1.1 = true∧lowN x.2 x.1.1.W∧(x.2≤x.1.2.length∨x.2 = 0))∧AllF x.1.1.W.T
def runD (l:List Fu.Op):Nat→Fu.Serv→Int→Fu.Serv
  | 0,s,_=>s
  | n + 1,s,i=>runD l n (doV s (rd .op l i)).1 (i + 1)
def LxX7 (x:BX7):Tree (Ex × St):=.asrt (okX7 x) (.ret (EX7 (runD x.1.2 (x.1.2.length - x.2).toNat x.1.1 x.2)))
def LX7:LoopCon:=entry 1 fX7 TX7 gX7 LxX7
theorem lX7 (hs:SubOf c243.P 12 (.loop (loopAt c243.P 12 6))):SoundLoop c243 (loopAt c243.P 12 6) LX7:=by
  refine loop_rule3 (C:=c243) (g:=12) (l:=6) c243_good 60 1 _ _ (Weak.norm2 1 [] [0] sX7) (Weak.norm2 1 [] [0] eX7) hs TX7 LxX7 (fun x=>(x.1.2.length - x.2).toNat) (fun x q h=>?_) entry_out
  obtain ⟨⟨s,l⟩,i⟩:=x
  obtain ⟨⟨⟨h0,h1,h2⟩,⟨h3,h4,h5⟩,h6⟩,h⟩:=Tree.out_asrt.1 h
  simp only at h0 h1 h2 h3 h4 h5 h6 h
  refine .of_eq (bX7 s l i) (Tree.wp_ite.2 ⟨fun hi=>?_,fun hi=>?_⟩)
  · have hi:i < (l.length:Int):=of_decide_eq_true hi
    have hb:0≤i∧i≤1000:=by omega
    obtain ⟨k1,k2,k3⟩:=do_may (o:=rd .op l i) hb h3 h4
    have k4:=do_firm (o:=rd .op l i) hb h3 h4 h6
    refine ⟨⟨h0,hi⟩,⟨mayE_small h3,h2 _ (rd_mem' (r:=.op) h0 hi)⟩,⟨rfl,rfl⟩,⟨Int.le_refl _,(mayW_iff.1 (safeE_may k1)).2.1,fine_all k1 k4⟩,?_⟩
    rw [wrap_fits (n:=i + 1) (by omega) (by omega)]
    have e:((l.length:Int) - i).toNat = ((l.length:Int) - (i + 1)).toNat + 1:=by omega
    rw [e] at h
    exact Rnd.go (m:=fun x:BX7=>(x.1.2.length - x.2).toNat) (x:=((s,l),i)) _ (by simp only; omega) (Tree.out_asrt.2 ⟨⟨⟨by simp only; omega,h1,h2⟩,⟨k1,k2,by simp only; omega⟩,k4⟩,h⟩)
  · have hi:¬ i < (l.length:Int):=of_decide_eq_false hi
    have e:((l.length:Int) - i).toNat = 0:=by omega
    rw [e] at h
    exact Rnd.out h
noncomputable def c244:Cfg:=c243.addLoop 12 6 LX7
theorem c244_good:GoodCfg c244:=c243_good.addLoop (by unfold OneLoop; kernel_rfl) lX7
theorem runD_may {l:List Fu.Op}:∀ (n:Nat) (s:Fu.Serv) (i:Int),0≤i→i + n≤1000→mayE s = true→lowN i s.W→mayE (runD l n s i) = true
  | 0,_,_,_,_,hm,_=>hm
  | n + 1,s,i,h0,h1,hm,hl=>by
    obtain ⟨k1,k2,_⟩:=do_may (o:=rd .op l i) ⟨h0,by omega⟩ hm hl
    exact runD_may n _ (i + 1) (by omega) (by omega) k1 k2
theorem newE_may:mayE newE = true:=by decide +kernel
theorem newE_low:lowN 0 newE.W:=⟨by decide,fun t ht=>by cases ht⟩
def good1M (args:List AV):Prop:=∃ l:List Fu.Op,args = [.view .op l]∧∀ o ∈ l,(o.D.length:Int)≤17592186044415
def efmT (l:List Fu.Op):Tree (AV × List Blk):=.ite (decide ((l.length:Int) > 200)) (.ret (.blit true,[])) (.asrt (1 = 1∧TX7 ((newE,l),0) = TX7 ((newE,l),0)) (.asrt (okX7 ((newE,l),0))
  (.asrt (smallS (runD l ((l.length:Int) - 0).toNat newE 0)) (.ret (.bool (mayE (runD l ((l.length:Int) - 0).toNat newE 0)),[])))))
theorem fEfm (l:List Fu.Op):callC c244 60 12 [.view .op l] = efmT l:=by kernel_rfl
theorem efmT_tru {l:List Fu.Op} (hd:∀ o ∈ l,(o.D.length:Int)≤17592186044415):Tru (efmT l):=by
  refine .ite (fun _=>.yes) fun hb=>.asrt ⟨rfl,rfl⟩ (.asrt ?_ ?_)
  · have hb:=of_decide_eq_false hb
    exact ⟨⟨Int.le_refl _,by simp only; omega,hd⟩,⟨newE_may,newE_low,.inr rfl⟩,fun t ht=>by cases ht⟩
  · have hb:=of_decide_eq_false hb
    have hm:=runD_may (l:=l) ((l.length:Int) - 0).toNat newE 0 (Int.le_refl _) (by omega) newE_may newE_low
    exact .asrt (mayE_small hm) (.of hm)
theorem conEfm_valid:ValidCon c244.P 12 (lawCon good1M):=lawCon_of (n:=60) c244_good (by kernel_rfl) fun args ⟨l,h1,h3⟩=>by
  subst h1
  exact ⟨_,fEfm l,efmT_tru h3⟩
end Go.Fx
