import Derived.Test.YtdmlnbfejgdhaaaGreatQB
import Derived.Test.YtdmlnbfejgdhaaaGreatQA
namespace Go.Fx
open Go Go.Proofs
abbrev AFw:=List (List Int) × Bool
def TFw (x:AFw × Int):St:=⟨puts (J 27) [(0,.view (.ints .u8) x.1.1),(5,.bool x.1.2),(6,.int .i64 x.2)],[],0⟩
def sFw:List Sh:=sets (Js 27) [(0,.keep),(5,.bool),(6,.int)]
def eFw:List Sh:=sets (Js 27) [(5,.bool)]
def EFw (b:Bool):Ex × St:=(.exit 0,⟨puts (J 27) [(5,.bool b)],[],0⟩)
def lenB (b:List Int):Bool:=decide ((b.length:Int)≤50)
def rB (l:List (List Int)) (i:Int):List Int:=rd (.ints .u8) l i
theorem bFw (l : List (List Int)) (b : Bool) (i : Int) : roundN c242 60 24 (loopAt c242.P 24 3) (norm2 0 [] [] sFw) (norm2 0 [] [] eFw) (TFw ((l, b), i)) =
    .ite (decide (i < l.length) && b) (.asrt (0≤i∧i < l.length) (.ret (.normal,TFw ((l,lenB (rB l i)),IntKind.i64.wrap (i + 1))))) (.ret (EFw b)):=by kernel_rfl
def gFw (σ:St):Option (AFw × Int) :=
  match nth σ.tmps 0,nth σ.tmps 5,nth σ.tmps 6 with
  | .view (.ints .u8) l,.bool b,.int .i64 i=>some ((l,b),i)
  | _,_,_=>none
def okFw (x:AFw × Int):Prop:=0≤x.2∧(x.1.2 = true→x.1.1.length≤1000)
def LxFw (x:AFw × Int):Tree (Ex × St):=.asrt (okFw x) (.ret (EFw (x.1.2 && (x.1.1.drop x.2.toNat).all lenB)))
def LFw:LoopCon:=entry 0 (norm2 0 [] [] sFw) TFw gFw LxFw
theorem lFw (hs:SubOf c242.P 24 (.loop (loopAt c242.P 24 3))):SoundLoop c242 (loopAt c242.P 24 3) LFw:=by
  refine loop_rule3 (C:=c242) (g:=24) (l:=3) c242_good 60 0 _ _ (Weak.norm2 0 [] [] sFw) (Weak.norm2 0 [] [] eFw) hs TFw LxFw (fun x=>(x.1.1.length - x.2).toNat) (fun x q h=>?_) entry_out
  obtain ⟨⟨l,b⟩,i⟩:=x
  obtain ⟨⟨h0,h1⟩,h⟩:=Tree.out_asrt.1 h
  simp only at h0 h1 h
  refine .of_eq (bFw l b i) (Tree.wp_ite.2 ⟨fun hi=>?_,fun hi=>?_⟩)
  · rw [Bool.and_eq_true] at hi
    obtain ⟨hi,rfl⟩:=hi
    have hi:i < (l.length:Int):=of_decide_eq_true hi
    have h1:=h1 rfl
    rw [drop_rd (r:=.ints .u8) h0 hi,List.all_cons,Bool.true_and] at h
    refine ⟨⟨h0,hi⟩,?_⟩
    rw [wrap_fits (n:=i + 1) (by omega) (by omega)]
    exact Rnd.go (m:=fun x:AFw × Int=>(x.1.1.length - x.2).toNat) (x:=((l,true),i)) ((l,lenB (rB l i)),i + 1) (by simp only; omega) (Tree.out_asrt.2 ⟨⟨by simp only; omega,fun _=>h1⟩,h⟩)
  · cases b with
    | false=>exact Rnd.out h
    | true =>
      rw [Bool.and_true] at hi
      have hi:¬ i < (l.length:Int):=of_decide_eq_false hi
      rw [drop_end (by omega)] at h
      exact Rnd.out h
noncomputable def c243:Cfg:=c242.addLoop 24 3 LFw
theorem c243_good:GoodCfg c243:=c242_good.addLoop (by unfold OneLoop; kernel_rfl) lFw
def fewV (l:List (List Int)) (m:Int):Bool:=decide ((l.length:Int)≤m) && l.all lenB
theorem fFewE (l:List (List Int)) (m:Int):callC c243 60 24 [.view (.ints .u8) l,.int .i64 m] = .asrt (0 = 0∧TFw ((l,decide ((l.length:Int)≤m)),0) = TFw ((l,decide ((l.length:Int)≤m)),0)) (.asrt (okFw ((l,decide ((l.length:Int)≤m)),0)) (.ret (.bool (decide ((l.length:Int)≤m) && (l.drop (0:Int).toNat).all lenB),[]))):=by kernel_rfl
def conFewE:Con:=flatCon (d2 (dView (.ints .u8)) dInt) (fun x=>x.2≤1000) fun x=>.bool (fewV x.1 x.2)
theorem conFewE_valid:ValidCon c243.P 24 conFewE:=flatCon_valid c243_good 60 (by kernel_rfl) fun x h=>⟨_,fFewE x.1 x.2,.asrt ⟨rfl,rfl⟩ (.asrt ⟨Int.le_refl _,fun hb=>by
  have hb:=of_decide_eq_true hb
  have h:x.2≤1000:=h
  simp only
  omega⟩ (.ret (.refl _) rfl))⟩
noncomputable def c244:Cfg:=c243.addQuiet 24 conFewE
theorem c244_good:GoodCfg c244:=c243_good.addQuiet conFewE_valid flatCon_quiet
abbrev AX8:=Fu.Serv × Fu.Serv × List (List Int) × Int
def hX8 (x:AX8):Heap:=[(0,.cells (encS x.1)),(81,.cells (encS x.2.1))]
def TY8 (x:AX8 × Int):St:=⟨puts (J 79) [(0,.view (.ints .u8) x.1.2.2.1),(5,.ptr 0 0),(6,.int .i64 x.1.2.2.2),(7,.ptr 81 0),(10,.int .i64 x.2)],hX8 x.1,129⟩
def sY8:List Sh:=sets (Js 79) [(0,.keep),(5,.keep),(6,.int),(7,.keep),(10,.int)]
def eY8:List Sh:=sets (Js 79) [(0,.keep),(2,.keep),(5,.keep),(6,.int),(7,.keep)]
def fY8 (σ:St):St:=norm2 129 [] [0,81] sY8 σ
def gFY8 (σ:St):St:=norm2 129 [] [0,81] eY8 σ
def EY8 (x:AX8):Ex × St:=(.exit 2,⟨puts (J 79) [(0,.view (.ints .u8) x.2.2.1),(5,.ptr 0 0),(6,.int .i64 x.2.2.2),(7,.ptr 81 0)],hX8 x,129⟩)
def RY8 (x:AX8):Ex × St:=(.ret,⟨puts (J 79) [(0,.view (.ints .u8) x.2.2.1),(2,.blit false),(5,.ptr 0 0),(6,.int .i64 x.2.2.2),(7,.ptr 81 0)],hX8 x,129⟩)
theorem bY8 (x : AX8) (k : Int) : roundN c244 60 5 (loopAt c244.P 5 13) fY8 gFY8 (TY8 (x, k)) =
    .ite (decide (k < x.2.1.W.T.length)) (.asrt (0≤k∧k < x.2.1.W.T.length) (.asrt ((rd .task x.2.1.W.T k).Kept = true→FineP (rd .task x.2.1.W.T k).H (rd .task x.2.1.W.T k).S.M (rd .task x.2.1.W.T k).S.K)
      (.ite ((rd .task x.2.1.W.T k).Kept && !true) (.ret (RY8 x)) (.ret (.normal,TY8 (x,IntKind.i64.wrap (k + 1))))))) (.ret (EY8 x)):=by kernel_rfl
def gY8 (σ:St):Option (AX8 × Int) :=
  match nth σ.tmps 0,nth σ.tmps 6,nth σ.tmps 10,σ.heap with
  | .view (.ints .u8) l',.int .i64 i,.int .i64 k,[(_,.cells [.int .i64 a,.view .task t,.view .ape p,.int .i64 c,.bool o,.int .i64 si,.int .i64 by',.int .i64 n,.view .aim l,.int .i64 y,.int .i64 z]),(_,.cells [.int .i64 a2,.view .task t2,.view .ape p2,.int .i64 c2,.bool o2,.int .i64 si2,.int .i64 by2,.int .i64 n2,.view .aim l2,.int .i64 y2,.int .i64 z2])] =>
    some ((⟨⟨a,t,p,c⟩,⟨o,si,by',n,l⟩,y,z⟩,⟨⟨a2,t2,p2,c2⟩,⟨o2,si2,by2,n2,l2⟩,y2,z2⟩,l',i),k)
  | _,_,_,_=>none
def okY8 (x:AX8 × Int):Prop:=0≤x.2∧x.1.2.1.W.T.length≤4∧∀ t ∈ x.1.2.1.W.T,t.Kept = true→FineP t.H t.S.M t.S.K
def LxY8 (x:AX8 × Int):Tree (Ex × St):=.asrt (okY8 x) (.ret (EY8 x.1))
def LY8:LoopCon:=entry 129 fY8 TY8 gY8 LxY8
theorem lY8 (hs:SubOf c244.P 5 (.loop (loopAt c244.P 5 13))):SoundLoop c244 (loopAt c244.P 5 13) LY8:=by
  refine loop_rule3 (C:=c244) (g:=5) (l:=13) c244_good 60 129 _ _ (Weak.norm2 129 [] [0,81] sY8) (Weak.norm2 129 [] [0,81] eY8) hs TY8 LxY8 (fun x=>(x.1.2.1.W.T.length - x.2).toNat) (fun x q h=>?_) entry_out
  obtain ⟨x,k⟩:=x
  obtain ⟨⟨h0,h1,h2⟩,h⟩:=Tree.out_asrt.1 h
  simp only at h0 h1 h2
  refine .of_eq (bY8 x k) (Tree.wp_ite.2 ⟨fun hi=>?_,fun hi=>Rnd.out h⟩)
  have hi:k < (x.2.1.W.T.length:Int):=of_decide_eq_true hi
  refine ⟨⟨h0,hi⟩,h2 _ (rd_mem' (r:=.task) h0 hi),Tree.wp_ite.2 ⟨fun hb=>?_,fun _=>?_⟩⟩
  · simp at hb
  · rw [wrap_fits (n:=k + 1) (by omega) (by omega)]
    exact Rnd.go (m:=fun x:AX8 × Int=>(x.1.2.1.W.T.length - x.2).toNat) (x:=(x,k)) (x,k + 1) (by simp only; omega) (Tree.out_asrt.2 ⟨⟨by simp only; omega,h1,h2⟩,h⟩)
noncomputable def c245:Cfg:=c244.addLoop 5 13 LY8
theorem c245_good:GoodCfg c245:=c244_good.addLoop (by unfold OneLoop; kernel_rfl) lY8
abbrev BX8:=(Fu.Serv × List (List Int)) × Int
def TX8 (x:BX8):St:=⟨puts (J 79) [(0,.view (.ints .u8) x.1.2),(5,.ptr 0 0),(6,.int .i64 x.2)],[(0,.cells (encS x.1.1))],1⟩
def sX8:List Sh:=sets (Js 79) [(0,.keep),(5,.keep),(6,.int)]
def eX8:List Sh:=sets (Js 79) [(2,.keep),(5,.keep)]
def fX8 (σ:St):St:=norm2 1 [] [0] sX8 σ
def gFX8 (σ:St):St:=norm2 1 [] [0] eX8 σ
def EX8 (s:Fu.Serv):Ex × St:=(.exit 0,⟨puts (J 79) [(5,.ptr 0 0)],[(0,.cells (encS s))],1⟩)
theorem do_N {s:Fu.Serv} {o:Fu.Op} (hm:mayE s = true):0≤(doV s o).2.1.2:=by
  have h:=do_case s o
  revert h
  generalize doV s o = x
  intro h
  cases h with
  | err e h=>exact Int.le_refl _
  | join hw hk hz=>show 0≤maxI _ _; unfold maxI; split <;> omega
  | rate hw hk hz=>exact Int.le_refl _
  | leave hw hk hz=>exact Int.le_refl _
  | once hw hk ha hf=>exact (mayE_safe hm).2.2.1
  | tick hw hk =>
    have hm':=safeE_may (move_may hm)
    have h:=(mayW_iff.1 hm').1.1
    have hn:=tick_now hm' o.D
    show 0≤(tickW (moveV s).1.W o.D).Now
    omega
theorem stepE_all {s : Fu.Serv} {bs : List Int} {b : Int} (hb : 0 ≤ b ∧ b ≤ 1000) (hm : mayE s = true) (hl : lowN b s.W) (hF : AllF s.W.T) :
    (mayE (stepV s bs).1 = true∧lowN (b + 1) (stepV s bs).1.W∧(stepV s bs).2.2.2.2.2.2.2.1 = [])∧AllF (stepV s bs).1.W.T∧0≤(stepV s bs).2.1.2:=by
  cases hg:(getV bs).2 with
  | false =>
    rw [step_no hm hg]
    exact ⟨⟨hm,⟨by have:=hl.1; show s.W.Now≤_; omega,fun t ht=>by have:=hl.2 t ht; omega⟩,rfl⟩,hF,Int.le_refl _⟩
  | true =>
    rw [step_yes hg]
    exact ⟨do_may hb hm hl,do_firm hb hm hl hF,do_N hm⟩
def RX8 (s:Fu.Serv):Ex × St:=(.ret,⟨puts (J 79) [(2,.blit false),(5,.ptr 0 0)],[(0,.cells (encS s))],1⟩)
theorem bX8 (s : Fu.Serv) (l : List (List Int)) (i : Int) : roundN c245 60 5 (loopAt c245.P 5 7) fX8 gFX8 (TX8 ((s, l), i)) =
    .ite (decide (i < l.length)) (.asrt (0≤i∧i < l.length) (.asrt (smallS s∧((rB l i).length:Int)≤17592186044415) (.ite (decide (((stepV s (rB l i)).2.2.2.2.2.2.2.1.length:Int) > 0) || decide ((stepV s (rB l i)).2.1.2 < 0)) (.ret (RX8 s))
      (.asrt (129 = 129∧TY8 ((s,(stepV s (rB l i)).1,l,i),0) = TY8 ((s,(stepV s (rB l i)).1,l,i),0)) (.asrt (okY8 ((s,(stepV s (rB l i)).1,l,i),0)) (.ret (.normal,TX8 (((stepV s (rB l i)).1,l),IntKind.i64.wrap (i + 1))))))))) (.ret (EX8 s)):=by kernel_rfl
def gX8 (σ:St):Option BX8 :=
  match nth σ.tmps 0,nth σ.tmps 6,σ.heap with
  | .view (.ints .u8) l',.int .i64 i,[(_,.cells [.int .i64 a,.view .task t,.view .ape p,.int .i64 c,.bool o,.int .i64 si,.int .i64 by',.int .i64 n,.view .aim l,.int .i64 y,.int .i64 z])]=>some ((⟨⟨a,t,p,c⟩,⟨o,si,by',n,l⟩,y,z⟩,l'),i)
  | _,_,_=>none
def okX8 (x:BX8):Prop:=(0≤x.2∧x.1.2.length≤250∧∀ b ∈ x.1.2,lenB b = true)∧(mayE x.1.1 = true∧lowN x.2 x.1.1.W∧(x.2≤x.1.2.length∨x.2 = 0))∧AllF x.1.1.W.T
def runB (l:List (List Int)):Nat→Fu.Serv→Int→Fu.Serv
  | 0,s,_=>s
  | n + 1,s,i=>runB l n (stepV s (rB l i)).1 (i + 1)
def LxX8 (x:BX8):Tree (Ex × St):=.asrt (okX8 x) (.ret (EX8 (runB x.1.2 (x.1.2.length - x.2).toNat x.1.1 x.2)))
def LX8:LoopCon:=entry 1 fX8 TX8 gX8 LxX8
theorem lX8 (hs:SubOf c245.P 5 (.loop (loopAt c245.P 5 7))):SoundLoop c245 (loopAt c245.P 5 7) LX8:=by
  refine loop_rule3 (C:=c245) (g:=5) (l:=7) c245_good 60 1 _ _ (Weak.norm2 1 [] [0] sX8) (Weak.norm2 1 [] [0] eX8) hs TX8 LxX8 (fun x=>(x.1.2.length - x.2).toNat) (fun x q h=>?_) entry_out
  obtain ⟨⟨s,l⟩,i⟩:=x
  obtain ⟨⟨⟨h0,h1,h2⟩,⟨h3,h4,h5⟩,h6⟩,h⟩:=Tree.out_asrt.1 h
  simp only at h0 h1 h2 h3 h4 h5 h6 h
  refine .of_eq (bX8 s l i) (Tree.wp_ite.2 ⟨fun hi=>?_,fun hi=>?_⟩)
  · have hi:i < (l.length:Int):=of_decide_eq_true hi
    have hb:0≤i∧i≤1000:=by omega
    obtain ⟨⟨k1,k2,k3⟩,k4,k5⟩:=stepE_all (bs:=rB l i) hb h3 h4 h6
    have hl:lenB (rB l i) = true:=h2 _ (rd_mem' (r:=.ints .u8) h0 hi)
    have hl:=of_decide_eq_true hl
    refine ⟨⟨h0,hi⟩,⟨mayE_small h3,by omega⟩,Tree.wp_ite.2 ⟨fun hx=>?_,fun _=>⟨⟨rfl,rfl⟩,⟨Int.le_refl _,(mayW_iff.1 (safeE_may k1)).2.1,fine_all k1 k4⟩,?_⟩⟩⟩
    · rw [k3,Bool.or_eq_true] at hx
      rcases hx with hx | hx
      · cases hx
      · have:=of_decide_eq_true hx
        omega
    rw [wrap_fits (n:=i + 1) (by omega) (by omega)]
    have e:((l.length:Int) - i).toNat = ((l.length:Int) - (i + 1)).toNat + 1:=by omega
    rw [e] at h
    exact Rnd.go (m:=fun x:BX8=>(x.1.2.length - x.2).toNat) (x:=((s,l),i)) _ (by simp only; omega) (Tree.out_asrt.2 ⟨⟨⟨by simp only; omega,h1,h2⟩,⟨k1,k2,by simp only; omega⟩,k4⟩,h⟩)
  · have hi:¬ i < (l.length:Int):=of_decide_eq_false hi
    have e:((l.length:Int) - i).toNat = 0:=by omega
    rw [e] at h
    exact Rnd.out h
noncomputable def c246:Cfg:=c245.addLoop 5 7 LX8
theorem c246_good:GoodCfg c246:=c245_good.addLoop (by unfold OneLoop; kernel_rfl) lX8
theorem runB_may {l:List (List Int)}:∀ (n:Nat) (s:Fu.Serv) (i:Int),0≤i→i + n≤1000→mayE s = true→lowN i s.W→AllF s.W.T→mayE (runB l n s i) = true
  | 0,_,_,_,_,hm,_,_=>hm
  | n + 1,s,i,h0,h1,hm,hl,hF=>by
    obtain ⟨⟨k1,k2,_⟩,k4,_⟩:=stepE_all (bs:=rB l i) ⟨h0,by omega⟩ hm hl hF
    exact runB_may n _ (i + 1) (by omega) (by omega) k1 k2 k4
theorem newE_may:mayE newE = true:=by decide +kernel
theorem newE_low:lowN 0 newE.W:=⟨by decide,fun t ht=>by cases ht⟩
def good1B (args:List AV):Prop:=∃ l:List (List Int),args = [.view (.ints .u8) l]
def tfmT (l:List (List Int)):Tree (AV × List Blk):=.asrt ((250:Int)≤1000) (.ite (!fewV l 250) (.ret (.blit true,[])) (.asrt (1 = 1∧TX8 ((newE,l),0) = TX8 ((newE,l),0)) (.asrt (okX8 ((newE,l),0))
  (.asrt (smallS (runB l ((l.length:Int) - 0).toNat newE 0)) (.ret (.bool (mayE (runB l ((l.length:Int) - 0).toNat newE 0)),[]))))))
theorem fTfm (l:List (List Int)):callC c246 60 5 [.view (.ints .u8) l] = tfmT l:=by kernel_rfl
theorem tfmT_tru (l:List (List Int)):Tru (tfmT l):=by
  refine .asrt (by decide) (.ite (fun _=>.yes) fun hb=>?_)
  rw [Bool.not_eq_false'] at hb
  unfold fewV at hb
  rw [Bool.and_eq_true,decide_eq_true_eq,List.all_eq_true] at hb
  obtain ⟨h1,h2⟩:=hb
  have h0:AllF newE.W.T:=fun t ht=>by cases ht
  have hm:=runB_may (l:=l) ((l.length:Int) - 0).toNat newE 0 (Int.le_refl _) (by omega) newE_may newE_low h0
  exact .asrt ⟨rfl,rfl⟩ (.asrt ⟨⟨Int.le_refl _,by simp only; omega,h2⟩,⟨newE_may,newE_low,.inr rfl⟩,h0⟩ (.asrt (mayE_small hm) (.of hm)))
theorem conTfm_valid:ValidCon c246.P 5 (lawCon good1B):=lawCon_of (n:=60) c246_good (by kernel_rfl) fun args ⟨l,h1⟩=>by
  subst h1
  exact ⟨_,fTfm l,tfmT_tru l⟩
end Go.Fx
