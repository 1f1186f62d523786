import Derived.Test.YtdmlnbfejgdhaaaGreatQC
namespace Go.Fx
open Go Go.Proofs
abbrev CX0:=List Fu.Op × List Int × Int × Int × Int
abbrev AX0:=(Fu.Serv × CX0) × Int
def TX0 (x:AX0):St:=⟨puts (J 164) [(2,.view .op x.1.2.1),(3,.view (.int .i64) x.1.2.2.1),(10,.ptr 1 0),(13,.int .i64 x.1.2.2.2.1),(14,.int .i64 x.1.2.2.2.2.1),(15,.int .i64 x.1.2.2.2.2.2),(16,.int .i64 x.2)],[(1,.cells (encS x.1.1))],4⟩
def sX0:List Sh:=sets (Js 164) [(2,.keep),(3,.keep),(10,.keep),(13,.int),(14,.int),(15,.int),(16,.int)]
def vsX0:List Sh:=sets (Js 164) [(2,.keep),(3,.keep),(10,.keep),(13,.int),(14,.int),(15,.int),(16,.int),(17,.view (.int .i64))]
def eX0:List Sh:=sets (Js 164) [(8,.bool)]
def vX0 (σ:St):St:=norm2 4 [] [1] vsX0 (freezeS 17 σ)
def fX0 (σ:St):St:=norm2 4 [] [1] sX0 σ
def gFX0 (σ:St):St:=norm2 4 [] [] eX0 σ
def pX0:List Bool:=[true,false,true,true,true,true]
def RX0 (b:Bool):Ex × St:=(.ret,⟨puts (J 164) [(8,.bool b)],[],4⟩)
def EX0:Ex × St:=(.exit 0,⟨J 164,[],4⟩)
def opX0 (n:List Int):Fu.Op:=⟨4,0,⟨0,0,0,0,0,0⟩,0,0,0,0,0,n⟩
def lastX0 (s:Fu.Serv):Int:=IntKind.i64.wrap ((s.W.T.length:Int)-1)
def postX0 (s:Fu.Serv) (n:List Int) (c:CX0) (k:Int):Tree (Ex × St) :=
 .asrt (okDo (s,opX0 n)) (.ite ((doV s (opX0 n)).2.1.1 == 7) (.ret (RX0 true)) (.ite ((doV s (opX0 n)).2.1.1 != 0 || decide (((doV s (opX0 n)).2.2.2.2.2.2.2.1.length:Int) > 0)) (.ret (RX0 false))
  (.asrt (decide (lastX0 (doV s (opX0 n)).1≥0)=true→0≤lastX0 (doV s (opX0 n)).1∧lastX0 (doV s (opX0 n)).1 < (doV s (opX0 n)).1.W.T.length)
   (.ite (decide (lastX0 (doV s (opX0 n)).1≥0) && (rd .task (doV s (opX0 n)).1.W.T (lastX0 (doV s (opX0 n)).1)).ID == c.2.2.1) (.ret (RX0 (decide (IntKind.i64.wrap (s.W.Now-c.2.2.2.1)≤c.2.2.2.2))))
    (.ret (.normal,TX0 (((doV s (opX0 n)).1,c),IntKind.i64.wrap (k+1))))))))
def numX0 (s:Fu.Serv) (c:CX0) (k:Int):Tree (Ex × St) :=
 .ite (decide ((c.2.1.length:Int) > 0)) (.asrt ((c.2.1.length:Int)≠0) (.asrt (0≤k.tmod c.2.1.length∧k.tmod c.2.1.length < c.2.1.length) (postX0 s [rd (.int .i64) c.2.1 (k.tmod c.2.1.length)] c k))) (postX0 s [] c k)
def moreX0 (c:CX0) (k:Int):Bool:=decide (k < c.1.length) && ((rd .op c.1 k).Kind != 4 && ((rd .op c.1 k).Kind != 2 || (rd .op c.1 k).ID != c.2.2.1))
def rdX0 (c:CX0) (k:Int):Prop:=0≤k∧k < c.1.length
theorem bX0 (s : Fu.Serv) (c : CX0) (k : Int) : roundV c242 vX0 pX0 60 4 (loopAt c242.P 4 12) fX0 gFX0 (TX0 ((s, c), k)) =
    .ite (decide (k < 1300)) (.asrt (decide (k < c.1.length)=true→rdX0 c k) (.asrt (decide (k < c.1.length)=true→((rd .op c.1 k).Kind != 4)=true→rdX0 c k) (.asrt (decide (k < c.1.length)=true→((rd .op c.1 k).Kind != 4)=true→((rd .op c.1 k).Kind != 2)=false→rdX0 c k)
      (.ite (moreX0 c k) (.asrt (rdX0 c k) (.asrt (okDo (s,rd .op c.1 k)) (numX0 (doV s (rd .op c.1 k)).1 c k))) (numX0 s c k))))) (.ret EX0):=by kernel_rfl
def gX0 (σ:St):Option AX0 :=
 match nth σ.tmps 2,nth σ.tmps 3,nth σ.tmps 13,nth σ.tmps 14,nth σ.tmps 15,nth σ.tmps 16,σ.heap with
 | .view .op m,.view (.int .i64) d,.int .i64 id,.int .i64 be,.int .i64 bo,.int .i64 k,[(_,.cells [.int .i64 a,.view .task t,.view .ape p,.int .i64 c,.bool o,.int .i64 si,.int .i64 by',.int .i64 n,.view .aim l,.int .i64 y,.int .i64 z])]=>some ((⟨⟨a,t,p,c⟩,⟨o,si,by',n,l⟩,y,z⟩,m,d,id,be,bo),k)
 | _,_,_,_,_,_,_=>none
def okX0 (x:AX0):Prop:=(x.1.2.2.1.length≤100∧∀ o ∈ x.1.2.1,(o.D.length:Int)≤17592186044415)∧(0≤x.1.2.2.2.2.1∧x.1.2.2.2.2.1≤1099511627776∧x.1.2.2.2.2.1≤x.1.1.W.Now)∧WaitG x.1.1 x.1.2.2.2.1 (x.1.2.2.2.2.1+x.1.2.2.2.2.2) x.2
def LxX0 (x:AX0):Tree (Ex × St):=.asrt (okX0 x) (.ret (RX0 true))
def LX0:LoopCon:=entry 4 fX0 TX0 gX0 LxX0
theorem weak_vX0 (σ:St):Weak 4 σ (vX0 σ):=(Weak.freezeS 4 17 σ).trans (Weak.norm2 4 [] [1] vsX0 _)
theorem post_tru {s : Fu.Serv} {n : List Int} {c : CX0} {k : Int} {q : Ex × St} {x : AX0} (hx : x.2 = k ∧ x.1.2 = c) (hn : n.length ≤ 100) (hd : c.2.1.length ≤ 100 ∧ ∀ o ∈ c.1, (o.D.length : Int) ≤ 17592186044415) (hb : 0 ≤ c.2.2.2.1 ∧ c.2.2.2.1 ≤ 1099511627776 ∧ c.2.2.2.1 ≤ s.W.Now)
    (h:WaitG s c.2.2.1 (c.2.2.2.1+c.2.2.2.2) k) (hq:Tree.Out (.ret (RX0 true)) q):(postX0 s n c k).wp (Rnd TX0 (fun x=>(1300-x.2).toNat) LxX0 x q):=by
  have hm:=h.inn.may
  have ht:=h.time
  have hk:=h.pos
  have hnow:=(mayW_iff.1 (safeE_may hm)).1
  have hsm:=do_small (opX0 n) hm
  refine ⟨⟨mayE_small hm,by show (n.length:Int)≤_; omega⟩,Tree.wp_ite.2 ⟨fun _=>Rnd.ret hq,fun h7=>?_⟩⟩
  have ho:mayOp (opX0 n)=true:=by
    cases ho:mayOp (opX0 n) with
    | true=>rfl
    | false =>
      have hw:whyV s (mayOp (opX0 n))=7:=by unfold whyV; rw [hm,ho]; rfl
      rw [do_bar hw (by decide)] at h7
      cases h7
  obtain ⟨e1,e2,e3,e4⟩:=h.tick (o:=opX0 n) rfl ho
  have hlast:lastX0 (doV s (opX0 n)).1=((doV s (opX0 n)).1.W.T.length:Int)-1:=wrap_fits (by omega) (by omega)
  refine Tree.wp_ite.2 ⟨fun h8=>?_,fun _=>⟨fun h9=>?_,Tree.wp_ite.2 ⟨fun h10=>?_,fun h10=>?_⟩⟩⟩
  · rw [e1,e2] at h8
    cases h8
  · have h9:=of_decide_eq_true h9
    rw [hlast] at h9 ⊢
    omega
  · have e:decide (IntKind.i64.wrap (s.W.Now-c.2.2.2.1)≤c.2.2.2.2)=true:=by
      rw [wrap_fits (n:=s.W.Now-c.2.2.2.1) (by omega) (by omega)]
      exact decide_eq_true (by omega)
    rw [e]
    exact Rnd.ret hq
  · rw [hlast,Bool.and_eq_false_iff] at h10
    rcases e4 with ⟨f1,f2⟩ | ⟨f1,f2⟩
    · exfalso
      rcases h10 with h10 | h10
      · have:=of_decide_eq_false h10
        omega
      · rw [f2,beq_self_eq_true] at h10
        cases h10
    · rw [wrap_fits (n:=k+1) (by omega) (by omega)]
      have ha:=h.ahead
      have hnn:s.W.Now≤(doV s (opX0 n)).1.W.Now:=by
        rcases do_now (o:=opX0 n) hm with h | ⟨_,h⟩ <;> rw [h] <;> omega
      exact Rnd.go (m:=fun x:AX0=>(1300-x.2).toNat) (x:=x) (((doV s (opX0 n)).1,c),k+1) (by simp only [hx.1]; omega) (Tree.out_asrt.2 ⟨⟨hd,⟨hb.1,hb.2.1,by simp only; omega⟩,f1⟩,hq⟩)
theorem num_tru {s : Fu.Serv} {c : CX0} {k : Int} {q : Ex × St} {x : AX0} (hx : x.2 = k ∧ x.1.2 = c) (hd : c.2.1.length ≤ 100 ∧ ∀ o ∈ c.1, (o.D.length : Int) ≤ 17592186044415) (hb : 0 ≤ c.2.2.2.1 ∧ c.2.2.2.1 ≤ 1099511627776 ∧ c.2.2.2.1 ≤ s.W.Now)
    (h:WaitG s c.2.2.1 (c.2.2.2.1+c.2.2.2.2) k) (hq:Tree.Out (.ret (RX0 true)) q):(numX0 s c k).wp (Rnd TX0 (fun x=>(1300-x.2).toNat) LxX0 x q):=by
  have hk:=h.pos
  refine Tree.wp_ite.2 ⟨fun hl=>?_,fun _=>post_tru hx (by simp) hd hb h hq⟩
  have hl:=of_decide_eq_true hl
  have h1:=Int.emod_nonneg k (show (c.2.1.length:Int)≠0 by omega)
  have h2:=Int.emod_lt_of_pos k (show 0 < (c.2.1.length:Int) by omega)
  have e:k.tmod c.2.1.length=k % c.2.1.length:=Int.tmod_eq_emod_of_nonneg hk
  exact ⟨by omega,⟨by omega,by omega⟩,post_tru hx (by simp) hd hb h hq⟩
theorem lX0 (hs:SubOf c242.P 4 (.loop (loopAt c242.P 4 12))):SoundLoop c242 (loopAt c242.P 4 12) LX0:=by
 refine loop_rule4 (C:=c242) (g:=4) (l:=12) c242_good 60 4 vX0 _ _ pX0 weak_vX0 (Weak.norm2 4 [] [1] sX0) (Weak.norm2 4 [] [] eX0) hs TX0 LxX0 (fun x=>(1300-x.2).toNat) (fun x q h=>?_) entry_out
 obtain ⟨⟨s,c⟩,k⟩:=x
 obtain ⟨⟨h1,h2,h3⟩,h⟩:=Tree.out_asrt.1 h
 simp only at h1 h2 h3
 have ht:=h3.time
 have hk:=h3.pos
 refine .of_eq (bX0 s c k) (Tree.wp_ite.2 ⟨fun hi=>?_,fun hi=>?_⟩)
 ·have hr:decide (k < (c.1.length:Int))=true→rdX0 c k:=fun h=>⟨hk,of_decide_eq_true h⟩
  refine ⟨hr,fun h _=>hr h,fun h _ _=>hr h,Tree.wp_ite.2 ⟨fun hm=>?_,fun _=>num_tru ⟨rfl,rfl⟩ h1 h2 h3 h⟩⟩
  unfold moreX0 at hm
  simp only [Bool.and_eq_true,Bool.or_eq_true,bne_iff_ne] at hm
  obtain ⟨m1,m2,m3⟩:=hm
  have hr:=hr m1
  have hnn:s.W.Now≤(doV s (rd .op c.1 k)).1.W.Now:=by
   rcases do_now (o:=rd .op c.1 k) h3.inn.may with h | ⟨_,h⟩ <;> rw [h] <;> omega
  exact ⟨hr,⟨mayE_small h3.inn.may,h1.2 _ (rd_mem' (r:=.op) hr.1 hr.2)⟩,num_tru ⟨rfl,rfl⟩ h1 ⟨h2.1,h2.2.1,by omega⟩ (h3.more m2 m3) h⟩
 ·have:=of_decide_eq_false hi
  omega
noncomputable def c243:Cfg:=c242.addLoop 4 12 LX0
theorem c243_good:GoodCfg c243:=c242_good.addLoop (by unfold OneLoop; kernel_rfl) lX0
theorem do_lowX {s:Fu.Serv} {o:Fu.Op} {b:Int} (hb:-1000≤b∧b≤1000) (hm:mayE s=true) (hl:lowN b s.W):lowN (b+1) (doV s o).1.W:=by
 have up:lowN (b+1) s.W:=⟨by have:=hl.1; omega,fun t ht=>by have:=hl.2 t ht; omega⟩
 have h:=do_case s o
 revert h
 generalize doV s o=x
 intro h
 cases h with
 | err e h=>exact up
 | join hw hk hz=>simp only; rw [join_W]; exact up
 | rate hw hk hz=>simp only; rw [rate_W]; exact up
 | leave hw hk hz =>
  rcases leave_W s o.ID with e | e
  ·simp only; rw [e]; exact up
  ·simp only; rw [e]; exact ⟨up.1,fun t ht=>up.2 t ((dropAT_sub o.ID s.W.T).subset ht)⟩
 | once hw hk ha hf=>exact up
 | tick hw hk =>
  have hm':=move_may hm
  have hl':lowN b (moveV s).1.W:=⟨by rw [move_now hm]; exact hl.1,move_all (fun t=>t.N≤274877906944+b) (fun t q p ht=>by rw [turn_N]; exact ht) (fun id q p _=>by show (0:Int)≤_; omega) hl.2⟩
  exact (Ahead.of_low (safeE_may hm') hb.2 hl').tickLow o.D hl'
theorem runA_lowX {l:List Fu.Op}:∀ (n:Nat) (s:Fu.Serv) (i:Int),0≤i→i+n≤1000→mayE s=true→lowN (i-1000) s.W→lowN 0 (runA l n s i).W
 | 0,s,i,h0,h1,_,hl=>⟨by have:=hl.1; show s.W.Now≤_; omega,fun t ht=>by have:=hl.2 t ht; omega⟩
 | n+1,s,i,h0,h1,hm,hl=>by
  have k1:=do_lowX (o:=rd .op l i) (b:=i-1000) ⟨by omega,by omega⟩ hm hl
  have km:mayE (doV s (rd .op l i)).1=true:=(do_may (o:=rd .op l i) (b:=0) ⟨by omega,by omega⟩ hm ⟨by have:=hl.1; omega,fun t ht=>by have:=hl.2 t ht; omega⟩).1
  refine runA_lowX n _ (i+1) (by omega) (by omega) km ?_
  rw [show i+1-1000=i-1000+1 by omega]
  exact k1
def opJ0 (p:Fu.Spec):Fu.Op:=⟨0,0,p,0,0,0,0,0,[]⟩
def cJ0 (x:Fu.Serv × (Int × Int) × Trc) (m:List Fu.Op) (d:List Int):CX0:=(m,d,x.2.1.2,x.1.W.Now,IntKind.i64.wrap (x.1.R.By-x.1.W.Now))
def good4F (args:List AV):Prop:=∃ (l:List Fu.Op) (p:Fu.Spec) (m:List Fu.Op) (d:List Int),args=[.view .op l,.agg (encSpec p),.view .op m,.view (.int .i64) d]∧(∀ o ∈ l,(o.D.length:Int)≤17592186044415)∧∀ o ∈ m,(o.D.length:Int)≤17592186044415
def tfoT (l:List Fu.Op) (p:Fu.Spec) (m:List Fu.Op) (d:List Int):Tree (AV × List Blk) :=
 .ite (decide ((l.length:Int) > 100) || (decide ((m.length:Int) > 40) || decide ((d.length:Int) > 100))) (.ret (.blit true,[])) (.asrt (l.length≤200∧∀ o ∈ l,(o.D.length:Int)≤17592186044415) (.asrt (okDo (aftS l,opJ0 p))
  (.ite ((doV (aftS l) (opJ0 p)).2.1.1 != 0) (.ret (.blit true,[])) (.asrt (4=4∧TX0 (((doV (aftS l) (opJ0 p)).1,cJ0 (doV (aftS l) (opJ0 p)) m d),0)=TX0 (((doV (aftS l) (opJ0 p)).1,cJ0 (doV (aftS l) (opJ0 p)) m d),0))
   (.asrt (okX0 (((doV (aftS l) (opJ0 p)).1,cJ0 (doV (aftS l) (opJ0 p)) m d),0)) (.ret (.bool true,[])))))))
theorem fTfo (l:List Fu.Op) (p:Fu.Spec) (m:List Fu.Op) (d:List Int):callC c243 60 4 [.view .op l,.agg (encSpec p),.view .op m,.view (.int .i64) d]=tfoT l p m d:=by kernel_rfl
theorem tfoT_tru {l:List Fu.Op} {p:Fu.Spec} {m:List Fu.Op} {d:List Int} (hl:∀ o ∈ l,(o.D.length:Int)≤17592186044415) (hmm:∀ o ∈ m,(o.D.length:Int)≤17592186044415):Tru (tfoT l p m d):=by
 refine .ite (fun _=>.yes) fun hb=>?_
 simp only [Bool.or_eq_false_iff,decide_eq_false_iff_not] at hb
 obtain ⟨b1,b2,b3⟩:=hb
 have hm:mayE (aftS l)=true:=(aft_may (l:=l) (by omega)).1
 have hlow:lowN 0 (aftS l).W:=runA_lowX (l:=l) ((l.length:Int)-0).toNat newE 0 (Int.le_refl _) (by omega) newA_may ⟨by decide,fun t ht=>by cases ht⟩
 refine .asrt ⟨by omega,hl⟩ (.asrt ⟨mayE_small hm,by show (([]:List Int).length:Int)≤_; decide⟩ (.ite (fun _=>.yes) fun he=>.asrt ⟨rfl,rfl⟩ (.asrt ?_ (.of rfl))))
 have key:okX0 (((doV (aftS l) (opJ0 p)).1,cJ0 (doV (aftS l) (opJ0 p)) m d),0):=by
  have he:=bne_eq_false_iff_eq.1 he
  have hc:=do_case (aftS l) (opJ0 p)
  revert hc he
  generalize doV (aftS l) (opJ0 p)=x
  intro he hc
  cases hc with
  | err e h=>exact absurd he h
  | join hw hk hz =>
   obtain ⟨w1,w2,w3⟩:=join_waits (p:=p) hm hlow hz
   have hid:=(join_ok (p:=p) hz).2.2.2
   have hnow:=(mayW_iff.1 (safeE_may hm)).1
   have hby:=byV_range (mayE_safe hm).1
   have hni:=(mayE_safe hm).2.1.1
   have e1:maxI (joinR (aftS l) p).1.2 0=(joinR (aftS l) p).1.2:=by
    rw [hid]
    unfold maxI
    rw [if_neg (by simp only; omega)]
   have eb:IntKind.i64.wrap ((joinR (aftS l) p).1.1.R.By-(joinR (aftS l) p).1.1.W.Now)=(joinR (aftS l) p).1.1.R.By-(joinR (aftS l) p).1.1.W.Now:=by
    rw [w2,w3]
    exact wrap_fits (by omega) (by omega)
   refine ⟨⟨by show d.length≤100; omega,hmm⟩,⟨?_,?_,?_⟩,?_⟩
   ·show 0≤(joinR (aftS l) p).1.1.W.Now
    rw [w2]; omega
   ·show (joinR (aftS l) p).1.1.W.Now≤_
    rw [w2]; omega
   ·exact Int.le_refl _
   ·show WaitG (joinR (aftS l) p).1.1 (maxI (joinR (aftS l) p).1.2 0) ((joinR (aftS l) p).1.1.W.Now+IntKind.i64.wrap ((joinR (aftS l) p).1.1.R.By-(joinR (aftS l) p).1.1.W.Now)) 0
    rw [e1,eb,show (joinR (aftS l) p).1.1.W.Now+((joinR (aftS l) p).1.1.R.By-(joinR (aftS l) p).1.1.W.Now)=(joinR (aftS l) p).1.1.R.By by omega]
    exact WaitG.of w1
  | rate hw hk hz=>cases hk
  | leave hw hk hz=>cases hk
  | once hw hk ha hf=>cases hk
  | tick hw hk=>cases hk
 exact key
theorem conTfo_valid:ValidCon c243.P 4 (lawCon good4F):=lawCon_of (n:=60) c243_good (by kernel_rfl) fun args ⟨l,p,m,d,h1,h2,h3⟩=>by
 subst h1
 exact ⟨_,fTfo l p m d,tfoT_tru h2 h3⟩
end Go.Fx
