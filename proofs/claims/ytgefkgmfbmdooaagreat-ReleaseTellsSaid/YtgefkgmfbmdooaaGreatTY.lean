import Derived.Test.YtgefkgmfbmdooaaGreatT7
import Derived.Test.YtgefkgmfbmdooaaGreatFx5
import Derived.Test.YtgefkgmfbmdooaaGreatC2
namespace Go.Fx
open Go Go.Proofs
abbrev XA:=(List Fu.Live × Int) × Int
def TA (x:XA):St:=⟨puts (J 32) [(0,.view .live x.1.1),(1,.int .i64 x.1.2),(4,.blit false),(5,.int .i64 x.2)],[],0⟩
def sA:List Sh:=sets (Js 32) [(0,.keep),(1,.keep),(4,.keep),(5,.int)]
def eA:List Sh:=sets (Js 32) [(4,.keep)]
def RA:Ex × St:=(.ret,⟨puts (J 32) [(4,.blit false)],[],0⟩)
def EA:Ex × St:=(.exit 0,⟨puts (J 32) [(4,.blit false)],[],0⟩)
theorem bA (x : List Fu.Live × Int) (i : Int) : roundN c114 60 67 (loopAt c114.P 67 4) (norm2 0 [] [] sA) (norm2 0 [] [] eA) (TA (x, i)) =
    .ite (decide (i < x.1.length)) (.asrt (0≤i∧i < x.1.length) (.asrt (nowOK x.2) (.ite (!mayL1 (rd .live x.1 i) x.2) (.ret RA) (.ret (.normal,TA (x,IntKind.i64.wrap (i + 1))))))) (.ret EA):=by kernel_rfl
def gA (σ:St):Option XA :=
  match nth σ.tmps 0,nth σ.tmps 1,nth σ.tmps 5 with
  | .view .live l,.int .i64 n,.int .i64 i=>some ((l,n),i)
  | _,_,_=>none
def brkA (x:List Fu.Live × Int) (i:Int):Option Unit:=bif !mayL1 (rd .live x.1 i) x.2 then some () else none
def LA:LoopCon:=boundB 0 (norm2 0 [] [] sA) TA gA (fun x=>x.1.length) (fun x _=>nowOK x.2) (fun x _=>x) brkA () (fun _=>RA) (fun _=>EA)
theorem lA (hs:SubOf c114.P 67 (.loop (loopAt c114.P 67 4))):SoundLoop c114 (loopAt c114.P 67 4) LA :=
  bound_loop (C:=c114) (g:=67) (l:=4) c114_good 60 0 _ _ (Weak.norm2 0 [] [] sA) (Weak.norm2 0 [] [] eA) hs TA gA (fun x=>x.1.length) (fun x _=>nowOK x.2) (fun x _=>x) brkA () (fun _=>RA) (fun _=>EA)
    (fun _=>by intro h; cases h) (fun _=>by intro h; cases h) (fun _ _=>rfl)
    (fun x i h0 hi hm hok=>.of_eq (bA x i) (by
      unfold maxI64 at hm
      rw [wrap_fits (by omega) (by omega)]
      refine (Tree.out_ite_true (decide_eq_true hi)).2 ⟨⟨h0,hi⟩,hok,?_⟩
      unfold brkA
      cases h:(!mayL1 (rd .live x.1 i) x.2) with
      | true=>exact (Tree.out_ite_true rfl).2 rfl
      | false=>exact (Tree.out_ite_false rfl).2 rfl))
    (fun x i hi=>.of_eq (bA x i) ((Tree.out_ite_false (decide_eq_false (by omega))).2 rfl))
noncomputable def c115:Cfg:=c114.addLoop 67 4 LA
theorem c115_good:GoodCfg c115:=c114_good.addLoop (by unfold OneLoop; kernel_rfl) lA
def rmayT (l:List Fu.Live) (n:Int):Tree (AV × List Blk) :=
  .ite (decide (n < 0) || (decide (n > 549755813888) || decide ((l.length:Int) > 4))) noB (.asrt (0 = 0∧TA ((l,n),0) = TA ((l,n),0)) (.asrt (0≤(0:Int)∧(l.length:Int)≤maxI64∧okI (fun x _=>x) brkA (fun x _=>nowOK x.2) ((l.length:Int) - 0).toNat (l,n) 0)
    (optT () (brkI (fun x _=>x) brkA ((l.length:Int) - 0).toNat (l,n) 0) (fun _=>.ret (.blit false,[])) (.ret (.blit true,[])))))
theorem fRMay (l:List Fu.Live) (n:Int):callC c115 60 67 [.view .live l,.int .i64 n] = rmayT l n:=by kernel_rfl
theorem okI_idA {X β:Type} {brk:X→Int→Option β} {ok:X→Int→Prop} {x:X}:∀ (n:Nat) (i:Int),(∀ j,i≤j→j < i + n→ok x j)→okI (fun x _=>x) brk ok n x i
  | 0,_,_=>trivial
  | n + 1,i,h=>⟨h i (Int.le_refl _) (by omega),fun _=>okI_idA n (i + 1) fun j h1 h2=>h j (by omega) (by omega)⟩
theorem brkI_idA {X β:Type} {brk:X→Int→Option β} {x:X}:∀ (n:Nat) (i:Int),brkI (fun x _=>x) brk n x i = none↔∀ j,i≤j→j < i + n→brk x j = none
  | 0,i=>by
    constructor
    · intro _ j h1 h2; omega
    · intro _; rfl
  | n + 1,i=>by
    unfold brkI
    have ih:=brkI_idA (brk:=brk) (x:=x) n (i + 1)
    constructor
    · intro h j h1 h2
      cases hb:brk x i with
      | some b=>rw [hb] at h; cases h
      | none =>
        rw [hb] at h
        rcases Int.lt_or_eq_of_le h1 with h3 | rfl
        · exact ih.1 h j (by omega) (by omega)
        · exact hb
    · intro h
      rw [h i (Int.le_refl _) (by omega)]
      exact ih.2 fun j h1 h2=>h j (by omega) (by omega)
theorem all_rd {l:List Fu.Live} {p:Fu.Live→Bool}:(∀ j:Int,0≤j→j < l.length→p (rd .live l j) = true)↔l.all p = true:=by
  rw [List.all_eq_true]
  constructor
  · intro h x hx
    obtain ⟨n,hn,rfl⟩:=List.mem_iff_getElem.1 hx
    have:=h n (by omega) (by omega)
    simpa [rd,hn] using this
  · intro h j h0 h1
    exact h _ (rd_mem h0 h1)
theorem rmayT_rez {l:List Fu.Live} {n:Int} (_h:smallL l):Rez (rmayT l n) (.bool (mayL l n),[]):=by
  refine ite_rez (fun h=>noB_rez ?_) fun h=>?_
  · cases hm:mayL l n with
    | false=>rfl
    | true =>
      obtain ⟨h1,h2,_⟩:=mayL_iff.1 hm
      simp only [Bool.or_eq_true,decide_eq_true_eq] at h
      omega
  · simp only [Bool.or_eq_false_iff,decide_eq_false_iff_not] at h
    have e:mayL l n = l.all fun x=>mayL1 x n:=by
      unfold mayL
      rw [decide_eq_true (show l.length≤4 by omega),decide_eq_true (show 0≤n by omega),decide_eq_true (show n≤549755813888 by omega)]
      rfl
    rw [e]
    refine .asrt ⟨rfl,rfl⟩ (.asrt ⟨Int.le_refl _,by unfold maxI64; omega,okI_idA _ _ fun _ _ _=>⟨by omega,by omega⟩⟩ ?_)
    cases hb:brkI (fun x _=>x) brkA ((l.length:Int) - 0).toNat (l,n) 0 with
    | none =>
      refine .itee rfl (.ret (.blit (all_rd.1 fun j k0 k1=>?_).symm) rfl)
      have:=(brkI_idA _ _).1 hb j k0 (by omega)
      unfold brkA at this
      cases hc:mayL1 (rd .live l j) n with
      | true=>rfl
      | false=>simp only [hc] at this; cases this
    | some b =>
      refine .itet rfl (.ret (.blit ?_) rfl)
      cases ha:l.all fun x=>mayL1 x n with
      | false=>rfl
      | true =>
        have:brkI (fun x _=>x) brkA ((l.length:Int) - 0).toNat (l,n) 0 = none:=(brkI_idA _ _).2 fun j k0 k1=>by
          unfold brkA
          rw [all_rd.2 ha j k0 (by omega)]
          rfl
        rw [this] at hb; cases hb
theorem conRMayL_valid:ValidCon c115.P 67 conMayL:=flatCon_valid c115_good 60 (by kernel_rfl) fun x h=>⟨_,fRMay x.1 x.2,rmayT_rez h⟩
noncomputable def c116:Cfg:=c115.addQuiet 67 conMayL
theorem c116_good:GoodCfg c116:=c115_good.addQuiet conRMayL_valid flatCon_quiet
abbrev XB:=(List Fu.Live × Int × List Fu.Live) × Int
def TB (x:XB):St:=⟨puts (J 56) [(0,.view .live x.1.1),(1,.int .i64 x.1.2.1),(5,.own 0),(6,.int .i64 x.2)],[(0,.rows .live 60 x.1.2.2)],1⟩
def sB:List Sh:=sets (Js 56) [(0,.keep),(1,.keep),(5,.keep),(6,.int)]
def eB:List Sh:=sets (Js 56) [(5,.keep)]
def fB (ss:List Sh) (σ:St):St:=norm2 0 [.tmp 5] [0] ss (ownSlot 5 .live 60 σ)
theorem weak_fB (ss:List Sh) (σ:St):Weak 0 σ (fB ss σ):=(Weak.ownSlot 0 5 .live 60 σ).trans (Weak.norm2 0 [.tmp 5] [0] ss _)
def EB (x:List Fu.Live × Int × List Fu.Live):Ex × St:=(.exit 0,⟨puts (J 56) [(5,.own 0)],[(0,.rows .live 60 x.2.2)],1⟩)
theorem bB (x : List Fu.Live × Int × List Fu.Live) (i : Int) : roundN c116 60 94 (loopAt c116.P 94 3) (fB sB) (fB eB) (TB (x, i)) =
    .ite (decide (i < x.1.length)) (.asrt (0≤i∧i < x.1.length) (.ite (decide ((rd .live x.1 i).At≤x.2.1)) (.asrt ((x.2.2 ++ [begunW x.2.1 (rd .live x.1 i)]).length * 136≤140737488355328) (.ret (.normal,TB ((x.1,x.2.1,x.2.2 ++ [begunW x.2.1 (rd .live x.1 i)]),IntKind.i64.wrap (i + 1)))))
      (.asrt ((x.2.2 ++ [rd .live x.1 i]).length * 136≤140737488355328) (.ret (.normal,TB ((x.1,x.2.1,x.2.2 ++ [rd .live x.1 i]),IntKind.i64.wrap (i + 1))))))) (.ret (EB x)):=by kernel_rfl
def gB (σ:St):Option XB :=
  match nth σ.tmps 0,nth σ.tmps 1,nth σ.tmps 6,σ.heap with
  | .view .live l,.int .i64 n,.int .i64 i,[(_,.rows .live _ o)]=>some ((l,n,o),i)
  | .view .live l,.int .i64 n,.lit .i64 i,[(_,.rows .live _ o)]=>some ((l,n,o),i)
  | _,_,_,_=>none
def nxtRB (x:List Fu.Live × Int × List Fu.Live) (i:Int):List Fu.Live × Int × List Fu.Live:=(x.1,x.2.1,x.2.2 ++ [beginL x.2.1 (rd .live x.1 i)])
def okRB (x:List Fu.Live × Int × List Fu.Live) (i:Int):Prop:=okB x.2.1 (rd .live x.1 i)∧(x.2.2.length + 1) * 136≤140737488355328
def LB:LoopCon:=boundF 0 (fB sB) TB gB (fun x=>x.1.length) okRB nxtRB EB
theorem lB (hs:SubOf c116.P 94 (.loop (loopAt c116.P 94 3))):SoundLoop c116 (loopAt c116.P 94 3) LB :=
  bound_fold (C:=c116) (g:=94) (l:=3) c116_good 60 0 _ _ (weak_fB sB) (weak_fB eB) hs TB gB (fun x=>x.1.length) okRB nxtRB EB
    (fun _=>by intro h; cases h) (fun _ _=>rfl)
    (fun x i h0 hi hm hok=>.of_eq (bB x i) (by
      unfold maxI64 at hm
      obtain ⟨h1,h2⟩:=hok
      rw [wrap_fits (n:=i + 1) (by omega) (by omega)]
      refine (Tree.out_ite_true (decide_eq_true hi)).2 ⟨⟨h0,hi⟩,?_⟩
      unfold nxtRB
      cases ha:decide ((rd .live x.1 i).At≤x.2.1) with
      | true =>
        have ha':=of_decide_eq_true ha
        rw [begunW_eq h1 (decide_eq_false (by omega))]
        exact (Tree.out_ite_true rfl).2 ⟨by rw [List.length_append]; exact h2,rfl⟩
      | false =>
        have ha':=of_decide_eq_false ha
        rw [beginL_stay (decide_eq_true (by omega))]
        exact (Tree.out_ite_false rfl).2 ⟨by rw [List.length_append]; exact h2,rfl⟩))
    (fun x i hi=>.of_eq (bB x i) ((Tree.out_ite_false (decide_eq_false (by omega))).2 rfl))
noncomputable def c117:Cfg:=c116.addLoop 94 3 LB
theorem c117_good:GoodCfg c117:=c116_good.addLoop (by unfold OneLoop; kernel_rfl) lB
def rbeginT (l:List Fu.Live) (now:Int):Tree (AV × List Blk) :=
  .asrt (0 = 0∧TB ((l,now,[]),0) = TB ((l,now,[]),0)) (.asrt (0≤(0:Int)∧(l.length:Int)≤maxI64∧okI nxtRB (fun _ _=>(none:Option Unit)) okRB ((l.length:Int) - 0).toNat (l,now,[]) 0)
    (.ret (.own 0,[.rows .live 60 (foldI nxtRB ((l.length:Int) - 0).toNat (l,now,[]) 0).2.2])))
theorem fRBegin (l:List Fu.Live) (now:Int):callC c117 60 94 [.view .live l,.int .i64 now] = rbeginT l now:=by kernel_rfl
theorem foldRB {l : List Fu.Live} {now : Int} (hl : l.length * 136 ≤ 140737488355328) (h : ∀ y ∈ l, okB now y) (n : Nat) : ∀ (out : List Fu.Live) (i : Int), 0 ≤ i → i + n = l.length → out.length + n = l.length →
    foldI nxtRB n (l,now,out) i = (l,now,out ++ (l.drop i.toNat).map (beginL now))∧okI nxtRB (fun _ _=>(none:Option Unit)) okRB n (l,now,out) i:=by
  induction n with
  | zero =>
    intro out i h0 h1 h2
    have e:l.drop i.toNat = []:=List.drop_eq_nil_of_le (by omega)
    rw [e]
    exact ⟨by simp [foldI],trivial⟩
  | succ n ih =>
    intro out i h0 h1 h2
    have hr:=drop_rd (r:=.live) h0 (show i < (l.length:Int) by omega)
    obtain ⟨k1,k2⟩:=ih (out ++ [beginL now (rd .live l i)]) (i + 1) (by omega) (by omega) (by rw [List.length_append]; simp only [List.length_cons,List.length_nil]; omega)
    have hok:okRB (l,now,out) i:=⟨h _ (rd_mem h0 (by omega)),by show (out.length + 1) * 136≤140737488355328; omega⟩
    refine ⟨?_,hok,fun _=>k2⟩
    unfold foldI
    refine k1.trans ?_
    rw [hr,List.map_cons,List.append_assoc]
    rfl
theorem rbeginT_rez {l:List Fu.Live} {now:Int} (h:okBs (l,now)):Rez (rbeginT l now) (.own 0,[.rows .live 60 (beginAll l now)]):=by
  obtain ⟨h1,h2⟩:=h
  have h1':(l.length:Int) * 136≤140737488355328:=h1
  have e:((l.length:Int) - 0).toNat = l.length:=by omega
  obtain ⟨k1,k2⟩:=foldRB (l:=l) (now:=now) (by omega) h2 l.length [] 0 (Int.le_refl _) (by omega) (by simp)
  unfold rbeginT
  rw [e]
  refine .asrt ⟨rfl,rfl⟩ (.asrt ⟨Int.le_refl _,by unfold maxI64; omega,k2⟩ (.ret (.refl _) ?_))
  rw [k1]
  rfl
theorem conRLBegin_valid:ValidCon c117.P 94 conBegin:=resCon_valid c117_good 60 (by kernel_rfl) fun x h=>⟨_,fRBegin x.1 x.2,rbeginT_rez h⟩
noncomputable def c118:Cfg:=c117.addCon 94 conBegin
theorem c118_good:GoodCfg c118:=c117_good.addCon conRLBegin_valid (by kernel_rfl)
end Go.Fx
namespace Go.Fx
open Go Go.Proofs
abbrev AC:=List Fu.Live × Int × Bool
def TC (x:AC × Int):St:=⟨puts (J 72) [(0,.view .live x.1.1),(3,.int .i64 x.1.2.1),(4,.bool x.1.2.2),(5,.int .i64 x.2)],[],0⟩
def sC:List Sh:=sets (Js 72) [(0,.keep),(3,.keep),(4,.bool),(5,.int)]
def eC:List Sh:=sets (Js 72) [(0,.keep),(3,.keep),(4,.bool)]
def EC (x:AC):Ex × St:=(.exit 2,⟨puts (J 72) [(0,.view .live x.1),(3,.int .i64 x.2.1),(4,.bool x.2.2)],[],0⟩)
def beats (l:List Fu.Live) (i k:Int):Bool:=mustJ (jobAt l k) && (decide ((jobAt l k).Due < (jobAt l i).Due) || (jobAt l k).Due == (jobAt l i).Due && decide (k < i))
theorem bC (x : AC) (k : Int) : roundN c118 60 93 (loopAt c118.P 93 6) (norm2 0 [] [] sC) (norm2 0 [] [] eC) (TC (x, k)) =
    .ite (decide (k < x.1.length) && x.2.2) (.asrt (0≤k∧k < x.1.length) (.asrt (smallC (jobAt x.1 k)) (.asrt (mustJ (jobAt x.1 k) = true→0≤k∧k < x.1.length) (.asrt (mustJ (jobAt x.1 k) = true→0≤x.2.1∧x.2.1 < x.1.length)
      (.asrt (mustJ (jobAt x.1 k) = true→decide ((jobAt x.1 k).Due < (jobAt x.1 x.2.1).Due) = false→0≤k∧k < x.1.length) (.asrt (mustJ (jobAt x.1 k) = true→decide ((jobAt x.1 k).Due < (jobAt x.1 x.2.1).Due) = false→0≤x.2.1∧x.2.1 < x.1.length)
        (.ret (.normal,TC ((x.1,x.2.1,!beats x.1 x.2.1 k && x.2.2),IntKind.i64.wrap (k + 1)))))))))) (.ret (EC x)):=by kernel_rfl
def gC (σ:St):Option (AC × Int) :=
  match nth σ.tmps 0,nth σ.tmps 3,nth σ.tmps 4,nth σ.tmps 5 with
  | .view .live l,.int .i64 i,.bool b,.int .i64 k=>some ((l,i,b),k)
  | _,_,_,_=>none
def nxtC (x:AC) (k:Int):AC:=(x.1,x.2.1,!beats x.1 x.2.1 k && x.2.2)
def okC (x:AC) (k:Int):Prop:=smallC (jobAt x.1 k)∧0≤x.2.1∧x.2.1 < x.1.length
def LC:LoopCon:=boundF 0 (norm2 0 [] [] sC) TC gC (fun x=>x.1.length) okC nxtC EC
theorem nxtC_false (k:Nat):∀ (x:AC) (i:Int),x.2.2 = false→foldI nxtC k x i = x:=by
  induction k with
  | zero=>intro _ _ _; rfl
  | succ k ih =>
    intro x i h
    have e:nxtC x i = x:=by
      obtain ⟨l,j,b⟩:=x
      simp only at h
      subst h
      unfold nxtC
      simp
    unfold foldI
    rw [e]
    exact ih x (i + 1) h
theorem lC (hs:SubOf c118.P 93 (.loop (loopAt c118.P 93 6))):SoundLoop c118 (loopAt c118.P 93 6) LC :=
  while_fold (C:=c118) (g:=93) (l:=6) c118_good 60 0 _ _ (Weak.norm2 0 [] [] sC) (Weak.norm2 0 [] [] eC) hs TC gC (fun x=>x.1.length) (fun x _=>x.2.2) okC nxtC EC
    (fun _=>by intro h; cases h) (fun _ _=>rfl)
    (fun x k h0 hk hm hok hc=>.of_eq (bC x k) (by
      unfold maxI64 at hm
      obtain ⟨h1,h2⟩:=hok
      rw [wrap_fits (n:=k + 1) (by omega) (by omega),decide_eq_true hk]
      refine (Tree.out_ite_true hc).2 ⟨⟨h0,hk⟩,h1,fun _=>⟨h0,hk⟩,fun _=>h2,fun _ _=>⟨h0,hk⟩,fun _ _=>h2,rfl⟩))
    (fun x k h=>.of_eq (bC x k) ((Tree.out_ite_false (by
      rcases h with h | h
      · rw [decide_eq_false (by omega)]; rfl
      · rw [h,Bool.and_false])).2 rfl))
    (fun x i k h=>nxtC_false k x i h)
noncomputable def c119:Cfg:=c118.addLoop 93 6 LC
theorem c119_good:GoodCfg c119:=c118_good.addLoop (by unfold OneLoop; kernel_rfl) lC
def inC (l:List Fu.Live) (i:Int):AC:=foldI nxtC ((l.length:Int) - 0).toNat (l,i,mustJ (jobAt l i)) 0
def TG (x:List Fu.Live × Int):St:=⟨puts (J 72) [(0,.view .live x.1),(3,.int .i64 x.2)],[],0⟩
def sG:List Sh:=sets (Js 72) [(0,.keep),(3,.int)]
def eG:List Sh:=sets (Js 72) [(2,.keep)]
def RG (i:Int):Ex × St:=(.ret,⟨puts (J 72) [(2,.int .i64 i)],[],0⟩)
theorem bG (l : List Fu.Live) (i : Int) : roundN c119 60 93 (loopAt c119.P 93 2) (norm2 0 [] [] sG) (norm2 0 [] [] eG) (TG (l, i)) =
    .ite (decide (i < l.length)) (.asrt (0≤i∧i < l.length) (.asrt (smallC (jobAt l i)) (.asrt (0 = 0∧TC ((l,i,mustJ (jobAt l i)),0) = TC ((l,i,mustJ (jobAt l i)),0)) (.asrt (0≤(0:Int)∧(l.length:Int)≤maxI64∧okI nxtC (fun _ _=>(none:Option Unit)) okC ((l.length:Int) - 0).toNat (l,i,mustJ (jobAt l i)) 0)
      (.ite (inC l i).2.2 (.ret (RG (inC l i).2.1)) (.ret (.normal,TG ((inC l i).1,IntKind.i64.wrap ((inC l i).2.1 + 1)))))))))
      (.ret (.exit 0,⟨puts (J 72) [],[],0⟩)):=by kernel_rfl
def gG (σ:St):Option (List Fu.Live × Int) :=
  match nth σ.tmps 0,nth σ.tmps 3 with
  | .view .live l,.int .i64 i=>some (l,i)
  | _,_=>none
def brkG (l:List Fu.Live) (i:Int):Option Int:=bif (inC l i).2.2 then some i else none
def LG:LoopCon:=boundB 0 (norm2 0 [] [] sG) TG gG (fun l=>l.length) (fun l _=>okF l) (fun l _=>l) brkG 0 RG (fun _=>(.exit 0,⟨puts (J 72) [],[],0⟩))
theorem foldC {l:List Fu.Live} {i:Int} (n:Nat):∀ (b:Bool) (k:Int),(foldI nxtC n (l,i,b) k).1 = l∧(foldI nxtC n (l,i,b) k).2.1 = i∧((foldI nxtC n (l,i,b) k).2.2 = true↔b = true∧∀ j,k≤j→j < k + n→beats l i j = false):=by
  induction n with
  | zero=>exact fun b k=>⟨rfl,rfl,⟨fun h=>⟨h,fun j h1 h2=>by omega⟩,fun h=>h.1⟩⟩
  | succ n ih =>
    intro b k
    obtain ⟨k1,k2,k3⟩:=ih (!beats l i k && b) (k + 1)
    refine ⟨k1,k2,?_⟩
    show (foldI nxtC n (l,i,!beats l i k && b) (k + 1)).2.2 = true↔_
    rw [k3]
    constructor
    · rintro ⟨h1,h2⟩
      rw [Bool.and_eq_true] at h1
      refine ⟨h1.2,fun j h3 h4=>?_⟩
      rcases Int.lt_or_eq_of_le h3 with h5 | rfl
      · exact h2 j (by omega) (by omega)
      · simpa using h1.1
    · rintro ⟨h1,h2⟩
      refine ⟨?_,fun j h3 h4=>h2 j (by omega) (by omega)⟩
      rw [h1,h2 k (Int.le_refl _) (by omega)]
      rfl
theorem okI_C {l:List Fu.Live} {i:Int} (h:okF l) (h0:0≤i) (h1:i < l.length) (n:Nat):∀ (b:Bool) (k:Int),0≤k→k + n = l.length→okI nxtC (fun _ _=>(none:Option Unit)) okC n (l,i,b) k:=by
  induction n with
  | zero=>intro _ _ _ _; trivial
  | succ n ih =>
    intro b k hk hn
    have hok:okC (l,i,b) k:=⟨h.2 _ (rd_mem hk (by omega)),h0,h1⟩
    exact ⟨hok,fun _=>ih _ (k + 1) (by omega) (by omega)⟩
theorem lG (hs:SubOf c119.P 93 (.loop (loopAt c119.P 93 2))):SoundLoop c119 (loopAt c119.P 93 2) LG :=
  bound_loop (C:=c119) (g:=93) (l:=2) c119_good 60 0 _ _ (Weak.norm2 0 [] [] sG) (Weak.norm2 0 [] [] eG) hs TG gG (fun l=>l.length) (fun l _=>okF l) (fun l _=>l) brkG 0 RG (fun _=>(.exit 0,⟨puts (J 72) [],[],0⟩))
    (fun _=>by intro h; cases h) (fun _=>by intro h; cases h) (fun _ _=>rfl)
    (fun l i h0 hi hm hok=>.of_eq (bG l i) (by
      have hl:=hok.1
      have e:((l.length:Int) - 0).toNat = l.length:=by omega
      obtain ⟨k1,k2,k3⟩:=foldC (l:=l) (i:=i) ((l.length:Int) - 0).toNat (mustJ (jobAt l i)) 0
      have k1:(inC l i).1 = l:=k1
      have k2:(inC l i).2.1 = i:=k2
      rw [k1,k2,wrap_fits (n:=i + 1) (by omega) (by omega)]
      refine (Tree.out_ite_true (decide_eq_true hi)).2 ⟨⟨h0,hi⟩,hok.2 _ (rd_mem h0 hi),⟨rfl,rfl⟩,⟨Int.le_refl _,hm,okI_C hok h0 hi _ _ 0 (Int.le_refl _) (by omega)⟩,?_⟩
      unfold brkG
      cases hb:(inC l i).2.2 with
      | true=>exact (Tree.out_ite_true rfl).2 rfl
      | false=>exact (Tree.out_ite_false rfl).2 rfl))
    (fun l i hi=>.of_eq (bG l i) ((Tree.out_ite_false (decide_eq_false (by omega))).2 rfl))
noncomputable def c120:Cfg:=c119.addLoop 93 2 LG
theorem c120_good:GoodCfg c120:=c119_good.addLoop (by unfold OneLoop; kernel_rfl) lG
def rfirstT (l:List Fu.Live):Tree (AV × List Blk) :=
  .asrt (0 = 0∧TG (l,0) = TG (l,0)) (.asrt (0≤(0:Int)∧(l.length:Int)≤maxI64∧okI (fun l _=>l) brkG (fun l _=>okF l) ((l.length:Int) - 0).toNat l 0)
    (optT 0 (brkI (fun l _=>l) brkG ((l.length:Int) - 0).toNat l 0) (fun i=>.ret (.int .i64 i,[])) (.ret (.lit .i64 (-1),[]))))
theorem fRFirst (l:List Fu.Live):callC c120 60 93 [.view .live l] = rfirstT l:=by kernel_rfl
theorem inC_iff {l:List Fu.Live} {i:Int}:(inC l i).2.2 = true↔mustJ (jobAt l i) = true∧∀ j:Int,0≤j→j < l.length→beats l i j = false:=by
  obtain ⟨_,_,k3⟩:=foldC (l:=l) (i:=i) ((l.length:Int) - 0).toNat (mustJ (jobAt l i)) 0
  refine k3.trans ⟨fun h=>⟨h.1,fun j h1 h2=>h.2 j h1 (by omega)⟩,fun h=>⟨h.1,fun j h1 h2=>h.2 j h1 (by omega)⟩⟩
theorem inC_first {l:List Fu.Live} {i:Int} (h0:0≤i) (h1:i < l.length) (h:(inC l i).2.2 = true):firstL l = i:=by
  obtain ⟨h2,h3⟩:=inC_iff.1 h
  refine firstL_eq (.inr ⟨h0,h1,h2,fun j k0 k1 hm=>?_⟩)
  have h4:=h3 j k0 k1
  unfold beats at h4
  rw [hm,Bool.true_and] at h4
  simp only [Bool.or_eq_false_iff,decide_eq_false_iff_not,Bool.and_eq_false_iff,beq_eq_false_iff_ne] at h4
  omega
theorem first_inC {l:List Fu.Live} (h:firstL l≠-1):(inC l (firstL l)).2.2 = true:=by
  rcases firstL_spec l with ⟨h1,_⟩ | ⟨h1,h2,h3,h4⟩
  · exact absurd h1 h
  · refine inC_iff.2 ⟨h3,fun j k0 k1=>?_⟩
    unfold beats
    cases hm:mustJ (jobAt l j) with
    | false=>rfl
    | true =>
      have:=h4 j k0 k1 hm
      rw [Bool.true_and]
      simp only [Bool.or_eq_false_iff,decide_eq_false_iff_not,Bool.and_eq_false_iff,beq_eq_false_iff_ne]
      omega
theorem brkI_at {X β:Type} {brk:X→Int→Option β} {x:X} (n:Nat):∀ (i:Int) (b:β),brkI (fun x _=>x) brk n x i = some b→∃ j,i≤j∧j < i + n∧brk x j = some b:=by
  induction n with
  | zero=>intro i b h; cases h
  | succ n ih =>
    intro i b h
    unfold brkI at h
    cases hb:brk x i with
    | some c =>
      rw [hb] at h
      exact ⟨i,Int.le_refl _,by omega,hb.trans h⟩
    | none =>
      rw [hb] at h
      obtain ⟨j,k1,k2,k3⟩:=ih (i + 1) b h
      exact ⟨j,by omega,by omega,k3⟩
theorem rfirstT_rez {l:List Fu.Live} (h:okF l):Rez (rfirstT l) (.int .i64 (firstL l),[]):=by
  have hl:=h.1
  refine .asrt ⟨rfl,rfl⟩ (.asrt ⟨Int.le_refl _,by unfold maxI64; omega,okI_idA _ _ fun _ _ _=>h⟩ ?_)
  cases hb:brkI (fun l _=>l) brkG ((l.length:Int) - 0).toNat l 0 with
  | some b =>
    refine .itet rfl (.ret ?_ rfl)
    obtain ⟨j,k1,k2,k3⟩:=brkI_at _ _ _ hb
    unfold brkG at k3
    cases hc:(inC l j).2.2 with
    | false=>rw [hc] at k3; cases k3
    | true =>
      rw [hc] at k3
      cases k3
      exact .eq (by rw [inC_first k1 (by omega) hc]; rfl)
  | none =>
    refine .itee rfl (.ret (.lit ?_) rfl)
    have h1:=(brkI_idA _ _).1 hb
    rcases firstL_range l with h2 | ⟨h2,h3⟩
    · exact h2.symm
    · have h4:=h1 (firstL l) h2 (by omega)
      unfold brkG at h4
      rw [first_inC (by omega)] at h4
      cases h4
theorem conRFirst_valid:ValidCon c120.P 93 conFirst:=flatCon_valid c120_good 60 (by kernel_rfl) fun l h=>⟨_,fRFirst l,rfirstT_rez h⟩
noncomputable def c121:Cfg:=c120.addQuiet 93 conFirst
theorem c121_good:GoodCfg c121:=c120_good.addQuiet conRFirst_valid flatCon_quiet
theorem fRIdle (l:List Fu.Live):callC c121 60 68 [.view .live l] = .asrt (okF l) (.ret (.bool (decide (firstL l < 0)),[])):=by kernel_rfl
theorem idle_lt (l:List Fu.Live):decide (firstL l < 0) = idleL l:=by
  unfold idleL
  rcases firstL_range l with h | h
  · rw [h]; rfl
  · rw [decide_eq_false (by omega)]; symm; simp; omega
theorem conRIdle_valid:ValidCon c121.P 68 conIdle:=flatCon_valid c121_good 60 (by kernel_rfl) fun l h=>⟨_,fRIdle l,.asrt h (.ret (.eq (by rw [idle_lt])) rfl)⟩
noncomputable def c122:Cfg:=c121.addQuiet 68 conIdle
theorem c122_good:GoodCfg c122:=c121_good.addQuiet conRIdle_valid flatCon_quiet
end Go.Fx
namespace Go.Fx
open Go Go.Proofs
def TD (n:Nat) (x:(List Fu.Live × Int × Bool) × Int):St:=⟨puts (J 71) [(1,.int .i64 x.1.2.1),(6,.own 0),(10,.bool x.1.2.2),(11,.int .i64 x.2)],[(0,.rows .live 60 x.1.1)],n⟩
def sD:List Sh:=sets (Js 71) [(1,.keep),(6,.keep),(10,.bool),(11,.int)]
def eD:List Sh:=sets (Js 71) [(6,.keep),(10,.bool)]
def ED (n:Nat) (x:List Fu.Live × Int × Bool):Ex × St:=(.exit 0,⟨puts (J 71) [(6,.own 0),(10,.bool x.2.2)],[(0,.rows .live 60 x.1)],n⟩)
def rndD (n : Nat) (x : List Fu.Live × Int × Bool) (i : Int) : Tree (Ex × St) :=
    .ite (decide (i < x.1.length)) (.asrt (0≤i∧i < x.1.length) (.asrt (0≤i∧i < x.1.length) (.asrt (smallC (jobAt x.1 i)) (.asrt (0≤i∧i < x.1.length) (.asrt (0≤i∧i < x.1.length) (.asrt (0≤i∧i < x.1.length) (.asrt (0≤i∧i < x.1.length)
      (.ret (.normal,TD n ((upd .live x.1 i (endL (IntKind.i64.wrap (x.2.1 + 1)) (rd .live x.1 i)),x.2.1,(atF (jobAt x.1 i) (IntKind.i64.wrap (x.2.1 + 1)) == 3 && mustJ (jobAt x.1 i)) || x.2.2),IntKind.i64.wrap (i + 1))))))))))) (.ret (ED n x))
theorem bD1 (x:List Fu.Live × Int × Bool) (i:Int):roundN c122 60 69 (loopAt c122.P 69 8) (norm2 1 [] [0] sD) (norm2 1 [] [0] eD) (TD 1 (x,i)) = rndD 1 x i:=by kernel_rfl
theorem bD2 (x:List Fu.Live × Int × Bool) (i:Int):roundN c122 60 69 (loopAt c122.P 69 8) (norm2 2 [] [0] sD) (norm2 2 [] [0] eD) (TD 2 (x,i)) = rndD 2 x i:=by kernel_rfl
def gD (σ:St):Option ((List Fu.Live × Int × Bool) × Int) :=
  match nth σ.tmps 1,nth σ.tmps 10,nth σ.tmps 11,σ.heap with
  | .int .i64 now,.bool m,.int .i64 i,[(_,.rows .live _ l)]=>some ((l,now,m),i)
  | _,_,_,_=>none
def LD (n:Nat):LoopCon:=boundF n (norm2 n [] [0] sD) (TD n) gD (fun x=>x.1.length) (okM (r:=.live) okE13) (nxtM (r:=.live) fM gM) (ED n)
theorem lDn (n:Nat) (b:∀ x i,roundN c122 60 69 (loopAt c122.P 69 8) (norm2 n [] [0] sD) (norm2 n [] [0] eD) (TD n (x,i)) = rndD n x i) (hs:SubOf c122.P 69 (.loop (loopAt c122.P 69 8))):SoundLoop c122 (loopAt c122.P 69 8) (LD n) :=
  bound_fold (C:=c122) (g:=69) (l:=8) c122_good 60 n _ _ (Weak.norm2 n [] [0] sD) (Weak.norm2 n [] [0] eD) hs (TD n) gD (fun x=>x.1.length) (okM (r:=.live) okE13) (nxtM (r:=.live) fM gM) (ED n)
    (fun _=>by intro h; cases h) (fun x i=>by show ((upd .live x.1 i _).length:Int) = _; rw [upd_len (r:=.live)])
    (fun x i h0 hi hm hok=>.of_eq (b x i) (by
      unfold maxI64 at hm
      have a:0≤i∧i < (x.1.length:Int):=⟨h0,hi⟩
      have h2:nowOK x.2.1:=hok.2.1
      have h3:smallC (jobAt x.1 i):=hok.2.2
      unfold nowOK at h2
      unfold rndD
      rw [wrap_fits (n:=i + 1) (by omega) (by omega),wrap_fits (n:=x.2.1 + 1) (by omega) (by omega),atF_over,Bool.or_comm]
      exact (Tree.out_ite_true (decide_eq_true hi)).2 ⟨a,a,h3,a,a,a,a,rfl⟩))
    (fun x i hi=>.of_eq (b x i) ((Tree.out_ite_false (decide_eq_false (by omega))).2 rfl))
noncomputable def c123:Cfg:=c122.addLoop 69 8 (eitherL 1 (LD 1) (LD 2))
theorem c123_good:GoodCfg c123:=c122_good.addLoop (by unfold OneLoop; kernel_rfl) fun hs=>.either 1 (lDn 1 bD1 hs) (lDn 2 bD2 hs)
def rendPart (n:Nat) (L:List Fu.Live) (now:Int):Tree (AV × List Blk) :=
  .asrt (n = n∧TD n ((L,now,false),0) = TD n ((L,now,false),0)) (.asrt (0≤(0:Int)∧(L.length:Int)≤maxI64∧okI (nxtM (r:=.live) fM gM) (fun _ _=>(none:Option Unit)) (okM (r:=.live) okE13) ((L.length:Int) - 0).toNat (L,now,false) 0)
    (.ret (.tup [.own 0,.bool (foldI (nxtM (r:=.live) fM gM) ((L.length:Int) - 0).toNat (L,now,false) 0).2.2],[.rows .live 60 (foldI (nxtM (r:=.live) fM gM) ((L.length:Int) - 0).toNat (L,now,false) 0).1])))
def rstepPart (B:List Fu.Live) (now:Int):Tree (AV × List Blk) :=
  .asrt (okF B) (.ite (decide (firstL B≥0)) (.asrt (0≤firstL B∧firstL B < B.length) (.asrt (0≤firstL B∧firstL B < B.length) (.asrt (smallC (jobAt B (firstL B))) (.asrt (0≤firstL B∧firstL B < B.length) (.asrt (0≤firstL B∧firstL B < B.length)
    (rendPart 2 (upd .live B (firstL B) { (rd .live B (firstL B)) with J:=stepJ (jobAt B (firstL B)) }) now)))))) (rendPart 1 B now))
theorem fRLStep (l:List Fu.Live) (now:Int):callC c123 60 69 [.view .live l,.int .i64 now] = .asrt (okBs (l,now)) (rstepPart (beginAll l now) now):=by kernel_rfl
theorem rendPart_rez (n:Nat) {L:List Fu.Live} {now:Int} (hn:nowOK now) (hl:(L.length:Int) < 17592186044416) (h:∀ y ∈ L,smallC y.J):Rez (rendPart n L now) (.tup [.own 0,.bool (L.any (missL (now + 1)))],[.rows .live 60 (L.map (endL (now + 1)))]):=by
  have e:((L.length:Int) - 0).toNat = L.length:=by omega
  obtain ⟨k1,k2⟩:=foldM (r:=.live) (f:=fM) (g:=gM) (okE:=okE13) (fun _ _ _=>rfl) (fun _ _ _ h=>h) L (now,false) (fun y hy=>⟨hn,h y hy⟩)
  unfold rendPart
  rw [e]
  refine .asrt ⟨rfl,rfl⟩ (.asrt ⟨by omega,by unfold maxI64; omega,k2⟩ (.ret ?_ ?_))
  · rw [k1,foldl_gM]; exact .eq (by simp)
  · rw [k1]; rfl
theorem rstepPart_rez {B : List Fu.Live} {now : Int} (hn : nowOK now) (hl : (B.length : Int) < 17592186044416) (h : ∀ y ∈ B, smallC y.J) :
    Rez (rstepPart B now) (.tup [.own 0,.bool ((runFirst B).any (missL (now + 1)))],[.rows .live 60 ((runFirst B).map (endL (now + 1)))]):=by
  have hs:=runFirst_small h
  have hlen:=runFirst_len B
  refine .asrt ⟨hl,h⟩ (ite_rez (fun hf=>?_) fun hf=>?_)
  · have h1:firstL B≠-1:=by have:=of_decide_eq_true hf; omega
    have h2:=(firstL_range B).resolve_left h1
    have e:runFirst B = upd .live B (firstL B) { (rd .live B (firstL B)) with J:=stepJ (jobAt B (firstL B)) }:=by
      unfold runFirst
      rw [show (firstL B == -1) = false by simpa using h1]
      rfl
    rw [← e]
    exact .asrt h2 (.asrt h2 (.asrt (h _ (rd_mem h2.1 h2.2)) (.asrt h2 (.asrt h2 (rendPart_rez 2 hn (by omega) hs)))))
  · have h1:firstL B = -1:=by
      have:=of_decide_eq_false hf
      rcases firstL_range B with h1 | h1 <;> omega
    have e:runFirst B = B:=by unfold runFirst; rw [h1]; rfl
    rw [e]
    exact rendPart_rez 1 hn hl h
theorem conRLStep_valid:ValidCon c123.P 69 conLStep:=resCon_valid c123_good 60 (by kernel_rfl) fun x h=>⟨_,fRLStep x.1 x.2,.asrt h.1 (rstepPart_rez h.2.1 (by
  have:=h.1.1
  unfold boundL at this
  have e:(beginAll x.1 x.2).length = x.1.length:=List.length_map _
  omega) h.2.2)⟩
theorem conRLStepF_valid:ValidCon c123.P 69 conLStepF:=resCon_frozen conRLStep_valid fun _=>⟨_,rfl,.refl _⟩
noncomputable def c124:Cfg:=c123.addQuiet 69 conLStepF
theorem c124_good:GoodCfg c124:=c123_good.addQuiet conRLStepF_valid flatCon_quiet
abbrev XE:=(List Fu.Live × List Fu.Live) × Int
def TE (x:XE):St:=⟨puts (J 26) [(0,.view .live x.1.1),(1,.view .live x.1.2),(4,.blit false),(5,.int .i64 x.2)],[],0⟩
def sE:List Sh:=sets (Js 26) [(0,.keep),(1,.keep),(4,.keep),(5,.int)]
def eE:List Sh:=sets (Js 26) [(4,.keep)]
def RE:Ex × St:=(.ret,⟨puts (J 26) [(4,.blit false)],[],0⟩)
def EE:Ex × St:=(.exit 0,⟨puts (J 26) [(4,.blit false)],[],0⟩)
def eqLv (y x:Fu.Live):Bool :=
  (y.S.C == x.S.C && (y.S.T == x.S.T && (y.S.Max == x.S.Max && (y.S.M == x.S.M && (y.S.K == x.S.K && y.S.E == x.S.E)))) && (y.J.On == x.J.On && (y.J.J == x.J.J && (y.J.Rel == x.J.Rel && (y.J.Due == x.J.Due && (y.J.Mand == x.J.Mand && (y.J.C == x.J.C && (y.J.D == x.J.D && y.J.Ran == x.J.Ran)))))) && (y.P == x.P && (y.At == x.At && y.N == x.N))))
theorem bE (x : List Fu.Live × List Fu.Live) (i : Int) : roundN c124 60 13 (loopAt c124.P 13 4) (norm2 0 [] [] sE) (norm2 0 [] [] eE) (TE (x, i)) =
    .ite (decide (i < x.1.length)) (.asrt (0≤i∧i < x.1.length) (.asrt (0≤i∧i < x.2.length) (.ite (!eqLv (rd .live x.1 i) (rd .live x.2 i)) (.ret RE) (.ret (.normal,TE (x,IntKind.i64.wrap (i + 1))))))) (.ret EE):=by kernel_rfl
def gE (σ:St):Option XE :=
  match nth σ.tmps 0,nth σ.tmps 1,nth σ.tmps 5 with
  | .view .live a,.view .live b,.int .i64 i=>some ((a,b),i)
  | _,_,_=>none
def brkE (x:List Fu.Live × List Fu.Live) (i:Int):Option Unit:=bif !eqLv (rd .live x.1 i) (rd .live x.2 i) then some () else none
def LE:LoopCon:=boundB 0 (norm2 0 [] [] sE) TE gE (fun x=>x.1.length) (fun x i=>i < x.2.length) (fun x _=>x) brkE () (fun _=>RE) (fun _=>EE)
theorem lE (hs:SubOf c124.P 13 (.loop (loopAt c124.P 13 4))):SoundLoop c124 (loopAt c124.P 13 4) LE :=
  bound_loop (C:=c124) (g:=13) (l:=4) c124_good 60 0 _ _ (Weak.norm2 0 [] [] sE) (Weak.norm2 0 [] [] eE) hs TE gE (fun x=>x.1.length) (fun x i=>i < x.2.length) (fun x _=>x) brkE () (fun _=>RE) (fun _=>EE)
    (fun _=>by intro h; cases h) (fun _=>by intro h; cases h) (fun _ _=>rfl)
    (fun x i h0 hi hm hok=>.of_eq (bE x i) (by
      unfold maxI64 at hm
      rw [wrap_fits (by omega) (by omega)]
      refine (Tree.out_ite_true (decide_eq_true hi)).2 ⟨⟨h0,hi⟩,⟨h0,hok⟩,?_⟩
      unfold brkE
      cases h:(!eqLv (rd .live x.1 i) (rd .live x.2 i)) with
      | true=>exact (Tree.out_ite_true rfl).2 rfl
      | false=>exact (Tree.out_ite_false rfl).2 rfl))
    (fun x i hi=>.of_eq (bE x i) ((Tree.out_ite_false (decide_eq_false (by omega))).2 rfl))
noncomputable def c125:Cfg:=c124.addLoop 13 4 LE
theorem c125_good:GoodCfg c125:=c124_good.addLoop (by unfold OneLoop; kernel_rfl) lE
def sameLT (a b:List Fu.Live):Tree (AV × List Blk) :=
  .ite ((a.length:Int) != (b.length:Int)) noB (.asrt (0 = 0∧TE ((a,b),0) = TE ((a,b),0)) (.asrt (0≤(0:Int)∧(a.length:Int)≤maxI64∧okI (fun x _=>x) brkE (fun (x:List Fu.Live × List Fu.Live) (i:Int)=>i < x.2.length) ((a.length:Int) - 0).toNat (a,b) 0)
    (optT () (brkI (fun x _=>x) brkE ((a.length:Int) - 0).toNat (a,b) 0) (fun _=>.ret (.blit false,[])) (.ret (.blit true,[])))))
theorem fSame (a b:List Fu.Live):callC c125 60 13 [.view .live a,.view .live b] = sameLT a b:=by kernel_rfl
theorem eqLv_self (x:Fu.Live):eqLv x x = true:=by simp [eqLv]
def conSame1:Con:=flatCon (d2 (dView .live) (dView .live)) (fun x=>x.1 = x.2∧smallL x.1) fun _=>.bool true
theorem sameLT_rez {a:List Fu.Live} (h:smallL a):Rez (sameLT a a) (.bool true,[]):=by
  have h':(a.length:Int) < 17592186044416:=h
  refine ite_rez (fun hn=>by simp at hn) fun _=>.asrt ⟨rfl,rfl⟩ (.asrt ⟨Int.le_refl _,by unfold maxI64; omega,okI_idA _ _ fun j k0 k1=>by show j < (a.length:Int); omega⟩ ?_)
  have:brkI (fun x _=>x) brkE ((a.length:Int) - 0).toNat (a,a) 0 = none:=(brkI_idA _ _).2 fun j k0 k1=>by
    unfold brkE
    rw [eqLv_self]
    rfl
  rw [this]
  exact .itee rfl (.ret (.blit rfl) rfl)
theorem conSame_valid:ValidCon c125.P 13 conSame1:=flatCon_valid c125_good 60 (by kernel_rfl) fun x h=>⟨_,fSame x.1 x.2,by rw [← h.1]; exact sameLT_rez h.2⟩
noncomputable def c126:Cfg:=c125.addQuiet 13 conSame1
theorem c126_good:GoodCfg c126:=c125_good.addQuiet conSame_valid flatCon_quiet
end Go.Fx
namespace Go.Fx
open Go Go.Proofs
abbrev X16:=(List Fu.Live × Int) × Int
def T16 (x:X16):St:=⟨puts (J 41) [(0,.view .live x.1.1),(1,.int .i64 x.1.2),(7,.int .i64 x.2)],[],0⟩
def s16:List Sh:=sets (Js 41) [(0,.keep),(1,.keep),(7,.int)]
def e16:List Sh:=sets (Js 41) [(1,.keep),(4,.keep),(5,.bool)]
def R16 (b:Int × Int × Bool):Ex × St:=(.ret,⟨puts (J 41) [(1,.int .i64 b.1),(4,.int .i64 b.2.1),(5,.bool b.2.2)],[],0⟩)
def E16 (x:List Fu.Live × Int):Ex × St:=(.exit 0,⟨puts (J 41) [(1,.int .i64 x.2)],[],0⟩)
theorem b16 (x : List Fu.Live × Int) (i : Int) : roundN c126 60 39 (loopAt c126.P 39 5) (norm2 0 [] [] s16) (norm2 0 [] [] e16) (T16 (x, i)) =
    .ite (decide (i < 2000)) (.asrt (okF x.1) (.ite (idleL x.1) (.ret (R16 (x.2,IntKind.i64.wrap (x.2 + i),true))) (.asrt (okSt (x.1,IntKind.i64.wrap (x.2 + i))) (.ite (missedL x.1 (IntKind.i64.wrap (x.2 + i)))
      (.ret (R16 (x.2,IntKind.i64.wrap (x.2 + i),false))) (.ret (.normal,T16 ((stepL x.1 (IntKind.i64.wrap (x.2 + i)),x.2),IntKind.i64.wrap (i + 1)))))))) (.ret (E16 x)):=by kernel_rfl
def g16 (σ:St):Option X16 :=
  match nth σ.tmps 0,nth σ.tmps 1,nth σ.tmps 7 with
  | .view .live l,.int .i64 now,.int .i64 i=>some ((l,now),i)
  | _,_,_=>none
def L16:LoopCon:=boundB 0 (norm2 0 [] [] s16) T16 g16 (fun _=>2000) okK nxtK brkK (0,0,false) R16 E16
theorem l16 (hs:SubOf c126.P 39 (.loop (loopAt c126.P 39 5))):SoundLoop c126 (loopAt c126.P 39 5) L16 :=
  bound_loop (C:=c126) (g:=39) (l:=5) c126_good 60 0 _ _ (Weak.norm2 0 [] [] s16) (Weak.norm2 0 [] [] e16) hs T16 g16 (fun _=>2000) okK nxtK brkK (0,0,false) R16 E16
    (fun _=>by intro h; cases h) (fun _=>by intro h; cases h) (fun _ _=>rfl)
    (fun x i h0 hi hm hok=>.of_eq (b16 x i) (by
      have hi:i < 2000:=hi
      obtain ⟨k1,⟨⟨k2,k3⟩,_⟩,k4⟩:=hok
      rw [wrap_fits (n:=x.2 + i) (by omega) (by omega),wrap_fits (n:=i + 1) (by omega) (by omega)]
      refine (Tree.out_ite_true (decide_eq_true hi)).2 ⟨k1,?_⟩
      unfold brkK
      cases hd:idleL x.1 with
      | true=>exact (Tree.out_ite_true rfl).2 rfl
      | false =>
        refine (Tree.out_ite_false rfl).2 ⟨k4 hd,?_⟩
        cases hm:missedL x.1 (x.2 + i) with
        | true=>exact (Tree.out_ite_true rfl).2 rfl
        | false=>exact (Tree.out_ite_false rfl).2 rfl))
    (fun x i hi=>.of_eq (b16 x i) ((Tree.out_ite_false (decide_eq_false (by have hi:(2000:Int)≤i:=hi; omega))).2 rfl))
noncomputable def c127:Cfg:=c126.addLoop 39 5 L16
theorem c127_good:GoodCfg c127:=c126_good.addLoop (by unfold OneLoop; kernel_rfl) l16
def rlookT (l:List Fu.Live) (now:Int):Tree (AV × List Blk) :=
  .asrt (smallL l) (.ite (!mayL l now) (.ret (.tup [.lit .i64 0,.blit false],[])) (.asrt (0 = 0∧T16 ((l,now),0) = T16 ((l,now),0)) (.asrt (0≤(0:Int)∧(2000:Int)≤maxI64∧okI nxtK brkK okK ((2000:Int) - 0).toNat (l,now) 0)
    (optT (0,0,false) (brkI nxtK brkK ((2000:Int) - 0).toNat (l,now) 0) (fun b=>.ret (.tup [.int .i64 b.2.1,.bool b.2.2],[])) (.ret (.tup [.int .i64 (IntKind.i64.wrap ((foldI nxtK ((2000:Int) - 0).toNat (l,now) 0).2 + 2000)),.blit false],[]))))))
theorem fRLook (l:List Fu.Live) (now:Int):callC c127 60 39 [.view .live l,.int .i64 now] = rlookT l now:=by kernel_rfl
theorem rlookT_rez {l:List Fu.Live} {now:Int} (h:smallL l):Rez (rlookT l now) (.tup [.int .i64 (lookL l now).1,.bool (lookL l now).2],[]):=by
  refine .asrt h (ite_rez (fun hm=>?_) fun hm=>?_)
  · have e:lookL l now = (0,false):=by unfold lookL; rw [show mayL l now = false by simpa using hm]; rfl
    rw [e]
    exact .ret (.tup (.cons (.lit rfl) (.cons (.blit rfl) .nil))) rfl
  · have hm:mayL l now = true:=by simpa using hm
    obtain ⟨h1,h2,h3⟩:=mayL_all hm
    have e:lookL l now = lookR 2000 l (now + 0):=by unfold lookL; rw [hm,Int.add_zero]; rfl
    rw [e,lookR_brk now 2000 l 0]
    have e2:((2000:Int) - 0).toNat = 2000:=rfl
    rw [e2]
    refine .asrt ⟨rfl,rfl⟩ (.asrt ⟨Int.le_refl _,by unfold maxI64; omega,okK_all h2 h3 2000 l 0 (Int.le_refl _) rfl (by simpa using h1)⟩ ?_)
    cases hb:brkI nxtK brkK 2000 (l,now) 0 with
    | some b=>exact .itet rfl (.ret (.refl _) rfl)
    | none =>
      refine .itee rfl (.ret (.tup (.cons (.eq ?_) (.cons (.blit rfl) .nil))) rfl)
      rw [nxtK_snd]
      simp only
      rw [wrap_fits (by omega) (by omega),Int.add_zero]
      rfl
theorem conRLook_valid:ValidCon c127.P 39 conLook:=flatCon_valid c127_good 60 (by kernel_rfl) fun x h=>⟨_,fRLook x.1 x.2,rlookT_rez h⟩
noncomputable def c128:Cfg:=c127.addQuiet 39 conLook
theorem c128_good:GoodCfg c128:=c127_good.addQuiet conRLook_valid flatCon_quiet
end Go.Fx
