import Derived.Test.YtgefkgmfbmdooaaGreatC1
import Derived.Test.YtgefkgmfbmdooaaGreatFx5
namespace Go.Fx
open Go
def jobAt (l:List Fu.Live) (i:Int):Fu.Job:=(rd .live l i).J
def nxtF (x:List Fu.Live × Int) (i:Int):List Fu.Live × Int :=
  bif mustJ (jobAt x.1 i) && (x.2 == -1 || decide ((jobAt x.1 i).Due < (jobAt x.1 x.2).Due)) then (x.1,i) else x
def firstL (l:List Fu.Live):Int:=(foldI nxtF l.length (l,-1) 0).2
def IsFirst (l:List Fu.Live) (k at':Int):Prop :=
  (at' = -1∧∀ j,0≤j→j < k→mustJ (jobAt l j) = false) ∨
  (0≤at'∧at' < k∧mustJ (jobAt l at') = true∧∀ j,0≤j→j < k→mustJ (jobAt l j) = true→(jobAt l at').Due < (jobAt l j).Due∨((jobAt l at').Due = (jobAt l j).Due∧at'≤j))
theorem isFirst_step {l:List Fu.Live} {k at':Int} (hk:0≤k) (h:IsFirst l k at'):IsFirst l (k + 1) (nxtF (l,at') k).2:=by
  unfold nxtF
  simp only
  cases hm:mustJ (jobAt l k) with
  | false =>
    simp only [Bool.false_and,cond_false]
    rcases h with ⟨h1,h2⟩ | ⟨h1,h2,h3,h4⟩
    · refine .inl ⟨h1,fun j h0 hj=>?_⟩
      rcases Int.lt_or_eq_of_le (show j≤k by omega) with h5 | rfl
      · exact h2 j h0 h5
      · exact hm
    · refine .inr ⟨h1,by omega,h3,fun j h0 hj hmj=>?_⟩
      rcases Int.lt_or_eq_of_le (show j≤k by omega) with h5 | rfl
      · exact h4 j h0 h5 hmj
      · rw [hm] at hmj; cases hmj
  | true =>
    simp only [Bool.true_and]
    rcases h with ⟨h1,h2⟩ | ⟨h1,h2,h3,h4⟩
    · subst h1
      refine .inr ⟨hk,by simp only [beq_self_eq_true,Bool.true_or,cond_true]; omega,hm,fun j h0 hj hmj=>?_⟩
      simp only [beq_self_eq_true,Bool.true_or,cond_true]
      rcases Int.lt_or_eq_of_le (show j≤k by omega) with h5 | rfl
      · rw [h2 j h0 h5] at hmj; cases hmj
      · exact .inr ⟨rfl,Int.le_refl _⟩
    · have hne:(at' == -1) = false:=by simp; omega
      rw [hne,Bool.false_or]
      cases hd:decide ((jobAt l k).Due < (jobAt l at').Due) with
      | true =>
        have hd:=of_decide_eq_true hd
        refine .inr ⟨hk,by simp only [cond_true]; omega,hm,fun j h0 hj hmj=>?_⟩
        simp only [cond_true]
        rcases Int.lt_or_eq_of_le (show j≤k by omega) with h5 | rfl
        · rcases h4 j h0 h5 hmj with h6 | h6 <;> left <;> omega
        · exact .inr ⟨rfl,Int.le_refl _⟩
      | false =>
        have hd:=of_decide_eq_false hd
        refine .inr ⟨h1,by simp only [cond_false]; omega,h3,fun j h0 hj hmj=>?_⟩
        simp only [cond_false]
        rcases Int.lt_or_eq_of_le (show j≤k by omega) with h5 | rfl
        · exact h4 j h0 h5 hmj
        · rcases Int.lt_or_eq_of_le (show (jobAt l at').Due≤(jobAt l j).Due by omega) with h6 | h6
          · exact .inl h6
          · exact .inr ⟨h6,by omega⟩
theorem nxtF_fst (x:List Fu.Live × Int) (i:Int):(nxtF x i).1 = x.1:=by
  unfold nxtF
  cases (mustJ (jobAt x.1 i) && (x.2 == -1 || decide ((jobAt x.1 i).Due < (jobAt x.1 x.2).Due))) <;> rfl
theorem isFirst_fold {l:List Fu.Live}:∀ (n:Nat) (at' k:Int),0≤k→IsFirst l k at'→IsFirst l (k + n) (foldI nxtF n (l,at') k).2∧(foldI nxtF n (l,at') k).1 = l
  | 0,at',k,_,h=>by simpa [foldI] using h
  | n + 1,at',k,hk,h=>by
    have h1:=isFirst_step hk h
    have h2:=isFirst_fold n (nxtF (l,at') k).2 (k + 1) (by omega) h1
    have e:nxtF (l,at') k = (l,(nxtF (l,at') k).2):=Prod.ext (nxtF_fst (l,at') k) rfl
    unfold foldI
    rw [e]
    rw [show k + ((n + 1:Nat):Int) = k + 1 + (n:Int) by omega]
    exact h2
theorem firstL_spec (l:List Fu.Live):IsFirst l l.length (firstL l):=by
  have:=(isFirst_fold (l:=l) l.length (-1) 0 (Int.le_refl _) (.inl ⟨rfl,fun j h0 hj=>by omega⟩)).1
  simpa [firstL] using this
theorem isFirst_unique {l:List Fu.Live} {k a b:Int} (ha:IsFirst l k a) (hb:IsFirst l k b):a = b:=by
  rcases ha with ⟨h1,h2⟩ | ⟨h1,h2,h3,h4⟩
  · rcases hb with ⟨h5,h6⟩ | ⟨h5,h6,h7,h8⟩
    · omega
    · rw [h2 b h5 h6] at h7; cases h7
  · rcases hb with ⟨h5,h6⟩ | ⟨h5,h6,h7,h8⟩
    · rw [h6 a h1 h2] at h3; cases h3
    · rcases h4 b h5 h6 h7 with h | h <;> rcases h8 a h1 h2 h3 with h' | h' <;> omega
theorem firstL_eq {l:List Fu.Live} {a:Int} (h:IsFirst l l.length a):firstL l = a:=isFirst_unique (firstL_spec l) h
def idleL (l:List Fu.Live):Bool:=firstL l == -1
theorem firstL_range (l:List Fu.Live):firstL l = -1∨(0≤firstL l∧firstL l < l.length):=by
  rcases firstL_spec l with h | h
  · exact .inl h.1
  · exact .inr ⟨h.1,h.2.1⟩
def beginAll (l:List Fu.Live) (now:Int):List Fu.Live:=l.map (beginL now)
def runFirst (l:List Fu.Live):List Fu.Live:=bif firstL l == -1 then l else upd .live l (firstL l) { (rd .live l (firstL l)) with J:=stepJ (jobAt l (firstL l)) }
def endL (now:Int) (x:Fu.Live):Fu.Live:={ x with J:=atJ x.J now }
def missL (now:Int) (x:Fu.Live):Bool:=overJ x.J now && mustJ x.J
def stepL (l:List Fu.Live) (now:Int):List Fu.Live:=(runFirst (beginAll l now)).map (endL (now + 1))
def missedL (l:List Fu.Live) (now:Int):Bool:=(runFirst (beginAll l now)).any (missL (now + 1))
end Go.Fx
namespace Go.Fx
open Go Go.Proofs
abbrev X22:=Int × (List Fu.Live × Int) × Int
def T22 (x:X22):St:=⟨puts (J 26) [(1,.ptr 0 0),(3,.ptr 1 0),(4,.fn (.func 111) [] [.ptr 1 0,.ptr 0 0]),(8,.int .i64 x.1),(9,.int .i64 x.2.2)],[(0,.cells [.view .live x.2.1.1]),(1,.cells [.int .i64 x.2.1.2])],2⟩
def s22:List Sh:=sets (Js 26) [(1,.keep),(3,.keep),(4,.keep),(8,.keep),(9,.int)]
def e22:List Sh:=sets (Js 26) [(3,.keep)]
def f22 (σ:St):St:=genBlk 1 [.int] (norm2 2 [] [0,1] s22 σ)
theorem weak_f22 (σ:St):Weak 2 σ (f22 σ):=(Weak.norm2 2 [] [0,1] s22 σ).trans (Weak.genBlk 2 1 [.int] _)
def E22 (x:List Fu.Live × Int):Ex × St:=(.exit 0,⟨puts (J 26) [(3,.ptr 1 0)],[(1,.cells [.int .i64 x.2])],2⟩)
theorem b22 (N : Int) (x : List Fu.Live × Int) (i : Int) : roundN c34 60 82 (loopAt c34.P 82 4) f22 (norm2 2 [] [1] e22) (T22 (N, x, i)) =
    .ite (decide (i < N)) (.asrt (0≤i∧i < x.1.length) (.asrt (smallC (jobAt x.1 i)) (.ite (mustJ (jobAt x.1 i))
      (.asrt ((x.2 == -1) = false→0≤i∧i < x.1.length) (.asrt ((x.2 == -1) = false→0≤x.2∧x.2 < x.1.length) (.ite (x.2 == -1 || decide ((jobAt x.1 i).Due < (jobAt x.1 x.2).Due))
        (.ret (.normal,T22 (N,(x.1,i),IntKind.i64.wrap (i + 1)))) (.ret (.normal,T22 (N,x,IntKind.i64.wrap (i + 1)))))))
      (.ret (.normal,T22 (N,x,IntKind.i64.wrap (i + 1))))))) (.ret (E22 x)):=by kernel_rfl
def g22 (σ:St):Option X22 :=
  match nth σ.tmps 8,nth σ.tmps 9,σ.heap with
  | .int .i64 N,.int .i64 i,[(_,.cells [.view .live l]),(_,.cells [.int .i64 a])]=>some (N,(l,a),i)
  | _,_,_=>none
def ok22 (x:List Fu.Live × Int) (i:Int):Prop:=i < x.1.length∧smallC (jobAt x.1 i)∧(x.2 = -1∨(0≤x.2∧x.2 < x.1.length))
def L22:LoopCon:=countF 2 f22 T22 g22 ok22 nxtF E22
theorem l22 (hs:SubOf c34.P 82 (.loop (loopAt c34.P 82 4))):SoundLoop c34 (loopAt c34.P 82 4) L22 :=
  count_fold (C:=c34) (g:=82) (l:=4) c34_good 60 2 _ _ weak_f22 (Weak.norm2 2 [] [1] e22) hs T22 g22 ok22 nxtF E22 (fun _=>by intro h; cases h)
    (fun N x i h0 hi hm hok=>.of_eq (b22 N x i) (by
      unfold maxI64 at hm
      rw [wrap_fits (by omega) (by omega)]
      refine (Tree.out_ite_true (decide_eq_true hi)).2 ⟨⟨h0,hok.1⟩,hok.2.1,?_⟩
      unfold nxtF
      cases h1:mustJ (jobAt x.1 i) with
      | false=>exact (Tree.out_ite_false rfl).2 rfl
      | true =>
        refine (Tree.out_ite_true rfl).2 ⟨fun _=>⟨h0,hok.1⟩,fun hn=>?_,?_⟩
        · rcases hok.2.2 with h2 | h2
          · rw [h2] at hn; simp at hn
          · exact h2
        · cases h2:(x.2 == -1 || decide ((jobAt x.1 i).Due < (jobAt x.1 x.2).Due)) with
          | true=>exact (Tree.out_ite_true rfl).2 rfl
          | false=>exact (Tree.out_ite_false rfl).2 rfl))
    (fun N x i hi=>.of_eq (b22 N x i) ((Tree.out_ite_false (decide_eq_false (by omega))).2 rfl))
noncomputable def c35:Cfg:=c34.addLoop 82 4 L22
theorem c35_good:GoodCfg c35:=c34_good.addLoop (by unfold OneLoop; kernel_rfl) l22
def firstT (l:List Fu.Live):Tree (AV × List Blk) :=
  .asrt (2 = 2∧T22 ((l.length:Int),(l,-1),0) = T22 ((l.length:Int),(l,-1),0)) (.asrt (0≤(0:Int)∧(l.length:Int)≤maxI64∧okI nxtF (fun _ _=>(none:Option Unit)) ok22 ((l.length:Int) - 0).toNat (l,-1) 0)
    (.ret (.int .i64 (foldI nxtF ((l.length:Int) - 0).toNat (l,-1) 0).2,[])))
theorem fFirst (l:List Fu.Live):callC c35 60 82 [.view .live l] = firstT l:=by kernel_rfl
def okF (l:List Fu.Live):Prop:=(l.length:Int) < 17592186044416∧∀ x ∈ l,smallC x.J
theorem rd_mem {l:List Fu.Live} {i:Int} (h0:0≤i) (h1:i < l.length):rd .live l i ∈ l:=by
  have hlt:i.toNat < l.length:=by omega
  have:rd .live l i = l[i.toNat]:=by simp [rd,hlt]
  rw [this]
  exact List.getElem_mem _
theorem ok22_all {l:List Fu.Live} (h:okF l):∀ (n:Nat) (a k:Int),0≤k→k + n = l.length→(a = -1∨(0≤a∧a < l.length))→okI nxtF (fun _ _=>(none:Option Unit)) ok22 n (l,a) k
  | 0,_,_,_,_,_=>trivial
  | n + 1,a,k,h0,hk,ha=>by
    refine ⟨⟨(show k < (l.length:Int) by omega),h.2 _ (rd_mem h0 (by omega)),ha⟩,fun _=>?_⟩
    have e:nxtF (l,a) k = (l,(nxtF (l,a) k).2):=Prod.ext (nxtF_fst (l,a) k) rfl
    rw [e]
    refine ok22_all h n _ (k + 1) (by omega) (by omega) ?_
    unfold nxtF
    simp only
    cases (mustJ (jobAt l k) && (a == -1 || decide ((jobAt l k).Due < (jobAt l a).Due))) with
    | true=>right; simp only [cond_true]; omega
    | false=>exact ha
theorem firstT_rez {l:List Fu.Live} (h:okF l):Rez (firstT l) (.int .i64 (firstL l),[]):=by
  have e:((l.length:Int) - 0).toNat = l.length:=by omega
  unfold firstT
  rw [e]
  exact .asrt ⟨rfl,rfl⟩ (.asrt ⟨by omega,by unfold maxI64; have:=h.1; omega,ok22_all h _ _ _ (Int.le_refl _) (by omega) (.inl rfl)⟩ (.ret (.refl _) rfl))
def conFirst:Con:=flatCon (d1 (dView .live)) okF fun l=>.int .i64 (firstL l)
theorem conFirst_valid:ValidCon c35.P 82 conFirst:=flatCon_valid c35_good 60 (by kernel_rfl) fun l h=>⟨_,fFirst l,firstT_rez h⟩
noncomputable def c36:Cfg:=c35.addQuiet 82 conFirst
theorem c36_good:GoodCfg c36:=c35_good.addQuiet conFirst_valid flatCon_quiet
def conIdle:Con:=flatCon (d1 (dView .live)) okF fun l=>.bool (idleL l)
theorem fIdle (l:List Fu.Live):callC c36 60 61 [.view .live l] = .asrt (okF l) (.ret (.bool (idleL l),[])):=by kernel_rfl
theorem conIdle_valid:ValidCon c36.P 61 conIdle:=flatCon_valid c36_good 60 (by kernel_rfl) fun l h=>⟨_,fIdle l,.asrt h (.ret (.refl _) rfl)⟩
noncomputable def c37:Cfg:=c36.addQuiet 61 conIdle
theorem c37_good:GoodCfg c37:=c36_good.addQuiet conIdle_valid flatCon_quiet
end Go.Fx
namespace Go.Fx
open Go Go.Proofs
abbrev X18:=Int × (List Fu.Live × Int) × Int
def T18 (x:X18):St:=⟨puts (J 53) [(1,.int .i64 x.2.1.2),(5,.own 0),(10,.own 0),(11,.int .i64 x.1),(12,.int .i64 x.2.2)],[(0,.rows .live 60 x.2.1.1)],1⟩
def s18:List Sh:=sets (Js 53) [(1,.keep),(5,.keep),(10,.keep),(11,.keep),(12,.int)]
def e18:List Sh:=sets (Js 53) [(5,.keep)]
def E18 (x:List Fu.Live × Int):Ex × St:=(.exit 0,⟨puts (J 53) [(5,.own 0)],[(0,.rows .live 60 x.1)],1⟩)
def begunW (now:Int) (x:Fu.Live):Fu.Live:={ x with J:=newJ x.S x.N now (IntKind.i64.wrap (now + x.P)) x.S.C,At:=IntKind.i64.wrap (now + x.P),N:=IntKind.i64.wrap (x.N + 1) }
theorem b18 (N : Int) (x : List Fu.Live × Int) (i : Int) : roundN c37 60 83 (loopAt c37.P 83 3) (norm2 1 [] [0] s18) (norm2 1 [] [0] e18) (T18 (N, x, i)) =
    .ite (decide (i < N)) (.asrt (0≤i∧i < x.1.length) (.asrt (0≤i∧i < x.1.length) (.ite (decide ((rd .live x.1 i).At > x.2)) (.ret (.normal,T18 (N,x,IntKind.i64.wrap (i + 1))))
      (.asrt (0≤i∧i < x.1.length) (.asrt (0≤i∧i < x.1.length) (.ret (.normal,T18 (N,(upd .live x.1 i (begunW x.2 (rd .live x.1 i)),x.2),IntKind.i64.wrap (i + 1))))))))) (.ret (E18 x)):=by kernel_rfl
def g18 (σ:St):Option X18 :=
  match nth σ.tmps 1,nth σ.tmps 11,nth σ.tmps 12,σ.heap with
  | .int .i64 now,.int .i64 N,.int .i64 i,[(_,.rows .live _ l)]=>some (N,(l,now),i)
  | _,_,_,_=>none
def okB (now:Int) (x:Fu.Live):Prop:=nowOK now∧(-1099511627776≤x.P∧x.P≤1099511627776)∧(-1099511627776000≤x.N∧x.N≤1099511627776000)
def keepA {r:RTy} {π:Type} (a:π) (_:r.carrier):π:=a
theorem begunW_eq {now:Int} {x:Fu.Live} (h:okB now x) (ha:decide (x.At > now) = false):begunW now x = beginL now x:=by
  obtain ⟨⟨h1,h2⟩,⟨h3,h4⟩,h5,h6⟩:=h
  have h7:=of_decide_eq_false ha
  unfold begunW beginL
  rw [wrap_fits (by omega) (by omega),wrap_fits (by omega) (by omega),decide_eq_true (show x.At≤now by omega)]
  rfl
theorem beginL_stay {now:Int} {x:Fu.Live} (ha:decide (x.At > now) = true):beginL now x = x:=by
  have h7:=of_decide_eq_true ha
  unfold beginL
  rw [decide_eq_false (show ¬ x.At≤now by omega)]
  rfl
def L18:LoopCon:=countF 1 (norm2 1 [] [0] s18) T18 g18 (okM (r:=.live) okB) (nxtM (r:=.live) beginL keepA) E18
theorem l18 (hs:SubOf c37.P 83 (.loop (loopAt c37.P 83 3))):SoundLoop c37 (loopAt c37.P 83 3) L18 :=
  count_fold (C:=c37) (g:=83) (l:=3) c37_good 60 1 _ _ (Weak.norm2 1 [] [0] s18) (Weak.norm2 1 [] [0] e18) hs T18 g18 (okM (r:=.live) okB) (nxtM (r:=.live) beginL keepA) E18 (fun _=>by intro h; cases h)
    (fun N x i h0 hi hm hok=>.of_eq (b18 N x i) (by
      unfold maxI64 at hm
      rw [wrap_fits (by omega) (by omega)]
      have h1:i < x.1.length:=hok.1
      refine (Tree.out_ite_true (decide_eq_true hi)).2 ⟨⟨h0,h1⟩,⟨h0,h1⟩,?_⟩
      cases ha:decide ((rd .live x.1 i).At > x.2) with
      | true =>
        refine (Tree.out_ite_true rfl).2 ?_
        have e:nxtM (r:=.live) beginL keepA x i = x:=by
          unfold nxtM
          rw [beginL_stay ha,upd_self h0 h1]
          rfl
        rw [e]
        rfl
      | false =>
        refine (Tree.out_ite_false rfl).2 ⟨⟨h0,h1⟩,⟨h0,h1⟩,?_⟩
        rw [begunW_eq hok.2 ha]
        rfl))
    (fun N x i hi=>.of_eq (b18 N x i) ((Tree.out_ite_false (decide_eq_false (by omega))).2 rfl))
noncomputable def c38:Cfg:=c37.addLoop 83 3 L18
theorem c38_good:GoodCfg c38:=c37_good.addLoop (by unfold OneLoop; kernel_rfl) l18
def beginT (l:List Fu.Live) (now:Int):Tree (AV × List Blk) :=
  .asrt (boundL l) (.asrt (1 = 1∧T18 ((l.length:Int),(l,now),0) = T18 ((l.length:Int),(l,now),0)) (.asrt (0≤(0:Int)∧(l.length:Int)≤maxI64∧okI (nxtM (r:=.live) beginL keepA) (fun _ _=>(none:Option Unit)) (okM (r:=.live) okB) ((l.length:Int) - 0).toNat (l,now) 0)
    (.ret (.own 0,[.rows .live 60 (foldI (nxtM (r:=.live) beginL keepA) ((l.length:Int) - 0).toNat (l,now) 0).1]))))
theorem fBegin (l:List Fu.Live) (now:Int):callC c38 60 83 [.view .live l,.int .i64 now] = beginT l now:=by kernel_rfl
def okBs (x:List Fu.Live × Int):Prop:=boundL x.1∧∀ y ∈ x.1,okB x.2 y
def conBegin:Con:=resCon (d2 (dView .live) dInt) okBs fun x=>(.own 0,[.rows .live 60 (beginAll x.1 x.2)])
theorem beginT_rez {l:List Fu.Live} {now:Int} (h:okBs (l,now)):Rez (beginT l now) (.own 0,[.rows .live 60 (beginAll l now)]):=by
  obtain ⟨h1,h2⟩:=h
  have e:((l.length:Int) - 0).toNat = l.length:=by omega
  obtain ⟨k1,k2⟩:=foldM (r:=.live) (f:=beginL) (g:=keepA) (okE:=okB) (fun _ _ _=>rfl) (fun _ _ _ h=>h) l now h2
  unfold beginT
  rw [e]
  refine .asrt h1 (.asrt ⟨rfl,rfl⟩ (.asrt ⟨by omega,by have h1':(l.length:Int) * 136≤140737488355328:=h1; unfold maxI64; omega,k2⟩ (.ret (.refl _) ?_)))
  rw [k1]
  rfl
theorem conBegin_valid:ValidCon c38.P 83 conBegin:=resCon_valid c38_good 60 (by kernel_rfl) fun x h=>⟨_,fBegin x.1 x.2,beginT_rez h⟩
noncomputable def c39:Cfg:=c38.addCon 83 conBegin
theorem c39_good:GoodCfg c39:=c38_good.addCon conBegin_valid (by kernel_rfl)
end Go.Fx
namespace Go.Fx
open Go Go.Proofs
abbrev X13:=Int × (List Fu.Live × Int × Bool) × Int
def T13 (x:X13):St:=⟨puts (J 66) [(1,.int .i64 x.2.1.2.1),(6,.own 0),(8,.bool x.2.1.2.2),(33,.own 0),(34,.int .i64 x.1),(35,.int .i64 x.2.2)],[(0,.rows .live 60 x.2.1.1)],1⟩
def s13:List Sh:=sets (Js 66) [(1,.keep),(6,.keep),(8,.bool),(33,.keep),(34,.keep),(35,.int)]
def e13:List Sh:=sets (Js 66) [(6,.keep),(8,.bool)]
def E13 (x:List Fu.Live × Int × Bool):Ex × St:=(.exit 0,⟨puts (J 66) [(6,.own 0),(8,.bool x.2.2)],[(0,.rows .live 60 x.1)],1⟩)
theorem b13 (N : Int) (x : List Fu.Live × Int × Bool) (i : Int) : roundN c39 60 62 (loopAt c39.P 62 7) (norm2 1 [] [0] s13) (norm2 1 [] [0] e13) (T13 (N, x, i)) =
    .ite (decide (i < N)) (.asrt (0 ≤ i ∧ i < x.1.length) (.asrt (0 ≤ i ∧ i < x.1.length) (.asrt (x.2.2 = false → (atF (jobAt x.1 i) (IntKind.i64.wrap (x.2.1 + 1)) == 3) = true → smallC (jobAt x.1 i)) (.asrt (0 ≤ i ∧ i < x.1.length)
       (.asrt (0≤i∧i < x.1.length) (.ret (.normal,T13 (N,(upd .live x.1 i { (rd .live x.1 i) with J:=atJ (jobAt x.1 i) (IntKind.i64.wrap (x.2.1 + 1)) },x.2.1,x.2.2 || (atF (jobAt x.1 i) (IntKind.i64.wrap (x.2.1 + 1)) == 3 && mustJ (jobAt x.1 i))),IntKind.i64.wrap (i + 1))))))))) (.ret (E13 x)):=by kernel_rfl
def g13 (σ:St):Option X13 :=
  match nth σ.tmps 1,nth σ.tmps 8,nth σ.tmps 34,nth σ.tmps 35,σ.heap with
  | .int .i64 now,.bool m,.int .i64 N,.int .i64 i,[(_,.rows .live _ l)]=>some (N,(l,now,m),i)
  | _,_,_,_,_=>none
def fM (a:Int × Bool) (y:Fu.Live):Fu.Live:=endL (a.1 + 1) y
def gM (a:Int × Bool) (y:Fu.Live):Int × Bool:=(a.1,a.2 || missL (a.1 + 1) y)
def okE13 (a:Int × Bool) (y:Fu.Live):Prop:=nowOK a.1∧smallC y.J
theorem atF_over (j:Fu.Job) (n:Int):(atF j n == 3) = overJ j n:=by unfold atF; cases overJ j n <;> rfl
def L13:LoopCon:=countF 1 (norm2 1 [] [0] s13) T13 g13 (okM (r:=.live) okE13) (nxtM (r:=.live) fM gM) E13
theorem l13 (hs:SubOf c39.P 62 (.loop (loopAt c39.P 62 7))):SoundLoop c39 (loopAt c39.P 62 7) L13 :=
  count_fold (C:=c39) (g:=62) (l:=7) c39_good 60 1 _ _ (Weak.norm2 1 [] [0] s13) (Weak.norm2 1 [] [0] e13) hs T13 g13 (okM (r:=.live) okE13) (nxtM (r:=.live) fM gM) E13 (fun _=>by intro h; cases h)
    (fun N x i h0 hi hm hok=>.of_eq (b13 N x i) (by
      unfold maxI64 at hm
      have h1:i < x.1.length:=hok.1
      have h2:nowOK x.2.1:=hok.2.1
      have h3:smallC (jobAt x.1 i):=hok.2.2
      unfold nowOK at h2
      rw [wrap_fits (n:=i + 1) (by omega) (by omega),wrap_fits (n:=x.2.1 + 1) (by omega) (by omega),atF_over]
      exact (Tree.out_ite_true (decide_eq_true hi)).2 ⟨⟨h0,h1⟩,⟨h0,h1⟩,fun _ _=>h3,⟨h0,h1⟩,⟨h0,h1⟩,rfl⟩))
    (fun N x i hi=>.of_eq (b13 N x i) ((Tree.out_ite_false (decide_eq_false (by omega))).2 rfl))
noncomputable def c40:Cfg:=c39.addLoop 62 7 L13
theorem c40_good:GoodCfg c40:=c39_good.addLoop (by unfold OneLoop; kernel_rfl) l13
def endPart (L:List Fu.Live) (now:Int):Tree (AV × List Blk) :=
  .asrt (1 = 1∧T13 ((L.length:Int),(L,now,false),0) = T13 ((L.length:Int),(L,now,false),0)) (.asrt (0≤(0:Int)∧(L.length:Int)≤maxI64∧okI (nxtM (r:=.live) fM gM) (fun _ _=>(none:Option Unit)) (okM (r:=.live) okE13) ((L.length:Int) - 0).toNat (L,now,false) 0)
    (.ret (.tup [.own 0,.bool (foldI (nxtM (r:=.live) fM gM) ((L.length:Int) - 0).toNat (L,now,false) 0).2.2],[.rows .live 60 (foldI (nxtM (r:=.live) fM gM) ((L.length:Int) - 0).toNat (L,now,false) 0).1])))
def stepPart (B:List Fu.Live) (now:Int):Tree (AV × List Blk) :=
  .asrt (okF B) (.ite (firstL B != -1) (.asrt (0≤firstL B∧firstL B < B.length) (.asrt (0≤firstL B∧firstL B < B.length) (.asrt (smallC (jobAt B (firstL B))) (.asrt (0≤firstL B∧firstL B < B.length) (.asrt (0≤firstL B∧firstL B < B.length)
    (endPart (upd .live B (firstL B) { (rd .live B (firstL B)) with J:=stepJ (jobAt B (firstL B)) }) now)))))) (endPart B now))
theorem fLiveStep (l:List Fu.Live) (now:Int):callC c40 60 62 [.view .live l,.int .i64 now] = .asrt (okBs (l,now)) (stepPart (beginAll l now) now):=by kernel_rfl
def okSt (x:List Fu.Live × Int):Prop:=okBs x∧nowOK x.2∧∀ y ∈ beginAll x.1 x.2,smallC y.J
theorem foldl_gM (now:Int):∀ (l:List Fu.Live) (b:Bool),l.foldl gM (now,b) = (now,b || l.any (missL (now + 1)))
  | [],b=>by simp
  | y :: l,b=>by
    rw [List.foldl_cons,show gM (now,b) y = (now,b || missL (now + 1) y) from rfl,foldl_gM now l,List.any_cons,Bool.or_assoc]
theorem endPart_rez {L:List Fu.Live} {now:Int} (hn:nowOK now) (hl:(L.length:Int) < 17592186044416) (h:∀ y ∈ L,smallC y.J):Rez (endPart L now) (.tup [.own 0,.bool (L.any (missL (now + 1)))],[.rows .live 60 (L.map (endL (now + 1)))]):=by
  have e:((L.length:Int) - 0).toNat = L.length:=by omega
  obtain ⟨k1,k2⟩:=foldM (r:=.live) (f:=fM) (g:=gM) (okE:=okE13) (fun _ _ _=>rfl) (fun _ _ _ h=>h) L (now,false) (fun y hy=>⟨hn,h y hy⟩)
  unfold endPart
  rw [e]
  refine .asrt ⟨rfl,rfl⟩ (.asrt ⟨by omega,by unfold maxI64; omega,k2⟩ (.ret ?_ ?_))
  · rw [k1,foldl_gM]; exact .eq (by simp)
  · rw [k1]; rfl
theorem smallC_step {j:Fu.Job} (h:smallC j) (hr:j.Ran + 1≤1000000):smallC (stepJ j):=by
  unfold stepJ smallC at *
  cases j.On <;> simp only [cond_true,cond_false]
  · unfold zeroJ; simp
  · cases decide (j.Ran + 1≥j.D) || decide (j.Ran + 1≥j.C) <;> simp only [cond_true,cond_false]
    · unfold ran1; simp only; omega
    · unfold zeroJ; simp
theorem must_ran {j:Fu.Job} (hm:mustJ j = true) (h:smallC j):j.Ran + 1≤1000000:=by
  unfold mustJ worst at hm
  cases ho:j.On with
  | false=>rw [ho] at hm; cases hm
  | true =>
    rw [ho] at hm
    simp at hm
    unfold smallC at h
    omega
theorem mem_upd {r:RTy} {xs:List r.carrier} {i:Int} {z y:r.carrier} (h:y ∈ upd r xs i z):y ∈ xs∨y = z:=List.mem_or_eq_of_mem_set h
theorem runFirst_small {B:List Fu.Live} (h:∀ y ∈ B,smallC y.J):∀ y ∈ runFirst B,smallC y.J:=by
  intro y hy
  unfold runFirst at hy
  rcases firstL_range B with hf | ⟨h0,h1⟩
  · rw [hf] at hy; exact h y hy
  · rw [show (firstL B == -1) = false by simp; omega] at hy
    rcases mem_upd (r:=.live) hy with h2 | h2
    · exact h y h2
    · rw [h2]
      have hs:=h _ (rd_mem h0 h1)
      refine smallC_step hs (must_ran ?_ hs)
      rcases firstL_spec B with h3 | h3
      · omega
      · exact h3.2.2.1
theorem runFirst_len (B:List Fu.Live):(runFirst B).length = B.length:=by
  unfold runFirst
  cases (firstL B == -1) with
  | true=>rfl
  | false=>exact upd_len (r:=.live) _ _ _
theorem stepPart_rez {B : List Fu.Live} {now : Int} (hn : nowOK now) (hl : (B.length : Int) < 17592186044416) (h : ∀ y ∈ B, smallC y.J) :
    Rez (stepPart B now) (.tup [.own 0,.bool ((runFirst B).any (missL (now + 1)))],[.rows .live 60 ((runFirst B).map (endL (now + 1)))]):=by
  have hs:=runFirst_small h
  have hlen:=runFirst_len B
  refine .asrt ⟨hl,h⟩ (ite_rez (fun hf=>?_) fun hf=>?_)
  · have h1:firstL B≠-1:=by simpa using hf
    have h2:=(firstL_range B).resolve_left h1
    have e:runFirst B = upd .live B (firstL B) { (rd .live B (firstL B)) with J:=stepJ (jobAt B (firstL B)) }:=by
      unfold runFirst
      rw [show (firstL B == -1) = false by simpa using h1]
      rfl
    rw [← e]
    exact .asrt h2 (.asrt h2 (.asrt (h _ (rd_mem h2.1 h2.2)) (.asrt h2 (.asrt h2 (endPart_rez hn (by omega) hs)))))
  · have h1:firstL B = -1:=by simpa using hf
    have e:runFirst B = B:=by unfold runFirst; rw [h1]; rfl
    rw [e]
    exact endPart_rez hn hl h
def conLStep:Con:=resCon (d2 (dView .live) dInt) okSt fun x=>(.tup [.own 0,.bool (missedL x.1 x.2)],[.rows .live 60 (stepL x.1 x.2)])
theorem conLStep_valid:ValidCon c40.P 62 conLStep:=resCon_valid c40_good 60 (by kernel_rfl) fun x h=>⟨_,fLiveStep x.1 x.2,.asrt h.1 (stepPart_rez h.2.1 (by
  have:=h.1.1
  unfold boundL at this
  have e:(beginAll x.1 x.2).length = x.1.length:=List.length_map _
  omega) h.2.2)⟩
def conLStepF:Con:=flatCon (d2 (dView .live) dInt) okSt fun x=>.tup [.view .live (stepL x.1 x.2),.bool (missedL x.1 x.2)]
theorem resCon_frozen {P:Program} {g:Nat} {α:Type} {D:Ds α} {ok:α→Prop} {res:α→AV × List Blk} {res':α→AV} (V:ValidCon P g (resCon D ok res)) (h:∀ a,∃ v,lowerV (blkAt (res a).2) 64 (res a).1 = some v∧AsArg v (res' a)):ValidCon P g (flatCon D ok res'):=V.frozen.weaken fun args r hr=>by
  unfold flatCon resCon at hr
  unfold frozen resCon
  split at hr
  · rename_i a ha
    obtain ⟨h1,h2⟩:=hr
    cases h2
    obtain ⟨v,h3,h4⟩:=h a
    refine ⟨v,h4,?_⟩
    show (Tree.asrt (ok a) _).Out _
    refine ⟨h1,?_⟩
    show Tree.Out (match lowerV (blkAt (res a).2) 64 (res a).1 with | some v=>.ret (v,[]) | none=>.fail) _
    rw [h3]
    rfl
  · exact hr.elim
theorem conLStepF_valid:ValidCon c40.P 62 conLStepF:=resCon_frozen conLStep_valid fun _=>⟨_,rfl,.refl _⟩
noncomputable def c41:Cfg:=c40.addQuiet 62 conLStepF
theorem c41_good:GoodCfg c41:=c40_good.addQuiet conLStepF_valid flatCon_quiet
end Go.Fx
namespace Go.Fx
open Go
def JobI (x:Fu.Live) (by':Int):Prop :=
  x.J = zeroJ∨(x.J.On = true∧(0≤x.J.J∧x.N = x.J.J + 1)∧(0≤x.J.Rel∧x.J.Rel < by')∧x.J.Due = x.At∧x.J.C = x.S.C∧(1≤x.J.D∧x.J.D≤20)∧(0≤x.J.Ran∧x.J.Ran < x.J.C∧x.J.Ran < x.J.D)∧x.J.Mand = onP x.S.M x.S.K x.J.J)
def LiveI (b:Int) (x:Fu.Live) (t:Int):Prop:=perOK x.S x.P = true∧(t≤x.At∧x.At≤t + 48)∧(0≤x.N∧x.N≤b)∧JobI x t
def LiveB (b:Int) (x:Fu.Live) (t:Int):Prop:=perOK x.S x.P = true∧(t < x.At∧x.At≤t + 48)∧(0≤x.N∧x.N≤b)∧JobI x (t + 1)
theorem LiveOK.inv {x:Fu.Live} {t:Int} (h:LiveOK x t):LiveI 549755813888 x t:=by
  obtain ⟨h1,h2,h3,h4,h5⟩:=h
  refine ⟨h1,h2,h3,?_⟩
  rcases h4.2 with h6 | ⟨h6,h7,h8,h9,h10,h11,h12⟩
  · exact .inl h6.2
  · right
    rcases h5 with h5 | ⟨h13,h14,h15⟩
    · rw [h5] at h6; cases h6
    · exact ⟨h6,⟨h7.1,h15⟩,⟨h8.1,h13⟩,h14,h9,h10,h11,h12⟩
theorem perOK_P {s:Fu.Spec} {p:Int} (h:perOK s p = true):1≤p∧p≤48∧s.C≤p∧1≤s.C∧s.C≤6:=by
  obtain ⟨⟨h1,h2,_⟩,h3,h4⟩:=perOK_iff.1 h
  omega
theorem newJ_of {b:Int} {x:Fu.Live} {t:Int} (h:LiveI b x t) (h0:0≤t) (h1:t≤1099511627000) (hb:b≤1099511627776):newJ x.S x.N t (t + x.P) x.S.C = jobOf x.S x.N t (t + x.P) x.S.C:=by
  obtain ⟨h2,h3,h4,_⟩:=h
  have h5:=perOK_P h2
  have:mayJ x.S (jobOf x.S x.N t (t + x.P) x.S.C) = true:=by
    unfold mayJ
    refine decide_eq_true ⟨(perOK_iff.1 h2).1,.inr ⟨rfl,?_,?_,rfl,?_,?_,rfl⟩⟩ <;> simp only [jobOf] <;> omega
  simp [newJ,this]
theorem beginL_inv {b:Int} {x:Fu.Live} {t:Int} (h:LiveI b x t) (h0:0≤t) (h1:t≤1099511627000) (hb:b≤1099511627776):LiveB (b + 1) (beginL t x) t:=by
  have hn:=newJ_of h h0 h1 hb
  obtain ⟨h2,h3,h4,h5⟩:=h
  have h6:=perOK_P h2
  unfold beginL
  cases hd:decide (x.At≤t) with
  | true =>
    simp only [cond_true]
    rw [hn]
    refine ⟨h2,?_,?_,.inr ⟨rfl,⟨h4.1,rfl⟩,?_,rfl,rfl,?_,?_,rfl⟩⟩ <;> simp only [jobOf] <;> omega
  | false =>
    have hd:=of_decide_eq_false hd
    simp only [cond_false]
    refine ⟨h2,⟨by omega,h3.2⟩,⟨h4.1,by omega⟩,?_⟩
    rcases h5 with h5 | ⟨a1,a2,a3,a4⟩
    · exact .inl h5
    · exact .inr ⟨a1,a2,⟨a3.1,by omega⟩,a4⟩
theorem stepJ_inv {b:Int} {x:Fu.Live} {t:Int} (h:LiveB b x t):LiveB b { x with J:=stepJ x.J } t:=by
  obtain ⟨h2,h3,h4,h5⟩:=h
  refine ⟨h2,h3,h4,?_⟩
  rcases h5 with h5 | ⟨a1,a2,a3,a4,a5,a6,a7,a8⟩
  · left; simp only [h5]; rfl
  · simp only [JobI]
    unfold stepJ
    rw [a1]
    simp only [cond_true]
    cases hd:(decide (x.J.Ran + 1≥x.J.D) || decide (x.J.Ran + 1≥x.J.C)) with
    | true=>exact .inl rfl
    | false =>
      simp only [Bool.or_eq_false_iff,decide_eq_false_iff_not] at hd
      exact .inr ⟨a1,a2,a3,a4,a5,a6,⟨by simp only [cond_false,ran1]; omega,by simp only [cond_false,ran1]; omega,by simp only [cond_false,ran1]; omega⟩,a8⟩
theorem endL_inv {b:Int} {x:Fu.Live} {t:Int} (h:LiveB b x t):LiveI b (endL (t + 1) x) (t + 1):=by
  obtain ⟨h2,h3,h4,h5⟩:=h
  refine ⟨h2,⟨by simp only [endL]; omega,by simp only [endL]; omega⟩,h4,?_⟩
  simp only [JobI,endL]
  unfold atJ
  cases overJ x.J (t + 1) with
  | true=>exact .inl rfl
  | false=>exact h5
theorem LiveB.small {b:Int} {x:Fu.Live} {t:Int} (h:LiveB b x t):-1000000≤x.J.C∧x.J.C≤1000000∧-1000000≤x.J.Ran∧x.J.Ran≤1000000:=by
  obtain ⟨h2,_,_,h5⟩:=h
  have h6:=perOK_P h2
  rcases h5 with h5 | ⟨_,_,_,_,a5,_,a7,_⟩
  · rw [h5]; decide
  · omega
theorem LiveI.small {b:Int} {x:Fu.Live} {t:Int} (h:LiveI b x t):-1000000≤x.J.C∧x.J.C≤1000000∧-1000000≤x.J.Ran∧x.J.Ran≤1000000:=by
  obtain ⟨h2,_,_,h5⟩:=h
  have h6:=perOK_P h2
  rcases h5 with h5 | ⟨_,_,_,_,a5,_,a7,_⟩
  · rw [h5]; decide
  · omega
def AllI (b:Int) (l:List Fu.Live) (t:Int):Prop:=l.length≤4∧∀ x ∈ l,LiveI b x t
def AllB (b:Int) (l:List Fu.Live) (t:Int):Prop:=l.length≤4∧∀ x ∈ l,LiveB b x t
theorem mem_updL {l:List Fu.Live} {i:Int} {z y:Fu.Live} (h:y ∈ upd .live l i z):y ∈ l∨y = z:=List.mem_or_eq_of_mem_set h
theorem rd_memL {l:List Fu.Live} {i:Int} (h0:0≤i) (h1:i < l.length):rd .live l i ∈ l:=by
  have hlt:i.toNat < l.length:=by omega
  have:rd .live l i = l[i.toNat]:=by simp [rd,hlt]
  rw [this]
  exact List.getElem_mem _
theorem runFirst_all {b:Int} {l:List Fu.Live} {t:Int} (h:AllB b l t):AllB b (runFirst l) t:=by
  unfold runFirst
  rcases firstL_range l with hf | ⟨h0,h1⟩
  · rw [hf]; exact h
  · rw [show (firstL l == -1) = false by simp; omega]
    simp only [cond_false]
    refine ⟨by rw [upd_len (r:=.live)]; exact h.1,fun y hy=>?_⟩
    rcases mem_updL hy with h2 | h2
    · exact h.2 y h2
    · rw [h2]; exact stepJ_inv (h.2 _ (rd_memL h0 h1))
theorem begin_all {b:Int} {l:List Fu.Live} {t:Int} (h:AllI b l t) (h0:0≤t) (h1:t≤1099511627000) (hb:b≤1099511627776):AllB (b + 1) (beginAll l t) t:=by
  refine ⟨by simp only [beginAll,List.length_map]; exact h.1,fun y hy=>?_⟩
  obtain ⟨x,hx,rfl⟩:=List.mem_map.1 hy
  exact beginL_inv (h.2 x hx) h0 h1 hb
theorem step_all {b:Int} {l:List Fu.Live} {t:Int} (h:AllI b l t) (h0:0≤t) (h1:t≤1099511627000) (hb:b≤1099511627776):AllI (b + 1) (stepL l t) (t + 1):=by
  have h2:=runFirst_all (begin_all h h0 h1 hb)
  refine ⟨by simp only [stepL,List.length_map]; exact h2.1,fun y hy=>?_⟩
  obtain ⟨x,hx,rfl⟩:=List.mem_map.1 hy
  exact endL_inv (h2.2 x hx)
theorem mayL_all {l:List Fu.Live} {t:Int} (h:mayL l t = true):AllI 549755813888 l t∧0≤t∧t≤549755813888:=by
  obtain ⟨h1,h2,h3⟩:=mayL_iff.1 h
  exact ⟨⟨h1,fun x hx=>(h3 x hx).inv⟩,h2.1,h2.2⟩
def lookR:Nat→List Fu.Live→Int→Int × Bool
  | 0,_,t=>(t,false)
  | n + 1,l,t=>bif idleL l then (t,true) else bif missedL l t then (t,false) else lookR n (stepL l t) (t + 1)
def lookL (l:List Fu.Live) (now:Int):Int × Bool:=bif mayL l now then lookR 2000 l now else (0,false)
def nxtK (x:List Fu.Live × Int) (i:Int):List Fu.Live × Int:=(stepL x.1 (x.2 + i),x.2)
def brkK (x:List Fu.Live × Int) (i:Int):Option (Int × Int × Bool):=bif idleL x.1 then some (x.2,x.2 + i,true) else bif missedL x.1 (x.2 + i) then some (x.2,x.2 + i,false) else none
theorem lookR_brk (now:Int):∀ (n:Nat) (l:List Fu.Live) (i:Int),lookR n l (now + i) = match brkI nxtK brkK n (l,now) i with | some (_,t,b)=>(t,b) | none=>(now + i + n,false)
  | 0,l,i=>by simp [lookR,brkI]
  | n + 1,l,i=>by
    unfold lookR brkI
    have e:brkK (l,now) i = bif idleL l then some (now,now + i,true) else bif missedL l (now + i) then some (now,now + i,false) else none:=rfl
    rw [e]
    cases idleL l with
    | true=>rfl
    | false =>
      cases missedL l (now + i) with
      | true=>rfl
      | false =>
        simp only [cond_false]
        rw [Int.add_assoc,lookR_brk now n (stepL l (now + i)) (i + 1)]
        show (match brkI nxtK brkK n (stepL l (now + i),now) (i + 1) with | some (_,t,b)=>(t,b) | none=>(now + (i + 1) + n,false)) = _
        rw [show now + (i + 1) + (n:Int) = now + i + ((n + 1:Nat):Int) by omega]
        rfl
end Go.Fx
namespace Go.Fx
open Go Go.Proofs
abbrev X15:=Int × (List Fu.Live × Int) × Int
def T15 (x:X15):St:=⟨puts (J 37) [(0,.view .live x.2.1.1),(1,.int .i64 x.2.1.2),(13,.int .i64 x.2.2)],[],0⟩
def s15:List Sh:=sets (Js 37) [(0,.keep),(1,.keep),(13,.int)]
def e15:List Sh:=sets (Js 37) [(1,.keep),(4,.keep),(5,.bool)]
def R15 (b:Int × Int × Bool):Ex × St:=(.ret,⟨puts (J 37) [(1,.int .i64 b.1),(4,.int .i64 b.2.1),(5,.bool b.2.2)],[],0⟩)
def E15 (x:List Fu.Live × Int):Ex × St:=(.exit 0,⟨puts (J 37) [(1,.int .i64 x.2)],[],0⟩)
theorem b15 (N : Int) (x : List Fu.Live × Int) (i : Int) : roundN c41 60 37 (loopAt c41.P 37 4) (norm2 0 [] [] s15) (norm2 0 [] [] e15) (T15 (N, x, i)) =
    .ite (decide (i < 2000)) (.asrt (okF x.1) (.ite (idleL x.1) (.ret (R15 (x.2,IntKind.i64.wrap (x.2 + i),true))) (.asrt (okSt (x.1,IntKind.i64.wrap (x.2 + i))) (.ite (missedL x.1 (IntKind.i64.wrap (x.2 + i)))
      (.ret (R15 (x.2,IntKind.i64.wrap (x.2 + i),false))) (.ret (.normal,T15 (N,(stepL x.1 (IntKind.i64.wrap (x.2 + i)),x.2),IntKind.i64.wrap (i + 1)))))))) (.ret (E15 x)):=by kernel_rfl
def g15 (σ:St):Option X15 :=
  match nth σ.tmps 0,nth σ.tmps 1,nth σ.tmps 13 with
  | .view .live l,.int .i64 now,.int .i64 i=>some (2000,(l,now),i)
  | _,_,_=>none
def okK (x:List Fu.Live × Int) (i:Int):Prop:=okF x.1∧(nowOK x.2∧i < 2000)∧(idleL x.1 = false→okSt (x.1,x.2 + i))
def L15:LoopCon:=fun σ=>match g15 (norm2 0 [] [] s15 σ) with
  | some p=>.asrt (σ.next = 0∧norm2 0 [] [] s15 σ = T15 p∧p.2.2 = 0∧okI nxtK brkK okK 2000 p.2.1 0) (optT (0,0,false) (brkI nxtK brkK 2000 p.2.1 0) (fun b=>.ret (R15 b)) (.ret (E15 (foldI nxtK 2000 p.2.1 0))))
  | none=>.fail
theorem l15 (hs:SubOf c41.P 37 (.loop (loopAt c41.P 37 4))):SoundLoop c41 (loopAt c41.P 37 4) L15:=by
  have V:=loop_rule3 (C:=c41) (g:=37) (l:=4) c41_good 60 0 (norm2 0 [] [] s15) (norm2 0 [] [] e15) (Weak.norm2 0 [] [] s15) (Weak.norm2 0 [] [] e15) hs T15
    (fun p=>.asrt (0≤p.2.2∧p.2.2≤2000∧okI nxtK brkK okK (2000 - p.2.2).toNat p.2.1 p.2.2) (optT (0,0,false) (brkI nxtK brkK (2000 - p.2.2).toNat p.2.1 p.2.2) (fun b=>.ret (R15 b)) (.ret (E15 (foldI nxtK (2000 - p.2.2).toNat p.2.1 p.2.2)))))
    (fun p=>(2000 - p.2.2).toNat) (fun p q h=>?_) (L:=L15) (fun σ r h=>?_)
  · exact V
  · obtain ⟨N,x,i⟩:=p
    obtain ⟨⟨h0,h1,h3⟩,h⟩:=Tree.out_asrt.1 h
    simp only at h0 h1 h3 h
    replace h:=optT_out.1 h
    refine .of_eq (b15 N x i) ?_
    rcases Int.lt_or_le i 2000 with hi | hi
    · rw [show (2000 - i).toNat = (2000 - (i + 1)).toNat + 1 by omega] at h h3
      obtain ⟨⟨k1,⟨⟨k2,k3⟩,_⟩,k4⟩,h3⟩:=h3
      rw [wrap_fits (n:=x.2 + i) (by omega) (by omega),wrap_fits (n:=i + 1) (by omega) (by omega)]
      refine Tree.wp_ite.2 ⟨fun _=>⟨k1,Tree.wp_ite.2 ⟨fun hd=>?_,fun hd=>⟨k4 hd,Tree.wp_ite.2 ⟨fun hm=>?_,fun hm=>?_⟩⟩⟩⟩,fun hn=>by simp at hn; omega⟩
      · unfold brkI brkK at h
        rw [hd] at h
        exact Rnd.ret h
      · unfold brkI brkK at h
        rw [hd,hm] at h
        exact Rnd.ret h
      · have hb:brkK x i = none:=by unfold brkK; rw [hd,hm]; rfl
        unfold brkI at h
        rw [hb] at h
        refine Rnd.go (m:=fun p:X15=>(2000 - p.2.2).toNat) (x:=(N,x,i)) (N,nxtK x i,i + 1) (show (2000 - (i + 1)).toNat < (2000 - i).toNat by omega) ?_
        exact Tree.out_asrt.2 ⟨⟨(show 0≤i + 1 by omega),(show i + 1≤2000 by omega),h3 hb⟩,optT_out.2 h⟩
    · rw [show (2000 - i).toNat = 0 by omega] at h
      refine Tree.wp_ite.2 ⟨fun hn=>by simp at hn; omega,fun _=>Rnd.out h⟩
  · unfold L15 at h
    split at h
    · rename_i p hp
      obtain ⟨⟨h1,h2,h3,h4⟩,h5⟩:=Tree.out_asrt.1 h
      refine ⟨h1,p,h2,?_⟩
      obtain ⟨N,x,i⟩:=p
      simp only at h3 h4 h5
      subst h3
      exact Tree.out_asrt.2 ⟨⟨Int.le_refl _,(show (0:Int)≤2000 by omega),h4⟩,h5⟩
    · exact h.elim
noncomputable def c42:Cfg:=c41.addLoop 37 4 L15
theorem c42_good:GoodCfg c42:=c41_good.addLoop (by unfold OneLoop; kernel_rfl) l15
def lookT (l:List Fu.Live) (now:Int):Tree (AV × List Blk) :=
  .asrt (smallL l) (.ite (!mayL l now) (.ret (.tup [.lit .i64 0,.blit false],[])) (.asrt (0 = 0∧T15 (2000,(l,now),0) = T15 (2000,(l,now),0)∧(0:Int) = 0∧okI nxtK brkK okK 2000 (l,now) 0)
    (optT (0,0,false) (brkI nxtK brkK 2000 (l,now) 0) (fun b=>.ret (.tup [.int .i64 b.2.1,.bool b.2.2],[])) (.ret (.tup [.int .i64 (IntKind.i64.wrap ((foldI nxtK 2000 (l,now) 0).2 + 2000)),.blit false],[])))))
theorem fLook (l:List Fu.Live) (now:Int):callC c42 60 37 [.view .live l,.int .i64 now] = lookT l now:=by kernel_rfl
theorem okF_of {b:Int} {l:List Fu.Live} {t:Int} (h:AllI b l t):okF l:=⟨by have:=h.1; omega,fun x hx=>(h.2 x hx).small⟩
theorem okSt_of {b:Int} {l:List Fu.Live} {t:Int} (h:AllI b l t) (h0:0≤t) (h1:t≤1099511627000) (hb:b≤1099511627776):okSt (l,t):=by
  have hn:nowOK t:=⟨by omega,by omega⟩
  refine ⟨⟨?_,fun y hy=>⟨hn,?_,?_⟩⟩,hn,fun y hy=>(((begin_all h h0 h1 hb).2 y hy)).small⟩
  · have:=h.1; show (l.length:Int) * 136≤140737488355328; omega
  · have:=perOK_P (h.2 y hy).1; omega
  · have:=(h.2 y hy).2.2.1; omega
theorem okK_all {now:Int} (h0:0≤now) (h1:now≤549755813888):∀ (n:Nat) (l:List Fu.Live) (i:Int),0≤i→i + n = 2000→AllI (549755813888 + i) l (now + i)→okI nxtK brkK okK n (l,now) i
  | 0,_,_,_,_,_=>trivial
  | n + 1,l,i,h2,h3,h=>by
    refine ⟨⟨okF_of h,⟨⟨by simp only; omega,by simp only; omega⟩,by omega⟩,fun _=>okSt_of h (by simp only; omega) (by simp only; omega) (by omega)⟩,fun _=>?_⟩
    have:=step_all h (by omega) (by omega) (by omega)
    rw [show 549755813888 + i + 1 = 549755813888 + (i + 1) by omega,show now + i + 1 = now + (i + 1) by omega] at this
    exact okK_all h0 h1 n _ (i + 1) (by omega) (by omega) this
theorem nxtK_snd:∀ (n:Nat) (x:List Fu.Live × Int) (i:Int),(foldI nxtK n x i).2 = x.2
  | 0,_,_=>rfl
  | n + 1,x,i=>by unfold foldI; rw [nxtK_snd n]; rfl
theorem lookT_rez {l:List Fu.Live} {now:Int} (h:smallL l):Rez (lookT l now) (.tup [.int .i64 (lookL l now).1,.bool (lookL l now).2],[]):=by
  refine .asrt h (ite_rez (fun hm=>?_) fun hm=>?_)
  · have e:lookL l now = (0,false):=by unfold lookL; rw [show mayL l now = false by simpa using hm]; rfl
    rw [e]
    exact .ret (.tup (.cons (.lit rfl) (.cons (.blit rfl) .nil))) rfl
  · have hm:mayL l now = true:=by simpa using hm
    obtain ⟨h1,h2,h3⟩:=mayL_all hm
    have e:lookL l now = lookR 2000 l (now + 0):=by unfold lookL; rw [hm,Int.add_zero]; rfl
    rw [e,lookR_brk now 2000 l 0]
    refine .asrt ⟨rfl,rfl,rfl,okK_all h2 h3 2000 l 0 (Int.le_refl _) rfl (by simpa using h1)⟩ ?_
    cases hb:brkI nxtK brkK 2000 (l,now) 0 with
    | some b=>exact .itet rfl (.ret (.refl _) rfl)
    | none =>
      refine .itee rfl (.ret (.tup (.cons (.eq ?_) (.cons (.blit rfl) .nil))) rfl)
      rw [nxtK_snd]
      simp only
      rw [wrap_fits (by omega) (by omega),Int.add_zero]
      rfl
def conLook:Con:=flatCon (d2 (dView .live) dInt) (fun x=>smallL x.1) fun x=>.tup [.int .i64 (lookL x.1 x.2).1,.bool (lookL x.1 x.2).2]
theorem conLook_valid:ValidCon c42.P 37 conLook:=flatCon_valid c42_good 60 (by kernel_rfl) fun x h=>⟨_,fLook x.1 x.2,lookT_rez h⟩
noncomputable def c43:Cfg:=c42.addQuiet 37 conLook
theorem c43_good:GoodCfg c43:=c42_good.addQuiet conLook_valid flatCon_quiet
end Go.Fx
