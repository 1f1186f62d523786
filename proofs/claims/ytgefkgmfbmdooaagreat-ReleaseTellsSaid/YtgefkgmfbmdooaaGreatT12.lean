import Derived.Test.YtgefkgmfbmdooaaGreatT11
import Derived.Test.YtgefkgmfbmdooaaGreatTZ
namespace Go.Fx
open Go Go.Proofs
def R9m:Ex × St:=(.ret,⟨puts (J 39) [(2,.blit false)],[],0⟩)
def E9m (x:A9m):Ex × St:=(.exit 0,⟨puts (J 39) [(0,.view .fix x.1),(3,.int .i64 x.2)],[],0⟩)
theorem b9m (x : A9m) (i : Int) : roundN c142 60 70 (loopAt c142.P 70 3) (norm2 0 [] [] s9m) (outE 0 2 [] [] r9m x9m) (T9m (x, i)) =
    .ite (decide (i < x.1.length)) (.asrt (0≤i∧i < x.1.length) (.ite (!mayF (rd .fix x.1 i)) (.ret R9m) (.asrt (0≤i∧i < x.1.length) (.asrt (0≤i∧i < x.1.length) (.ret (.normal,T9m ((x.1,IntKind.i64.wrap (x.2 + unitF (rd .fix x.1 i))),IntKind.i64.wrap (i + 1)))))))) (.ret (E9m x)):=by kernel_rfl
def g9m (σ:St):Option (A9m × Int) :=
  match nth σ.tmps 0,nth σ.tmps 3,nth σ.tmps 4 with
  | .view .fix l,.int .i64 n,.int .i64 i=>some ((l,n),i)
  | _,_,_=>none
def Lx9m (x:A9m × Int):Tree (Ex × St):=.asrt (0≤x.2∧x.2≤x.1.1.length∧(x.1.1.length:Int)≤1000000000000∧0≤x.1.2∧x.1.2≤1048576 * x.2) (.ite ((x.1.1.drop x.2.toNat).all mayF) (.ret (E9m (x.1.1,x.1.2 + ((x.1.1.drop x.2.toNat).map unitF).sum))) (.ret R9m))
def L9m:LoopCon:=entry 0 (norm2 0 [] [] s9m) T9m g9m Lx9m
theorem l9m (hs:SubOf c142.P 70 (.loop (loopAt c142.P 70 3))):SoundLoop c142 (loopAt c142.P 70 3) L9m:=by
  refine loop_rule3 (C:=c142) (g:=70) (l:=3) c142_good 60 0 _ _ (Weak.norm2 0 [] [] s9m) (weak_outE 0 2 [] [] r9m x9m) hs T9m Lx9m (fun x=>(x.1.1.length - x.2).toNat) (fun x q h=>?_) entry_out
  obtain ⟨⟨l,n⟩,i⟩:=x
  obtain ⟨⟨h0,h1,h2,h3,h4⟩,h⟩:=Tree.out_asrt.1 h
  simp only at h0 h1 h2 h3 h4 h
  refine .of_eq (b9m (l,n) i) ?_
  rw [wrap_fits (n:=i + 1) (by omega) (by omega)]
  refine Tree.wp_ite.2 ⟨fun hi=>?_,fun hi=>?_⟩
  · have hi:i < (l.length:Int):=of_decide_eq_true hi
    have hd:=drop_rd (r:=.fix) (xs:=l) h0 hi
    rw [hd] at h
    refine ⟨⟨h0,hi⟩,Tree.wp_ite.2 ⟨fun hb=>?_,fun hb=>⟨⟨h0,hi⟩,⟨h0,hi⟩,?_⟩⟩⟩
    · have hb:mayF (rd .fix l i) = false:=(Bool.not_eq_true' _).mp hb
      rw [List.all_cons,hb,Bool.false_and] at h
      exact Rnd.ret h
    · have hb:mayF (rd .fix l i) = true:=(Bool.not_eq_false' _).mp hb
      rw [List.all_cons,hb,Bool.true_and,List.map_cons,List.sum_cons,← Int.add_assoc] at h
      have hu:=unitF_small hb
      simp only
      rw [wrap_fits (n:=n + unitF (rd .fix l i)) (by omega) (by omega)]
      exact Rnd.go (m:=fun x:A9m × Int=>(x.1.1.length - x.2).toNat) (x:=((l,n),i)) ((l,n + unitF (rd .fix l i)),i + 1) (by simp only; omega) (Tree.out_asrt.2 ⟨⟨by simp only; omega,by simp only; omega,h2,by simp only; omega,by simp only; omega⟩,h⟩)
  · have hi:¬ i < (l.length:Int):=of_decide_eq_false hi
    rw [drop_end (by omega)] at h
    simp only [List.all_nil,List.map_nil,List.sum_nil,Int.add_zero] at h
    exact Rnd.out h
noncomputable def c143:Cfg:=c142.addLoop 70 3 L9m
theorem c143_good:GoodCfg c143:=c142_good.addLoop (by unfold OneLoop; kernel_rfl) l9m
def may9T (l:List Fu.Fix):Tree (AV × List Blk):=.asrt (0 = 0∧T9m ((l,0),0) = T9m ((l,0),0)) (.asrt (0≤(0:Int)∧(0:Int)≤l.length∧(l.length:Int)≤1000000000000∧0≤(0:Int)∧(0:Int)≤1048576 * 0) (.ite ((l.drop (0:Int).toNat).all mayF)
  (.ret (.bool (decide ((l.length:Int)≤4) && decide (0 + ((l.drop (0:Int).toNat).map unitF).sum≤983040)),[])) noB))
theorem fMays9 (l:List Fu.Fix):callC c143 60 70 [.view .fix l] = may9T l:=by kernel_rfl
def conMays9:Con:=flatCon (d1 (dView .fix)) (fun l=>(l.length:Int)≤1000000000000) fun l=>.bool (mayFs l)
theorem conMays9_valid:ValidCon c143.P 70 conMays9:=flatCon_valid c143_good 60 (by kernel_rfl) fun l h=>⟨_,fMays9 l,by
  refine .asrt ⟨rfl,rfl⟩ (.asrt ⟨Int.le_refl _,by omega,h,Int.le_refl _,by omega⟩ ?_)
  rw [show (0:Int).toNat = 0 from rfl,List.drop_zero,Int.zero_add]
  refine ite_rez (fun ha=>.ret ?_ rfl) fun ha=>noB_rez ?_
  · show AsArg _ (.bool (mayFs l))
    rw [refFs,ha]
    exact .refl _
  · rw [refFs,ha]; rfl⟩
noncomputable def c144:Cfg:=c143.addQuiet 70 conMays9
theorem c144_good:GoodCfg c144:=c143_good.addQuiet conMays9_valid flatCon_quiet
def E9a (o:Int):Ex × St:=(.exit 0,⟨puts (J 27) [(5,.int .i64 o)],[],0⟩)
theorem b9a (x : A9a) (i : Int) : roundN c144 60 100 (loopAt c144.P 100 3) (norm2 0 [] [] s9a) (norm2 0 [] [] e9a) (T9a (x, i)) =
    .ite (decide (i < x.1.length) && decide ((x.1.length:Int)≤1000)) (.asrt (0≤i∧i < x.1.length) (.ret (.normal,T9a ((x.1,x.2.1,IntKind.i64.wrap (x.2.2 + ofV (rd .fix x.1 i) x.2.1)),IntKind.i64.wrap (i + 1))))) (.ret (E9a x.2.2)):=by kernel_rfl
def g9a (σ:St):Option (A9a × Int) :=
  match nth σ.tmps 0,nth σ.tmps 1,nth σ.tmps 5,nth σ.tmps 6 with
  | .view .fix l,.int .i64 n,.int .i64 o,.int .i64 i=>some ((l,n,o),i)
  | _,_,_,_=>none
def res9a (x:A9a × Int):Int:=bif decide ((x.1.1.length:Int)≤1000) then x.1.2.2 + sumOf (x.1.1.drop x.2.toNat) x.1.2.1 else x.1.2.2
def Lx9a (x:A9a × Int):Tree (Ex × St):=.asrt (0≤x.2∧((x.1.1.length:Int)≤1000→x.2≤x.1.1.length∧0≤x.1.2.2∧x.1.2.2≤6597069766656 * x.2)) (.ret (E9a (res9a x)))
def L9a:LoopCon:=entry 0 (norm2 0 [] [] s9a) T9a g9a Lx9a
theorem l9a (hs:SubOf c144.P 100 (.loop (loopAt c144.P 100 3))):SoundLoop c144 (loopAt c144.P 100 3) L9a:=by
  refine loop_rule3 (C:=c144) (g:=100) (l:=3) c144_good 60 0 _ _ (Weak.norm2 0 [] [] s9a) (Weak.norm2 0 [] [] e9a) hs T9a Lx9a (fun x=>(x.1.1.length - x.2).toNat) (fun x q h=>?_) entry_out
  obtain ⟨⟨l,n,o⟩,i⟩:=x
  obtain ⟨⟨h0,h1⟩,h⟩:=Tree.out_asrt.1 h
  simp only at h0 h1
  refine .of_eq (b9a (l,n,o) i) ?_
  refine Tree.wp_ite.2 ⟨fun hi=>?_,fun hi=>?_⟩
  · rw [Bool.and_eq_true,decide_eq_true_eq,decide_eq_true_eq] at hi
    obtain ⟨hi,hl⟩:=hi
    simp only at hi hl
    obtain ⟨h2,h3,h4⟩:=h1 hl
    have hr:=ofV_range (rd .fix l i) n
    have hd:=drop_rd (r:=.fix) (xs:=l) h0 hi
    simp only
    rw [wrap_fits (n:=i + 1) (by omega) (by omega),wrap_fits (n:=o + ofV (rd .fix l i) n) (by omega) (by omega)]
    refine ⟨⟨h0,hi⟩,Rnd.go (m:=fun x:A9a × Int=>(x.1.1.length - x.2).toNat) (x:=((l,n,o),i)) ((l,n,o + ofV (rd .fix l i) n),i + 1) (by simp only; omega) (Tree.out_asrt.2 ⟨⟨by simp only; omega,fun _=>⟨by simp only; omega,by simp only; omega,by simp only; omega⟩⟩,?_⟩)⟩
    have e:res9a ((l,n,o + ofV (rd .fix l i) n),i + 1) = res9a ((l,n,o),i):=by
      unfold res9a
      simp only
      rw [decide_eq_true hl,hd]
      simp only [cond_true,sumOf,List.map_cons,List.sum_cons,Int.add_assoc]
    rw [e]
    exact h
  · have e:res9a ((l,n,o),i) = o:=by
      unfold res9a
      simp only
      by_cases hl:(l.length:Int)≤1000
      · rw [decide_eq_true hl]
        have hi:¬ i < (l.length:Int):=fun hc=>by
          rw [decide_eq_true (show i < (((l,n,o):A9a).1.length:Int) from hc),decide_eq_true (show (((l,n,o):A9a).1.length:Int)≤1000 from hl)] at hi
          cases hi
        rw [drop_end (by omega)]
        simp [sumOf]
      · rw [decide_eq_false hl]; rfl
    rw [e] at h
    exact Rnd.out h
noncomputable def c145:Cfg:=c144.addLoop 100 3 L9a
theorem c145_good:GoodCfg c145:=c144_good.addLoop (by unfold OneLoop; kernel_rfl) l9a
def all9T (l:List Fu.Fix) (n:Int):Tree (AV × List Blk):=.asrt (0 = 0∧T9a ((l,n,0),0) = T9a ((l,n,0),0)) (.asrt (0≤(0:Int)∧((l.length:Int)≤1000→(0:Int)≤l.length∧0≤(0:Int)∧(0:Int)≤6597069766656 * 0)) (.ret (.int .i64 (res9a ((l,n,0),0)),[])))
theorem fAll9 (l:List Fu.Fix) (n:Int):callC c145 60 100 [.view .fix l,.int .i64 n] = all9T l n:=by kernel_rfl
theorem conAll9_valid:ValidCon c145.P 100 conAll:=plainCon_valid c145_good 60 (by kernel_rfl) fun x=>⟨_,fAll9 x.1 x.2,by
  refine .asrt ⟨rfl,rfl⟩ (.asrt ⟨Int.le_refl _,fun _=>⟨by omega,Int.le_refl _,by omega⟩⟩ (.ret (.eq ?_) rfl))
  have e:res9a ((x.1,x.2,0),0) = allV x.1 x.2:=by
    unfold res9a allV
    simp only [show (0:Int).toNat = 0 from rfl,List.drop_zero,Int.zero_add]
    by_cases hl:((x.1:List Fu.Fix).length:Int)≤1000
    · rw [decide_eq_true hl,decide_eq_false (by omega)]; rfl
    · rw [decide_eq_false hl,decide_eq_true (by omega)]; rfl
  rw [e]⟩
noncomputable def c146:Cfg:=c145.addQuiet 100 conAll
theorem c146_good:GoodCfg c146:=c145_good.addQuiet conAll9_valid plainCon_quiet
def E9h (x:A9h):Ex × St:=(.exit 0,⟨puts (J 28) [(4,.int .i64 x.2)],[],0⟩)
theorem b9h (x : A9h) (i : Int) : roundN c146 60 99 (loopAt c146.P 99 6) (norm2 0 [] [] s9h) (norm2 0 [] [] e9h) (T9h (x, i)) =
    .ite (decide (i < x.1.length)) (.asrt (0≤i∧i < x.1.length) (.ret (.normal,T9h ((x.1,IntKind.i64.wrap (x.2 + (rd .fix x.1 i).S.C)),IntKind.i64.wrap (i + 1))))) (.ret (E9h x)):=by kernel_rfl
def g9h (σ:St):Option (A9h × Int) :=
  match nth σ.tmps 0,nth σ.tmps 4,nth σ.tmps 5 with
  | .view .fix l,.int .i64 n,.int .i64 i=>some ((l,n),i)
  | _,_,_=>none
def L9h:LoopCon:=boundF 0 (norm2 0 [] [] s9h) T9h g9h (fun x=>x.1.length) okHz nxtHz E9h
theorem l9h (hs:SubOf c146.P 99 (.loop (loopAt c146.P 99 6))):SoundLoop c146 (loopAt c146.P 99 6) L9h :=
  bound_fold (C:=c146) (g:=99) (l:=6) c146_good 60 0 _ _ (Weak.norm2 0 [] [] s9h) (Weak.norm2 0 [] [] e9h) hs T9h g9h (fun x=>x.1.length) okHz nxtHz E9h
    (fun _=>by intro h; cases h) (fun _ _=>rfl)
    (fun x i h0 hi hm hok=>.of_eq (b9h x i) (by
      unfold maxI64 at hm
      obtain ⟨⟨h1,h2⟩,h3,h4⟩:=hok
      rw [wrap_fits (n:=i + 1) (by omega) (by omega),wrap_fits (by omega) (by omega)]
      exact (Tree.out_ite_true (decide_eq_true hi)).2 ⟨⟨h0,hi⟩,rfl⟩))
    (fun x i hi=>.of_eq (b9h x i) ((Tree.out_ite_false (decide_eq_false (by omega))).2 rfl))
noncomputable def c147:Cfg:=c146.addLoop 99 6 L9h
theorem c147_good:GoodCfg c147:=c146_good.addLoop (by unfold OneLoop; kernel_rfl) l9h
def hz9T (l:List Fu.Fix):Tree (AV × List Blk):=.asrt ((l.length:Int)≤1000000000000) (.ite (!mayFs l) (.ret (.lit .i64 0,[])) (.asrt (0 = 0∧T9h ((l,0),0) = T9h ((l,0),0)) (.asrt (0≤(0:Int)∧(l.length:Int)≤maxI64∧okI nxtHz (fun _ _=>(none:Option Unit)) okHz ((l.length:Int) - 0).toNat (l,0) 0)
  (.ret (.int .i64 (IntKind.i64.wrap ((IntKind.i64.wrap (IntKind.i64.wrap ((foldI nxtHz ((l.length:Int) - 0).toNat (l,0) 0).2 * 1048576) + 65535)).tdiv 65536)),[])))))
theorem fHz9 (l:List Fu.Fix):callC c147 60 99 [.view .fix l] = hz9T l:=by kernel_rfl
theorem hz9T_rez {l:List Fu.Fix} (hl:(l.length:Int)≤1000000000000):Rez (hz9T l) (.int .i64 (hzV l),[]):=by
  refine .asrt hl ?_
  unfold hzV
  cases hc:mayFs l with
  | false=>exact .itet rfl (.ret (.lit rfl) rfl)
  | true =>
    refine .itee rfl ?_
    obtain ⟨h5,h4⟩:=mayFs_mem hc
    obtain ⟨k1,k2,k3,k4⟩:=foldHz (l:=l) (fun x hx=>(mayF_C (h4 x hx)).2) ((l.length:Int) - 0).toNat 0 0 (Int.le_refl _) (by omega) (by omega) (by omega)
    rw [show (0:Int).toNat = 0 from rfl,List.drop_zero] at k2 k3 k4
    refine .asrt ⟨rfl,rfl⟩ (.asrt ⟨Int.le_refl _,by unfold maxI64; omega,k1⟩ (.ret (.eq ?_) rfl))
    rw [k2,wrap_fits (n:=(0 + (l.map fun x=>x.S.C).sum) * 1048576) (by omega) (by omega),wrap_fits (n:=(0 + (l.map fun x=>x.S.C).sum) * 1048576 + 65535) (by omega) (by omega),Int.tdiv_eq_ediv_of_nonneg (by omega),refHz,Int.zero_add,wrap_fits (by omega) (by omega)]
    rfl
def conHz9:Con:=flatCon (d1 (dView .fix)) (fun l=>(l.length:Int)≤1000000000000) fun l=>.int .i64 (hzV l)
theorem conHz9_valid:ValidCon c147.P 99 conHz9:=flatCon_valid c147_good 60 (by kernel_rfl) fun l h=>⟨_,fHz9 l,hz9T_rez h⟩
noncomputable def c148:Cfg:=c147.addQuiet 99 conHz9
theorem c148_good:GoodCfg c148:=c147_good.addQuiet conHz9_valid flatCon_quiet
def R9f (n:Int):Ex × St:=(.ret,⟨puts (J 18) [(2,.int .i64 n)],[],0⟩)
def E9f:Ex × St:=(.exit 0,⟨puts (J 18) [],[],0⟩)
theorem b9f (x : A9h) (i : Int) : roundN c148 60 71 (loopAt c148.P 71 3) (norm2 0 [] [] s9f) (norm2 0 [] [] e9f) (T9f (x, i)) =
    .ite (decide (i < x.2)) (.ite (decide (allV x.1 i > i)) (.ret (R9f i)) (.ret (.normal,T9f (x,IntKind.i64.wrap (i + 1))))) (.ret E9f):=by kernel_rfl
def g9f (σ:St):Option (A9h × Int) :=
  match nth σ.tmps 0,nth σ.tmps 3,nth σ.tmps 4 with
  | .view .fix l,.int .i64 n,.int .i64 i=>some ((l,n),i)
  | _,_,_=>none
def brk9f (x:A9h) (i:Int):Option Int:=bif decide (allV x.1 i > i) then some i else none
def ok9f (_:A9h) (_:Int):Prop:=True
def L9f:LoopCon:=boundB 0 (norm2 0 [] [] s9f) T9f g9f (fun x=>x.2) ok9f (fun x _=>x) brk9f 0 R9f (fun _=>E9f)
theorem l9f (hs:SubOf c148.P 71 (.loop (loopAt c148.P 71 3))):SoundLoop c148 (loopAt c148.P 71 3) L9f :=
  bound_loop (C:=c148) (g:=71) (l:=3) c148_good 60 0 _ _ (Weak.norm2 0 [] [] s9f) (Weak.norm2 0 [] [] e9f) hs T9f g9f (fun x=>x.2) ok9f (fun x _=>x) brk9f 0 R9f (fun _=>E9f)
    (fun _=>by intro h; cases h) (fun _=>by intro h; cases h) (fun _ _=>rfl)
    (fun x i h0 hi hm _=>.of_eq (b9f x i) (by
      unfold maxI64 at hm
      rw [wrap_fits (n:=i + 1) (by omega) (by omega)]
      refine (Tree.out_ite_true (decide_eq_true hi)).2 ?_
      unfold brk9f
      cases hb:decide (allV x.1 i > i) with
      | true=>exact (Tree.out_ite_true rfl).2 rfl
      | false=>exact (Tree.out_ite_false rfl).2 rfl))
    (fun x i hi=>.of_eq (b9f x i) ((Tree.out_ite_false (decide_eq_false (by omega))).2 rfl))
noncomputable def c149:Cfg:=c148.addLoop 71 3 L9f
theorem c149_good:GoodCfg c149:=c148_good.addLoop (by unfold OneLoop; kernel_rfl) l9f
def in9f (l:List Fu.Fix):Option Int:=brkI (fun x _=>x) brk9f (hzV l - 1).toNat (l,hzV l) 1
def first9 (l:List Fu.Fix):Int:=(in9f l).getD 0
def first9T (l:List Fu.Fix):Tree (AV × List Blk):=.asrt ((l.length:Int)≤1000000000000) (.asrt (0 = 0∧T9f ((l,hzV l),1) = T9f ((l,hzV l),1)) (.asrt (0≤(1:Int)∧hzV l≤maxI64∧okI (fun x _=>x) brk9f ok9f (hzV l - 1).toNat (l,hzV l) 1)
  (optT 0 (in9f l) (fun n=>.ret (.int .i64 n,[])) (.ret (.lit .i64 0,[])))))
theorem fFirst9 (l:List Fu.Fix):callC c149 60 71 [.view .fix l] = first9T l:=by kernel_rfl
theorem hzV_le (l:List Fu.Fix):0≤hzV l∧hzV l≤384:=by
  unfold hzV
  cases hc:mayFs l with
  | false=>exact ⟨Int.le_refl _,by show (0:Int)≤384; omega⟩
  | true =>
    obtain ⟨h5,h4⟩:=mayFs_mem hc
    obtain ⟨_,_,k3,k4⟩:=foldHz (l:=l) (fun x hx=>(mayF_C (h4 x hx)).2) ((l.length:Int) - 0).toNat 0 0 (Int.le_refl _) (by omega) (by omega) (by omega)
    rw [show (0:Int).toNat = 0 from rfl,List.drop_zero] at k3 k4
    simp only [cond_true]
    omega
def conFirst9:Con:=flatCon (d1 (dView .fix)) (fun l=>(l.length:Int)≤1000000000000) fun l=>.int .i64 (first9 l)
theorem conFirst9_valid:ValidCon c149.P 71 conFirst9:=flatCon_valid c149_good 60 (by kernel_rfl) fun l h=>⟨_,fFirst9 l,by
  have hz:=hzV_le l
  refine .asrt h (.asrt ⟨rfl,rfl⟩ (.asrt ⟨by omega,by unfold maxI64; omega,okI_idA _ _ fun _ _ _=>trivial⟩ ?_))
  unfold first9
  cases in9f l with
  | none=>exact .itee rfl (.ret (.lit rfl) rfl)
  | some n=>exact .itet rfl (.ret (.refl _) rfl)⟩
noncomputable def c150:Cfg:=c149.addQuiet 71 conFirst9
theorem c150_good:GoodCfg c150:=c149_good.addQuiet conFirst9_valid flatCon_quiet
theorem first9_iff {l:List Fu.Fix} (hc:mayFs l = true):first9 l = 0↔∀ d:Int,1≤d→d < hzV l→sumOf l d≤d:=by
  have hz:=hzV_le l
  have hlen:=(mayFs_mem hc).1
  have ev:∀ d,allV l d = sumOf l d:=fun d=>by
    unfold allV
    rw [decide_eq_false (by omega)]; rfl
  have key:in9f l = none↔∀ d:Int,1≤d→d < hzV l→sumOf l d≤d:=by
    unfold in9f
    rw [brkI_idA]
    constructor
    · intro h d h1 h2
      have:=h d h1 (by omega)
      unfold brk9f at this
      simp only [ev] at this
      by_cases hd:sumOf l d≤d
      · exact hd
      · rw [decide_eq_true (show sumOf l d > d by omega)] at this
        cases this
    · intro h d h1 h2
      have:=h d h1 (by omega)
      unfold brk9f
      simp only [ev]
      rw [decide_eq_false (by omega)]
      rfl
  rw [← key]
  unfold first9
  constructor
  · intro h
    cases hi:in9f l with
    | none=>rfl
    | some n =>
      exfalso
      rw [hi] at h
      simp only [Option.getD_some] at h
      obtain ⟨j,h1,h2,h3⟩:=brkI_at _ _ _ (show brkI (fun x _=>x) brk9f (hzV l - 1).toNat (l,hzV l) 1 = some n from hi)
      unfold brk9f at h3
      cases hd:decide (allV l j > j) with
      | false=>simp only [hd] at h3; cases h3
      | true=>simp only [hd,cond_true,Option.some.injEq] at h3; omega
  · intro h
    rw [h]; rfl
theorem test9_eq (l:List Fu.Fix):(mayFs l && first9 l == 0) = testV l:=by
  rw [Bool.eq_iff_iff,refTest,Bool.and_eq_true,beq_iff_eq]
  constructor
  · rintro ⟨h1,h2⟩
    exact ⟨h1,(first9_iff h1).1 h2⟩
  · rintro ⟨h1,h2⟩
    exact ⟨h1,(first9_iff h1).2 h2⟩
theorem fTest9 (l:List Fu.Fix):callC c150 60 40 [.view .fix l] = .asrt ((l.length:Int)≤1000000000000) (.asrt (mayFs l = true→(l.length:Int)≤1000000000000) (.ret (.bool (mayFs l && first9 l == 0),[]))):=by kernel_rfl
def conTest9:Con:=flatCon (d1 (dView .fix)) (fun l=>(l.length:Int)≤1000000000000) fun l=>.bool (testV l)
theorem conTest9_valid:ValidCon c150.P 40 conTest9:=flatCon_valid c150_good 60 (by kernel_rfl) fun l h=>⟨_,fTest9 l,.asrt h (.asrt (fun _=>h) (.ret (by rw [test9_eq]; exact .refl _) rfl))⟩
noncomputable def c151:Cfg:=c150.addQuiet 40 conTest9
theorem c151_good:GoodCfg c151:=c150_good.addQuiet conTest9_valid flatCon_quiet
def safe17T (w:Fu.World):Tree (AV × List Blk):=.asrt (smallW w∧finB w.T) (.ite (!mayW w) noB (.asrt (smallW w) (.asrt (smallL (w.T.map liveK)) (.asrt (smallW w) (.asrt (((w.T.map fixK).length:Int)≤1000000000000) (.ret (.bool ((lookL (w.T.map liveK) w.Now).2 && testV (w.T.map fixK)),[])))))))
theorem fSafe17 (w:Fu.World):callC c151 60 19 [.agg (encW w)] = safe17T w:=by kernel_rfl
def conSafe17:Con:=flatCon (d1 dWorld) (fun w=>smallW w∧finB w.T) fun w=>.bool (safeW w)
theorem conSafe17_valid:ValidCon c151.P 19 conSafe17:=flatCon_valid c151_good 60 (by kernel_rfl) fun w h=>⟨_,fSafe17 w,by
  obtain ⟨h1,h2⟩:=h.1
  refine .asrt h (ite_rez (fun hm=>noB_rez (by unfold safeW; rw [(Bool.not_eq_true' _).mp hm]; rfl)) fun hm=>.asrt h.1 (.asrt (by unfold smallL; rw [List.length_map]; omega) (.asrt h.1 (.asrt (by rw [List.length_map]; omega) (.ret ?_ rfl)))))
  unfold safeW
  rw [(Bool.not_eq_false' _).mp hm]
  exact .refl _⟩
noncomputable def c152:Cfg:=c151.addQuiet 19 conSafe17
theorem c152_good:GoodCfg c152:=c151_good.addQuiet conSafe17_valid flatCon_quiet
end Go.Fx
