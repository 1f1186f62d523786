import Derived.Test.YtgefkgmfbmdooaaGreatTZ
namespace Go.Fx
open Go Go.Proofs
noncomputable def c103:Cfg:=c102.addCuts [120]
theorem c103_good:GoodCfg c103:=c102_good.addCuts _
abbrev AR3m:=Fu.Ring × Int
def TR3m (x:AR3m × Int):St:=⟨puts (J 25) [(1,.ptr 0 0),(3,.int .u64 x.1.2),(4,.int .i64 x.2)],[(0,.cells (encRing x.1.1))],1⟩
def sR3m:List Sh:=sets (Js 25) [(1,.keep),(3,.int),(4,.int)]
def eR3m:List Sh:=sets (Js 25) [(1,.keep),(3,.int)]
def ER3m (x:AR3m):Ex × St:=(.exit 0,⟨puts (J 25) [(1,.ptr 0 0),(3,.int .u64 x.2)],[(0,.cells (encRing x.1))],1⟩)
def nxtR3m (x:AR3m) (_:Int):AR3m:=(x.1,IntKind.u64.wrap (x.2 * 2))
theorem bR3m (x : AR3m) (i : Int) : roundN c103 60 60 (loopAt c103.P 60 5) (norm2 1 [] [0] sR3m) (norm2 1 [] [0] eR3m) (TR3m (x, i)) =
    .ite (decide (i < x.1.N)) (.ret (.normal,TR3m (nxtR3m x i,IntKind.i64.wrap (i + 1)))) (.ret (ER3m x)):=by kernel_rfl
def gR3m (σ:St):Option (AR3m × Int) :=
  match nth σ.tmps 3,nth σ.tmps 4,σ.heap with
  | .int .u64 n,.int .i64 i,[(_,.cells [.int .i64 a,.int .u64 b])]=>some ((⟨a,b⟩,n),i)
  | _,_,_=>none
def okR3m (_:AR3m) (_:Int):Prop:=True
def LR3m:LoopCon:=boundF 1 (norm2 1 [] [0] sR3m) TR3m gR3m (fun x=>x.1.N) okR3m nxtR3m ER3m
theorem lR3m (hs:SubOf c103.P 60 (.loop (loopAt c103.P 60 5))):SoundLoop c103 (loopAt c103.P 60 5) LR3m :=
  bound_fold (C:=c103) (g:=60) (l:=5) c103_good 60 1 _ _ (Weak.norm2 1 [] [0] sR3m) (Weak.norm2 1 [] [0] eR3m) hs TR3m gR3m (fun x=>x.1.N) okR3m nxtR3m ER3m
    (fun _=>by intro h; cases h) (fun _ _=>rfl)
    (fun x i h0 hi hm hok=>.of_eq (bR3m x i) (by
      unfold maxI64 at hm
      rw [wrap_fits (n:=i + 1) (by omega) (by omega)]
      exact (Tree.out_ite_true (decide_eq_true hi)).2 rfl))
    (fun x i hi=>.of_eq (bR3m x i) ((Tree.out_ite_false (decide_eq_false (by omega))).2 rfl))
noncomputable def c104:Cfg:=c103.addLoop 60 5 LR3m
theorem c104_good:GoodCfg c104:=c103_good.addLoop (by unfold OneLoop; kernel_rfl) lR3m
def may03T (h:Fu.Ring):Tree (AV × List Blk):=.ite (decide (h.N < 0) || decide (h.N > 60)) noB (.asrt (1 = 1∧TR3m ((h,1),0) = TR3m ((h,1),0))
  (.asrt (0≤(0:Int)∧h.N≤maxI64∧okI nxtR3m (fun _ _=>(none:Option Unit)) okR3m (h.N - 0).toNat (h,1) 0) (.ret (.bool (decide ((foldI nxtR3m (h.N - 0).toNat (h,1) 0).1.B < (foldI nxtR3m (h.N - 0).toNat (h,1) 0).2)),[]))))
theorem fR3m (h:Fu.Ring):callC c104 60 60 [.agg (encRing h)] = may03T h:=by kernel_rfl
theorem wrapU (n:Int) (h0:0≤n) (h1:n < 18446744073709551616):IntKind.u64.wrap n = n:=Int.emod_eq_of_lt h0 h1
theorem okR3m_all:∀ (k:Nat) (x:AR3m) (i:Int),okI nxtR3m (fun _ _=>(none:Option Unit)) okR3m k x i
  | 0,_,_=>trivial
  | k + 1,_,_=>⟨trivial,fun _=>okR3m_all k _ _⟩
theorem foldR3m (h:Fu.Ring):∀ (k:Nat) (n i:Int),0≤n→n * 2 ^ k < 18446744073709551616→foldI nxtR3m k (h,n) i = (h,n * 2 ^ k)
  | 0,n,i,_,_=>by show (h,n) = (h,n * 1); rw [Int.mul_one]
  | k + 1,n,i,h0,h1=>by
    have hp:(0:Int) < 2 ^ k:=Int.pow_pos (by decide)
    have e1:n * 2 ^ (k + 1) = n * 2 * 2 ^ k:=by rw [Int.pow_succ,Int.mul_assoc,Int.mul_comm (2 ^ k) 2]
    rw [e1] at h1
    have h3:n * 2 * 1≤n * 2 * 2 ^ k:=Int.mul_le_mul_of_nonneg_left (by omega) (by omega)
    have e2:nxtR3m (h,n) i = (h,n * 2):=by
      unfold nxtR3m
      rw [wrapU _ (by simp only; omega) (by simp only; omega)]
    show foldI nxtR3m k (nxtR3m (h,n) i) (i + 1) = _
    rw [e2,foldR3m h k (n * 2) (i + 1) (by omega) h1,e1]
theorem ringOK_lt {h:Fu.Ring} (h0:0≤h.N) (h1:h.N≤60) (hb:0≤h.B):ringOK h = decide (h.B < 2 ^ h.N.toNat):=by
  cases hd:decide (h.B < 2 ^ h.N.toNat) with
  | true =>
    have hd:=of_decide_eq_true hd
    unfold ringOK shrI
    rw [decide_eq_true h0,decide_eq_true h1,show min h.N.toNat (IntKind.bits .u64) = h.N.toNat by show min h.N.toNat 64 = _; omega]
    have hp:(0:Int) < 2 ^ h.N.toNat:=Int.pow_pos (by decide)
    rw [Int.fdiv_eq_ediv_of_nonneg _ (Int.le_of_lt hp),Int.ediv_eq_zero_of_lt hb hd]
    rfl
  | false =>
    have hd:=of_decide_eq_false hd
    cases hr:ringOK h with
    | false=>rfl
    | true=>exact absurd (ring_B hr).2.2 hd
theorem may03_rez {h:Fu.Ring} (hb:0≤h.B):Rez (may03T h) (.bool (ringOK h),[]):=by
  refine ite_rez (fun hc=>noB_rez ?_) fun hc=>.asrt ⟨rfl,rfl⟩ (.asrt ⟨Int.le_refl _,?_,okR3m_all _ _ _⟩ (.ret ?_ rfl))
  · cases hr:ringOK h with
    | false=>rfl
    | true =>
      have:=ringOK_N hr
      simp only [Bool.or_eq_true,decide_eq_true_eq] at hc
      omega
  · simp only [Bool.or_eq_false_iff,decide_eq_false_iff_not] at hc
    unfold maxI64; omega
  · simp only [Bool.or_eq_false_iff,decide_eq_false_iff_not] at hc
    have hp:=pow60 (n:=h.N.toNat) (by omega)
    have e:(h.N - 0).toNat = h.N.toNat:=by omega
    rw [e,foldR3m h h.N.toNat 1 0 (by omega) (by omega),Int.one_mul,ringOK_lt (by omega) (by omega) hb]
    exact .refl _
def conMay03:Con:=flatCon (d1 dRing) (fun h=>0≤h.B) fun h=>.bool (ringOK h)
theorem conMay03_valid:ValidCon c104.P 60 conMay03:=flatCon_valid c104_good 60 (by kernel_rfl) fun h hb=>⟨_,fR3m h,may03_rez hb⟩
noncomputable def c105:Cfg:=c104.addQuiet 60 conMay03
theorem c105_good:GoodCfg c105:=c104_good.addQuiet conMay03_valid flatCon_quiet
abbrev AR3l:=Fu.Ring × Int × List Bool
def TR3l (x:AR3l × Int):St:=match x.1.2.2 with
  | []=>⟨puts (J 29) [(1,.ptr 0 0),(3,.nils),(5,.int .u64 x.1.2.1),(6,.int .i64 x.2)],[(0,.cells (encRing x.1.1))],1⟩
  | [b]=>⟨puts (J 29) [(1,.ptr 0 0),(3,.slc 1 0 1 1),(5,.int .u64 x.1.2.1),(6,.int .i64 x.2)],[(0,.cells (encRing x.1.1)),(1,.cells [.bool b])],2⟩
  | b :: c :: l=>⟨puts (J 29) [(1,.ptr 0 0),(3,.own 1),(5,.int .u64 x.1.2.1),(6,.int .i64 x.2)],[(0,.cells (encRing x.1.1)),(1,.rows .bool 4 (b :: c :: l))],2⟩
def sR3l:List Sh:=sets (Js 29) [(1,.keep),(3,.keep),(5,.int),(6,.int)]
def eR3l:List Sh:=sets (Js 29) [(3,.keep)]
def fR3l (hs:List Nat) (ss:List Sh) (σ:St):St:=norm2 1 [.tmp 3] hs ss σ
theorem weak_fR3l (hs:List Nat) (ss:List Sh) (σ:St):Weak 1 σ (fR3l hs ss σ):=Weak.norm2 1 [.tmp 3] hs ss _
def ER3n:Ex × St:=(.exit 0,⟨puts (J 29) [(3,.nils)],[],1⟩)
def ER3s (b:Bool):Ex × St:=(.exit 0,⟨puts (J 29) [(3,.slc 1 0 1 1)],[(1,.cells [.bool b])],2⟩)
def ER3o (l:List Bool):Ex × St:=(.exit 0,⟨puts (J 29) [(3,.own 1)],[(1,.rows .bool 4 l)],2⟩)
def nx3 (x:AR3l):AR3l:=(x.1,IntKind.u64.wrap (x.2.1.tdiv 2),(x.2.1.tmod 2 == 1) :: x.2.2)
theorem bR3n (h : Fu.Ring) (n i : Int) : roundN c105 60 108 (loopAt c105.P 108 7) (fR3l [0, 1] sR3l) (fR3l [1] eR3l) (TR3l ((h, n, []), i)) =
    .ite (decide (i < h.N)) (.ret (.normal,TR3l (nx3 (h,n,[]),IntKind.i64.wrap (i + 1)))) (.ret ER3n):=by kernel_rfl
theorem bR3s (h : Fu.Ring) (n i : Int) (b : Bool) : roundN c105 60 108 (loopAt c105.P 108 7) (fR3l [0, 1] sR3l) (fR3l [1] eR3l) (TR3l ((h, n, [b]), i)) =
    .ite (decide (i < h.N)) (.asrt ([b]≠[]∧([n.tmod 2 == 1] ++ [b]).length * 1≤140737488355328) (.ret (.normal,TR3l (nx3 (h,n,[b]),IntKind.i64.wrap (i + 1))))) (.ret (ER3s b)):=by kernel_rfl
theorem bR3o (h : Fu.Ring) (n i : Int) (b c : Bool) (l : List Bool) : roundN c105 60 108 (loopAt c105.P 108 7) (fR3l [0, 1] sR3l) (fR3l [1] eR3l) (TR3l ((h, n, b :: c :: l), i)) =
    .ite (decide (i < h.N)) (.asrt (b :: c :: l≠[]∧([n.tmod 2 == 1] ++ b :: c :: l).length * 1≤140737488355328) (.ret (.normal,TR3l (nx3 (h,n,b :: c :: l),IntKind.i64.wrap (i + 1))))) (.ret (ER3o (b :: c :: l))):=by kernel_rfl
def outR3 {α:Type} (l:List Bool) (n:α) (s:Bool→α) (o:List Bool→α):Tree α:=.ite (decide (l.length = 0)) (.ret n) (.ite (decide (l.length = 1)) (.ret (s (l.headD false))) (.ret (o l)))
def LxR3 (x:AR3l × Int):Tree (Ex × St):=.asrt (0≤x.2∧x.2≤x.1.1.N∧x.1.1.N≤60∧(0≤x.1.2.1∧x.1.2.1 < 18446744073709551616)∧(x.1.2.2.length:Int)≤x.2) (outR3 (listN (x.1.1.N - x.2).toNat x.1.2.1 x.1.2.2) ER3n ER3s ER3o)
def gR3l (σ:St):Option (AR3l × Int) :=
  match nth σ.tmps 5,nth σ.tmps 6,σ.heap with
  | .int .u64 n,.int .i64 i,[(_,.cells [.int .i64 a,.int .u64 b])]=>some ((⟨a,b⟩,n,[]),i)
  | _,_,_=>none
def LR3l:LoopCon:=entry 1 (fR3l [0,1] sR3l) TR3l gR3l LxR3
theorem nx3_eq {h:Fu.Ring} {n:Int} {o:List Bool} (h0:0≤n) (h1:n < 18446744073709551616):nx3 (h,n,o) = (h,n / 2,(n % 2 == 1) :: o):=by
  unfold nx3
  simp only
  rw [Int.tdiv_eq_ediv_of_nonneg h0,Int.tmod_eq_emod_of_nonneg h0,wrapU _ (by omega) (by omega)]
def selR3 {α:Type} (n:α) (s:Bool→α) (o:List Bool→α):List Bool→α
  | []=>n
  | [b]=>s b
  | b :: c :: l=>o (b :: c :: l)
theorem outR3_out {α:Type} {l:List Bool} {n:α} {s:Bool→α} {o:List Bool→α} {q:α} (h:(outR3 l n s o).Out q):q = selR3 n s o l:=by
  unfold outR3 at h
  match l,h with
  | [],h=>exact ((Tree.out_ite_true rfl).1 h).symm
  | [b],h=>exact ((Tree.out_ite_true rfl).1 ((Tree.out_ite_false rfl).1 h)).symm
  | b :: c :: l,h=>exact ((Tree.out_ite_false (decide_eq_false (by simp))).1 ((Tree.out_ite_false (decide_eq_false (by simp))).1 h)).symm
theorem lR3l (hs:SubOf c105.P 108 (.loop (loopAt c105.P 108 7))):SoundLoop c105 (loopAt c105.P 108 7) LR3l:=by
  refine loop_rule3 (C:=c105) (g:=108) (l:=7) c105_good 60 1 _ _ (weak_fR3l [0,1] sR3l) (weak_fR3l [1] eR3l) hs TR3l LxR3 (fun x=>(x.1.1.N - x.2).toNat) (fun x q h=>?_) entry_out
  obtain ⟨⟨r,n,o⟩,i⟩:=x
  obtain ⟨⟨h0,h1,h2,⟨h3,h4⟩,h5⟩,h⟩:=Tree.out_asrt.1 h
  simp only at h0 h1 h2 h3 h4 h5 h
  have go:i < r.N→Rnd TR3l (fun x=>(x.1.1.N - x.2).toNat) LxR3 ((r,n,o),i) q (.normal,TR3l (nx3 (r,n,o),i + 1)):=fun hi=>by
    refine Rnd.go (m:=fun x:AR3l × Int=>(x.1.1.N - x.2).toNat) (x:=((r,n,o),i)) (nx3 (r,n,o),i + 1) (by rw [nx3_eq h3 h4]; simp only; omega) ?_
    rw [nx3_eq h3 h4]
    refine Tree.out_asrt.2 ⟨⟨by simp only; omega,by simp only; omega,h2,⟨by simp only; omega,by simp only; omega⟩,by simp only [List.length_cons]; omega⟩,?_⟩
    have e:(r.N - i).toNat = (r.N - (i + 1)).toNat + 1:=by omega
    rw [e] at h
    exact h
  have stop:¬ i < r.N→q = selR3 ER3n ER3s ER3o o:=fun hi=>by
    have e:(r.N - i).toNat = 0:=by omega
    rw [e] at h
    exact outR3_out (l:=o) h
  have w1:i < r.N→IntKind.i64.wrap (i + 1) = i + 1:=fun hi=>wrap_fits (by omega) (by omega)
  clear h
  rcases o with _ | ⟨b,_ | ⟨c,l⟩⟩
  · refine .of_eq (bR3n r n i) (Tree.wp_ite.2 ⟨fun hi=>?_,fun hi=>?_⟩)
    · have hi:=of_decide_eq_true hi
      rw [w1 hi]
      exact go hi
    · rw [stop (of_decide_eq_false hi)]
      exact Rnd.out rfl
  · refine .of_eq (bR3s r n i b) (Tree.wp_ite.2 ⟨fun hi=>?_,fun hi=>?_⟩)
    · have hi:=of_decide_eq_true hi
      rw [w1 hi]
      exact ⟨⟨by simp,by simp⟩,go hi⟩
    · rw [stop (of_decide_eq_false hi)]
      exact Rnd.out rfl
  · refine .of_eq (bR3o r n i b c l) (Tree.wp_ite.2 ⟨fun hi=>?_,fun hi=>?_⟩)
    · have hi:=of_decide_eq_true hi
      rw [w1 hi]
      refine ⟨⟨by simp,?_⟩,go hi⟩
      simp only [List.length_cons,List.length_append,List.length_nil] at h5 ⊢
      omega
    · rw [stop (of_decide_eq_false hi)]
      exact Rnd.out rfl
noncomputable def c106:Cfg:=c105.addLoop 108 7 LR3l
theorem c106_good:GoodCfg c106:=c105_good.addLoop (by unfold OneLoop; kernel_rfl) lR3l
def treeCon {α:Type} (D:Ds α) (t:α→Tree (AV × List Blk)):Con:=fun args=>match D.dec args with | some a=>t a | none=>.fail
theorem treeCon_valid {C:Cfg} (G:GoodCfg C) {g:Nat} (n:Nat) {α:Type} {D:Ds α} {t:α→Tree (AV × List Blk)} (he:entersB C.P g = true) (h:∀ a r,(t a).Out r→∃ t',callC C n g (D.enc a) = t'∧Rez t' r):ValidCon C.P g (treeCon D t):=by
  refine con_of (n:=n) G he fun args r hr=>?_
  unfold treeCon at hr
  split at hr
  · rename_i a ha
    obtain ⟨t',h3,v,h4,h5⟩:=h a r hr
    exact ⟨_,v,D.ok _ _ ha,h4,.of_eq h3 h5⟩
  · exact hr.elim
def list3 (h:Fu.Ring):List Bool:=bif ringOK h then listN h.N.toNat h.B [] else []
def list3T (h:Fu.Ring):Tree (AV × List Blk):=.asrt (0≤h.B) (outR3 (list3 h) (.nils,[]) (fun b=>(.slc 0 0 1 1,[.cells [.bool b]])) fun l=>(.own 0,[.rows .bool 4 l]))
def call3T (h:Fu.Ring):Tree (AV × List Blk):=.asrt (0≤h.B) (.ite (!ringOK h) (.ret (.nils,[])) (.asrt (1 = 1∧TR3l ((h,h.B,[]),0) = TR3l ((h,h.B,[]),0)) (.asrt (0≤(0:Int)∧0≤h.N∧h.N≤60∧(0≤h.B∧h.B < 18446744073709551616)∧(([]:List Bool).length:Int)≤0)
  (outR3 (listN (h.N - 0).toNat h.B []) (.nils,[]) (fun b=>(.slc 0 0 1 1,[.cells [.bool b]])) fun l=>(.own 0,[.rows .bool 4 l])))))
theorem fList3 (h:Fu.Ring):callC c106 60 108 [.agg (encRing h)] = call3T h:=by kernel_rfl
theorem conList3_valid:ValidCon c106.P 108 (treeCon (d1 dRing) list3T):=treeCon_valid c106_good 60 (by kernel_rfl) fun h r hr=>⟨_,fList3 h,by
  obtain ⟨hb,hr⟩:=Tree.out_asrt.1 hr
  refine .asrt hb ?_
  cases hk:ringOK h with
  | false =>
    have e:list3 h = []:=by unfold list3; rw [hk]; rfl
    rw [e] at hr
    have hr:=outR3_out hr
    subst hr
    exact .itet rfl (.ret (.refl _) rfl)
  | true =>
    obtain ⟨⟨n0,n1⟩,b0,b1⟩:=ring_B hk
    have hp:=pow60 (n:=h.N.toNat) (by omega)
    have e:list3 h = listN (h.N - 0).toNat h.B []:=by unfold list3; rw [hk,Int.sub_zero]; rfl
    rw [e] at hr
    exact .itee rfl (.asrt ⟨rfl,rfl⟩ (.asrt ⟨Int.le_refl _,n0,n1,⟨b0,by omega⟩,Int.le_refl _⟩ ⟨r.1,.refl _,hr⟩))⟩
noncomputable def c107:Cfg:=c106.addCon 108 (treeCon (d1 dRing) list3T)
theorem c107_good:GoodCfg c107:=c106_good.addCon conList3_valid (by kernel_rfl)
abbrev AR3f:=List Bool × Int × Int
def TR3f (x:AR3f × Int):St:=⟨puts (J 35) [(0,.view .bool x.1.1),(2,.ptr 0 0),(3,.ptr 1 0),(4,.int .i64 x.2)],[(0,.cells [.lit .i64 0,.lit .u64 0]),(1,.cells [.int .i64 x.1.2.1,.int .u64 x.1.2.2])],2⟩
def sR3f:List Sh:=sets (Js 35) [(0,.keep),(2,.keep),(3,.keep),(4,.int)]
def eR3f:List Sh:=sets (Js 35) [(2,.keep),(3,.keep)]
def fR3f (ss:List Sh) (σ:St):St:=norm2 2 [] [0,1] ss (genBlk 1 [.keep,.int] σ)
theorem weak_fR3f (ss:List Sh) (σ:St):Weak 2 σ (fR3f ss σ):=(Weak.genBlk 2 1 [.keep,.int] σ).trans (Weak.norm2 2 [] [0,1] ss _)
def ER3f (x:AR3f):Ex × St:=(.exit 0,⟨puts (J 35) [(2,.ptr 0 0),(3,.ptr 1 0)],[(0,.cells [.lit .i64 0,.lit .u64 0]),(1,.cells [.int .i64 x.2.1,.int .u64 x.2.2])],2⟩)
def nxtR3f (x:AR3f) (i:Int):AR3f:=(x.1,x.2.1,bif rd .bool x.1 i then IntKind.u64.wrap (IntKind.u64.wrap (2 * x.2.2) + 1) else IntKind.u64.wrap (2 * x.2.2))
theorem bR3f (x : AR3f) (i : Int) : roundN c107 60 107 (loopAt c107.P 107 5) (fR3f sR3f) (fR3f eR3f) (TR3f (x, i)) =
    .ite (decide (i < x.1.length)) (.asrt (0≤i∧i < x.1.length) (.ite (rd .bool x.1 i) (.ret (.normal,TR3f ((x.1,x.2.1,IntKind.u64.wrap (IntKind.u64.wrap (2 * x.2.2) + 1)),IntKind.i64.wrap (i + 1))))
      (.ret (.normal,TR3f ((x.1,x.2.1,IntKind.u64.wrap (2 * x.2.2)),IntKind.i64.wrap (i + 1)))))) (.ret (ER3f x)):=by kernel_rfl
def gR3f (σ:St):Option (AR3f × Int) :=
  match nth σ.tmps 0,nth σ.tmps 4,σ.heap with
  | .view .bool l,.int .i64 i,[_,(_,.cells [.int .i64 a,.int .u64 n])]=>some ((l,a,n),i)
  | _,_,_=>none
def okR3f (_:AR3f) (_:Int):Prop:=True
def LR3f:LoopCon:=boundF 2 (fR3f sR3f) TR3f gR3f (fun x=>x.1.length) okR3f nxtR3f ER3f
theorem lR3f (hs:SubOf c107.P 107 (.loop (loopAt c107.P 107 5))):SoundLoop c107 (loopAt c107.P 107 5) LR3f :=
  bound_fold (C:=c107) (g:=107) (l:=5) c107_good 60 2 _ _ (weak_fR3f sR3f) (weak_fR3f eR3f) hs TR3f gR3f (fun x=>x.1.length) okR3f nxtR3f ER3f
    (fun _=>by intro h; cases h) (fun _ _=>rfl)
    (fun x i h0 hi hm hok=>.of_eq (bR3f x i) (by
      unfold maxI64 at hm
      rw [wrap_fits (n:=i + 1) (by omega) (by omega)]
      refine (Tree.out_ite_true (decide_eq_true hi)).2 ⟨⟨h0,hi⟩,?_⟩
      unfold nxtR3f
      cases hb:rd .bool x.1 i with
      | true=>exact (Tree.out_ite_true rfl).2 rfl
      | false=>exact (Tree.out_ite_false rfl).2 rfl))
    (fun x i hi=>.of_eq (bR3f x i) ((Tree.out_ite_false (decide_eq_false (by omega))).2 rfl))
noncomputable def c108:Cfg:=c107.addLoop 107 5 LR3f
theorem c108_good:GoodCfg c108:=c107_good.addLoop (by unfold OneLoop; kernel_rfl) lR3f
theorem okR3f_all:∀ (k:Nat) (x:AR3f) (i:Int),okI nxtR3f (fun _ _=>(none:Option Unit)) okR3f k x i
  | 0,_,_=>trivial
  | k + 1,_,_=>⟨trivial,fun _=>okR3f_all k _ _⟩
theorem foldR3f (l:List Bool) (a:Int):∀ (k:Nat) (n i:Int),0≤n→(n + 1) * 2 ^ k≤18446744073709551616→0≤i→i + k = l.length→foldI nxtR3f k (l,a,n) i = (l,a,valN n (l.drop i.toNat))
  | 0,n,i,_,_,_,h=>by
    rw [drop_end (by omega)]
    rfl
  | k + 1,n,i,h0,h1,h2,h3=>by
    have hd:=drop_rd (r:=.bool) (xs:=l) h2 (by omega)
    have hp:(0:Int) < 2 ^ k:=Int.pow_pos (by decide)
    have e1:(n + 1) * 2 ^ (k + 1) = (2 * n + 2) * 2 ^ k:=by rw [Int.pow_succ,Int.mul_comm (2 ^ k) 2,← Int.mul_assoc,Int.add_mul,Int.mul_comm n 2]; rfl
    rw [e1] at h1
    have hle:(2 * n + 2) * 1≤(2 * n + 2) * 2 ^ k:=Int.mul_le_mul_of_nonneg_left (by omega) (by omega)
    have e2:nxtR3f (l,a,n) i = (l,a,2 * n + bitI (rd .bool l i)):=by
      unfold nxtR3f
      simp only
      rw [wrapU (2 * n) (by omega) (by omega)]
      cases rd .bool l i with
      | true =>
        simp only [cond_true]
        rw [wrapU (2 * n + 1) (by omega) (by omega)]
        rfl
      | false=>simp only [cond_false]; rw [show bitI false = 0 from rfl,Int.add_zero]
    have hb:0≤bitI (rd .bool l i)∧bitI (rd .bool l i)≤1:=by cases rd .bool l i <;> exact ⟨by decide,by decide⟩
    show foldI nxtR3f k (nxtR3f (l,a,n) i) (i + 1) = _
    rw [e2,foldR3f l a k _ (i + 1) (by omega) (Int.le_trans (Int.mul_le_mul_of_nonneg_right (by omega) (by omega)) h1) (by omega) (by omega),hd]
    rfl
def ofA3 (l:List Bool):Tree (AV × List Blk):=.asrt (2 = 2∧TR3f ((l,(l.length:Int),0),0) = TR3f ((l,(l.length:Int),0),0)) (.asrt (0≤(0:Int)∧(l.length:Int)≤maxI64∧okI nxtR3f (fun _ _=>(none:Option Unit)) okR3f ((l.length:Int) - 0).toNat (l,(l.length:Int),0) 0)
  (.ret (.agg [.int .i64 (foldI nxtR3f ((l.length:Int) - 0).toNat (l,(l.length:Int),0) 0).2.1,.int .u64 (foldI nxtR3f ((l.length:Int) - 0).toNat (l,(l.length:Int),0) 0).2.2],[])))
def of3T (l:List Bool):Tree (AV × List Blk):=.ite (decide ((l.length:Int) > 60)) (.asrt (0≤lowOf (some (false,IntKind.i64.wrap ((l.length:Int) - 60)))∧lowOf (some (false,IntKind.i64.wrap ((l.length:Int) - 60)))≤highOf none l.length∧highOf none l.length≤l.length)
  (ofA3 (List.drop (lowOf (some (false,IntKind.i64.wrap ((l.length:Int) - 60)))).toNat (List.take (highOf none l.length).toNat l)))) (ofA3 l)
theorem fOf3 (l:List Bool):callC c108 60 107 [.view .bool l] = of3T l:=by kernel_rfl
theorem ofA3_rez {l:List Bool} (hl:l.length≤60):Rez (ofA3 l) (.agg (encRing ⟨l.length,valN 0 l⟩),[]):=by
  refine .asrt ⟨rfl,rfl⟩ (.asrt ⟨Int.le_refl _,by unfold maxI64; omega,okR3f_all _ _ _⟩ (.ret ?_ rfl))
  have hp:=pow60 (n:=l.length) (by omega)
  have e:((l.length:Int) - 0).toNat = l.length:=by omega
  rw [e,foldR3f l _ l.length 0 0 (Int.le_refl _) (by omega) (Int.le_refl _) (by omega)]
  exact .refl _
def of3 (l:List Bool):Fu.Ring :=
  let l':=bif decide ((l.length:Int) > 60) then l.drop (l.length - 60) else l
  ⟨l'.length,valN 0 l'⟩
theorem of3_rez {l:List Bool} (hl:(l.length:Int)≤1000):Rez (of3T l) (.agg (encRing (of3 l)),[]):=by
  unfold of3
  refine ite_rez (fun h=>?_) fun h=>?_
  · have h':=of_decide_eq_true h
    rw [h]
    have e1:lowOf (some (false,IntKind.i64.wrap ((l.length:Int) - 60))) = (l.length:Int) - 60:=by
      rw [wrap_fits (n:=(l.length:Int) - 60) (by omega) (by omega)]; rfl
    have e2:highOf none l.length = l.length:=rfl
    rw [e1,e2]
    refine .asrt ⟨by omega,by omega,by omega⟩ ?_
    have e3:((l.length:Int) - 60).toNat = l.length - 60:=by omega
    rw [e3,Int.toNat_natCast,List.take_length]
    exact ofA3_rez (by rw [List.length_drop]; omega)
  · have h':=of_decide_eq_false h
    rw [h]
    exact ofA3_rez (by omega)
def conOf3:Con:=flatCon (d1 (dView .bool)) (fun l=>(l.length:Int)≤1000) fun l=>.agg (encRing (of3 l))
theorem conOf3_valid:ValidCon c108.P 107 conOf3:=flatCon_valid c108_good 60 (by kernel_rfl) fun l hl=>⟨_,fOf3 l,of3_rez hl⟩
noncomputable def c109:Cfg:=c108.addQuiet 107 conOf3
theorem c109_good:GoodCfg c109:=c108_good.addQuiet conOf3_valid flatCon_quiet
theorem of3_put (h:Fu.Ring) (g:Bool):of3 (list3 h ++ [g]) = putRing h g:=refPut_eq h g
theorem list3_len {h:Fu.Ring}:(list3 h).length≤60:=by
  unfold list3
  cases hk:ringOK h with
  | false=>exact Nat.zero_le _
  | true =>
    have:=ringOK_N hk
    simp only [cond_true,listN_len,List.length_nil]
    omega
def put3T (h:Fu.Ring) (g:Bool):Tree (AV × List Blk):=.asrt (0≤h.B) (.ite (decide ((list3 h).length = 0)) (.asrt (([] ++ [g]).length * 1≤140737488355328) (.asrt ((([] ++ [g]:List Bool).length:Int)≤1000) (.ret (.agg (encRing (of3 ([] ++ [g]))),[]))))
  (.ite (decide ((list3 h).length = 1)) (.asrt ([g]≠[]∧([(list3 h).headD false] ++ [g]).length * 1≤140737488355328) (.asrt ((([(list3 h).headD false] ++ [g]:List Bool).length:Int)≤1000) (.ret (.agg (encRing (of3 ([(list3 h).headD false] ++ [g]))),[]))))
    (.asrt ((list3 h ++ [g]).length * 1≤140737488355328) (.asrt (((list3 h ++ [g]:List Bool).length:Int)≤1000) (.ret (.agg (encRing (of3 (list3 h ++ [g]))),[]))))))
theorem fPut3 (h:Fu.Ring) (g:Bool):callC c109 60 75 [.agg (encRing h),.bool g] = put3T h g:=by kernel_rfl
theorem put3_rez {h:Fu.Ring} {g:Bool} (hb:0≤h.B):Rez (put3T h g) (.agg (encRing (putRing h g)),[]):=by
  have hl:=list3_len (h:=h)
  rw [← of3_put]
  refine .asrt hb (ite_rez (fun h0=>.asrt (by simp) (.asrt (by simp) ?_)) fun _=>ite_rez (fun h1=>.asrt (by simp) (.asrt (by simp) ?_)) fun _=>.asrt (by simp only [List.length_append,List.length_cons,List.length_nil]; omega) (.asrt (by simp only [List.length_append,List.length_cons,List.length_nil]; omega) (.ret (.refl _) rfl)))
  · rw [List.eq_nil_of_length_eq_zero (of_decide_eq_true h0)]
    exact .ret (.refl _) rfl
  · obtain ⟨b,hb⟩:=List.length_eq_one_iff.1 (of_decide_eq_true h1)
    rw [hb]
    exact .ret (.refl _) rfl
def conPut3:Con:=flatCon (d2 dRing dBool) (fun x=>0≤x.1.B) fun x=>.agg (encRing (putRing x.1 x.2))
theorem conPut3_valid:ValidCon c109.P 75 conPut3:=flatCon_valid c109_good 60 (by kernel_rfl) fun x hb=>⟨_,fPut3 x.1 x.2,put3_rez hb⟩
noncomputable def c110:Cfg:=c109.addQuiet 75 conPut3
theorem c110_good:GoodCfg c110:=c109_good.addQuiet conPut3_valid flatCon_quiet
end Go.Fx
