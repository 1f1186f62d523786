import Derived.Test.YtgefkgmfbmdooaaGreatR1
namespace Go.Fx
open Go Go.Proofs
abbrev ANr:=Fu.World × Bool
def TNr (x:ANr × Int):St:=⟨puts (J 158) [(1,.ptr 0 0),(3,.bool x.1.2),(4,.int .i64 x.2)],[(0,.cells (encW x.1.1))],1⟩
def sNr:List Sh:=sets (Js 158) [(1,.keep),(3,.bool),(4,.int)]
def eNr:List Sh:=sets (Js 158) [(1,.keep),(3,.bool)]
def ENr (x:ANr):Ex × St:=(.exit 0,⟨puts (J 158) [(1,.ptr 0 0),(3,.bool x.2)],[(0,.cells (encW x.1))],1⟩)
def nT (t:Fu.Task):Bool:=decide (t.J.C≤1000) && (decide (t.J.C≥-1000) && (decide (t.J.D≤1000) && (decide (t.J.D≥-1000) && (decide (t.J.Ran≤1000) && (decide (t.J.Ran≥-1000) && (decide (t.Next≤1099511627776) && (decide (t.Next≥-1099511627776) && (decide (t.At≤1125899906842624) && (decide (t.At≥-1125899906842624) && (decide (t.N≤1125899906842624) && decide (t.N≥-1125899906842624)))))))))))
theorem bNr (x : ANr) (i : Int) : roundN c99 60 5 (loopAt c99.P 5 3) (norm2 1 [] [0] sNr) (norm2 1 [] [0] eNr) (TNr (x, i)) =
    .ite (decide (i < x.1.T.length) && x.2) (.asrt (0≤i∧i < x.1.T.length) (.ret (.normal,TNr ((x.1,nT (rd .task x.1.T i)),IntKind.i64.wrap (i + 1))))) (.ret (ENr x)):=by kernel_rfl
def gNr (σ:St):Option (ANr × Int) :=
  match nth σ.tmps 3,nth σ.tmps 4,σ.heap with
  | .bool b,.int .i64 i,[(_,.cells [.int .i64 a,.view .task t,.view .ape q,.int .i64 c])]=>some ((⟨a,t,q,c⟩,b),i)
  | _,_,_=>none
def LxNr (x:ANr × Int):Tree (Ex × St):=.asrt (0≤x.2∧x.2≤x.1.1.T.length∧(x.1.1.T.length:Int) < 17592186044416) (.ret (ENr (x.1.1,x.1.2 && (x.1.1.T.drop x.2.toNat).all nT)))
def LNr:LoopCon:=entry 1 (norm2 1 [] [0] sNr) TNr gNr LxNr
theorem lNr (hs:SubOf c99.P 5 (.loop (loopAt c99.P 5 3))):SoundLoop c99 (loopAt c99.P 5 3) LNr:=by
  refine loop_rule3 (C:=c99) (g:=5) (l:=3) c99_good 60 1 _ _ (Weak.norm2 1 [] [0] sNr) (Weak.norm2 1 [] [0] eNr) hs TNr LxNr (fun x=>(x.1.1.T.length - x.2).toNat) (fun x q h=>?_) entry_out
  obtain ⟨⟨w,ok⟩,i⟩:=x
  obtain ⟨⟨h0,h1,h2⟩,h⟩:=Tree.out_asrt.1 h
  simp only at h0 h1 h2 h
  refine .of_eq (bNr (w,ok) i) ?_
  simp only
  rw [wrap_fits (n:=i + 1) (by omega) (by omega)]
  refine Tree.wp_ite.2 ⟨fun hi=>?_,fun hi=>?_⟩
  · rw [Bool.and_eq_true,decide_eq_true_eq] at hi
    obtain ⟨hi,rfl⟩:=hi
    rw [drop_rd (r:=.task) (xs:=w.T) h0 hi,List.all_cons,Bool.true_and] at h
    exact ⟨⟨h0,hi⟩,Rnd.go (m:=fun x:ANr × Int=>(x.1.1.T.length - x.2).toNat) (x:=((w,true),i)) ((w,nT (rd .task w.T i)),i + 1) (by simp only; omega) (Tree.out_asrt.2 ⟨⟨by simp only; omega,by simp only; omega,h2⟩,h⟩)⟩
  · rw [Bool.and_eq_false_iff,decide_eq_false_iff_not] at hi
    have e:(ok && (w.T.drop i.toNat).all nT) = ok:=by
      rcases hi with hi | hi
      · rw [drop_end (xs:=w.T) (by omega)]; simp
      · rw [hi]; rfl
    rw [e] at h
    exact Rnd.out h
noncomputable def c100:Cfg:=c99.addLoop 5 3 LNr
theorem c100_good:GoodCfg c100:=c99_good.addLoop (by unfold OneLoop; kernel_rfl) lNr
def TNa (x:ANr × Int):St:=⟨puts (J 158) [(1,.ptr 0 0),(3,.bool x.1.2),(7,.int .i64 x.2)],[(0,.cells (encW x.1.1))],1⟩
def sNa:List Sh:=sets (Js 158) [(1,.keep),(3,.bool),(7,.int)]
def eNa:List Sh:=sets (Js 158) [(3,.bool)]
def ENa (b:Bool):Ex × St:=(.exit 2,⟨puts (J 158) [(3,.bool b)],[],1⟩)
def nA (a:Fu.Ape):Bool:=decide (a.Due≤1125899906842624) && (decide (a.Due≥-1125899906842624) && (decide (a.C≤1125899906842624) && (decide (a.C≥-1125899906842624) && (decide (a.Ran≤1125899906842624) && (decide (a.Ran≥-1125899906842624) && (decide (a.ID≤1125899906842624) && decide (a.ID≥-1125899906842624)))))))
theorem bNa (x : ANr) (i : Int) : roundN c100 60 5 (loopAt c100.P 5 9) (norm2 1 [] [0] sNa) (norm2 1 [] [] eNa) (TNa (x, i)) =
    .ite (decide (i < x.1.A.length) && x.2) (.asrt (0≤i∧i < x.1.A.length) (.ret (.normal,TNa ((x.1,nA (rd .ape x.1.A i)),IntKind.i64.wrap (i + 1))))) (.ret (ENa x.2)):=by kernel_rfl
def gNa (σ:St):Option (ANr × Int) :=
  match nth σ.tmps 3,nth σ.tmps 7,σ.heap with
  | .bool b,.int .i64 i,[(_,.cells [.int .i64 a,.view .task t,.view .ape q,.int .i64 c])]=>some ((⟨a,t,q,c⟩,b),i)
  | _,_,_=>none
def LxNa (x:ANr × Int):Tree (Ex × St):=.asrt (0≤x.2∧x.2≤x.1.1.A.length∧(x.1.1.A.length:Int) < 17592186044416) (.ret (ENa (x.1.2 && (x.1.1.A.drop x.2.toNat).all nA)))
def LNa:LoopCon:=entry 1 (norm2 1 [] [0] sNa) TNa gNa LxNa
theorem lNa (hs:SubOf c100.P 5 (.loop (loopAt c100.P 5 9))):SoundLoop c100 (loopAt c100.P 5 9) LNa:=by
  refine loop_rule3 (C:=c100) (g:=5) (l:=9) c100_good 60 1 _ _ (Weak.norm2 1 [] [0] sNa) (Weak.norm2 1 [] [] eNa) hs TNa LxNa (fun x=>(x.1.1.A.length - x.2).toNat) (fun x q h=>?_) entry_out
  obtain ⟨⟨w,ok⟩,i⟩:=x
  obtain ⟨⟨h0,h1,h2⟩,h⟩:=Tree.out_asrt.1 h
  simp only at h0 h1 h2 h
  refine .of_eq (bNa (w,ok) i) ?_
  simp only
  rw [wrap_fits (n:=i + 1) (by omega) (by omega)]
  refine Tree.wp_ite.2 ⟨fun hi=>?_,fun hi=>?_⟩
  · rw [Bool.and_eq_true,decide_eq_true_eq] at hi
    obtain ⟨hi,rfl⟩:=hi
    rw [drop_rd (r:=.ape) (xs:=w.A) h0 hi,List.all_cons,Bool.true_and] at h
    exact ⟨⟨h0,hi⟩,Rnd.go (m:=fun x:ANr × Int=>(x.1.1.A.length - x.2).toNat) (x:=((w,true),i)) ((w,nA (rd .ape w.A i)),i + 1) (by simp only; omega) (Tree.out_asrt.2 ⟨⟨by simp only; omega,by simp only; omega,h2⟩,h⟩)⟩
  · rw [Bool.and_eq_false_iff,decide_eq_false_iff_not] at hi
    have e:(ok && (w.A.drop i.toNat).all nA) = ok:=by
      rcases hi with hi | hi
      · rw [drop_end (xs:=w.A) (by omega)]; simp
      · rw [hi]; rfl
    rw [e] at h
    exact Rnd.out h
noncomputable def c101:Cfg:=c100.addLoop 5 9 LNa
theorem c101_good:GoodCfg c101:=c100_good.addLoop (by unfold OneLoop; kernel_rfl) lNa
def n0W (w:Fu.World):Bool:=decide ((w.T.length:Int)≤10) && (decide ((w.A.length:Int)≤10) && (decide (w.Now≤1125899906842624) && decide (w.Now≥-1125899906842624)))
def nearW (w:Fu.World):Bool:=(n0W w && (w.T.drop (0:Int).toNat).all nT) && (w.A.drop (0:Int).toNat).all nA
def nearWT (w:Fu.World):Tree (AV × List Blk):=.asrt (1 = 1∧TNr ((w,n0W w),0) = TNr ((w,n0W w),0)) (.asrt (0≤(0:Int)∧(0:Int)≤w.T.length∧(w.T.length:Int) < 17592186044416)
  (.asrt (1 = 1∧TNa ((w,n0W w && (w.T.drop (0:Int).toNat).all nT),0) = TNa ((w,n0W w && (w.T.drop (0:Int).toNat).all nT),0)) (.asrt (0≤(0:Int)∧(0:Int)≤w.A.length∧(w.A.length:Int) < 17592186044416) (.ret (.bool (nearW w),[])))))
theorem fNearW (w:Fu.World):callC c101 60 5 [.agg (encW w)] = nearWT w:=by kernel_rfl
def conNearW:Con:=flatCon (d1 dWorld) smallW fun w=>.bool (nearW w)
theorem conNearW_valid:ValidCon c101.P 5 conNearW:=flatCon_valid c101_good 60 (by kernel_rfl) fun w h=>⟨_,fNearW w,by
  obtain ⟨h1,h2⟩:=h
  exact .asrt ⟨rfl,rfl⟩ (.asrt ⟨Int.le_refl _,by omega,by omega⟩ (.asrt ⟨rfl,rfl⟩ (.asrt ⟨Int.le_refl _,by omega,by omega⟩ (.ret (.refl _) rfl))))⟩
noncomputable def c102:Cfg:=c101.addQuiet 5 conNearW
theorem c102_good:GoodCfg c102:=c101_good.addQuiet conNearW_valid flatCon_quiet
end Go.Fx
