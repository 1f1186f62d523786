import Derived.Test.YtgefkgmfbmdooaaGreatT8
import Derived.Test.YtgefkgmfbmdooaaGreatTZ
namespace Go.Fx
open Go Go.Proofs
abbrev A17m:=Fu.World × Int
def T17m (x:A17m):St:=⟨puts (J 119) [(1,.ptr 0 0),(4,.int .i64 x.2)],[(0,.cells (encW x.1))],1⟩
def s17m:List Sh:=sets (Js 119) [(1,.keep),(4,.int)]
def e17m:List Sh:=sets (Js 119) [(1,.keep),(2,.keep)]
def T17n (x:A17m):St:=⟨puts (J 119) [(1,.ptr 0 0),(6,.int .i64 x.2)],[(0,.cells (encW x.1))],1⟩
def s17n:List Sh:=sets (Js 119) [(1,.keep),(6,.int)]
def e17n:List Sh:=sets (Js 119) [(2,.keep)]
theorem rd_memT9 {T:List Fu.Task} {i:Int} (h0:0≤i) (h1:i < T.length):rd .task T i ∈ T:=by
  obtain ⟨n,rfl⟩:∃ n:Nat,i = n:=⟨i.toNat,by omega⟩
  have hn:n < T.length:=by omega
  have e:rd .task T (n:Int) = T[n]:=by unfold rd; simp [hn]
  rw [e]
  exact List.getElem_mem _
def bad17 (w:Fu.World) (i:Int):Bool:=!mayK (rd .task w.T i) w.Now || bif (rd .task w.T i).J.On then decide ((rd .task w.T i).J.Due≤w.Now) || decide (i > 0) && decide ((rd .task w.T i).ID≤(rd .task w.T (IntKind.i64.wrap (i - 1))).ID) else decide (i > 0) && decide ((rd .task w.T i).ID≤(rd .task w.T (IntKind.i64.wrap (i - 1))).ID)
def R17m (w:Fu.World):Ex × St:=(.ret,⟨puts (J 119) [(1,.ptr 0 0),(2,.blit false)],[(0,.cells (encW w))],1⟩)
def E17m (w:Fu.World):Ex × St:=(.exit 0,⟨puts (J 119) [(1,.ptr 0 0)],[(0,.cells (encW w))],1⟩)
def pr17m (w:Fu.World) (i:Int):Prop:=0≤IntKind.i64.wrap (i - 1)∧IntKind.i64.wrap (i - 1) < w.T.length
theorem b17m (w : Fu.World) (i : Int) : roundN c131 60 17 (loopAt c131.P 17 5) (norm2 1 [] [0] s17m) (norm2 1 [] [0] e17m) (T17m (w, i)) =
    .ite (decide (i < w.T.length)) (.asrt (0≤i∧i < w.T.length) (.asrt (0≤(rd .task w.T i).H.B) (.asrt ((!mayK (rd .task w.T i) w.Now) = false→0≤i∧i < w.T.length) (.asrt ((!mayK (rd .task w.T i) w.Now) = false→(rd .task w.T i).J.On = true→0≤i∧i < w.T.length)
      (.asrt ((!mayK (rd .task w.T i) w.Now) = false→(rd .task w.T i).J.On = true→decide ((rd .task w.T i).J.Due≤w.Now) = false→decide (i > 0) = true→0≤i∧i < w.T.length)
      (.asrt ((!mayK (rd .task w.T i) w.Now) = false→(rd .task w.T i).J.On = true→decide ((rd .task w.T i).J.Due≤w.Now) = false→decide (i > 0) = true→pr17m w i)
      (.asrt ((!mayK (rd .task w.T i) w.Now) = false→(rd .task w.T i).J.On = false→decide (i > 0) = true→0≤i∧i < w.T.length)
      (.asrt ((!mayK (rd .task w.T i) w.Now) = false→(rd .task w.T i).J.On = false→decide (i > 0) = true→pr17m w i)
      (.ite (bad17 w i) (.ret (R17m w)) (.ret (.normal,T17m (w,IntKind.i64.wrap (i + 1))))))))))))) (.ret (E17m w)):=by kernel_rfl
def g17m (σ:St):Option A17m :=
  match nth σ.tmps 4,σ.heap with
  | .int .i64 i,[(_,.cells [.int .i64 a,.view .task t,.view .ape p,.int .i64 c])]=>some (⟨a,t,p,c⟩,i)
  | _,_=>none
def prT (w:Fu.World) (i:Int):Option Int:=bif decide (i > 0) then some (rd .task w.T (i - 1)).ID else none
theorem bad17_eq {w:Fu.World} {i:Int} (h0:0≤i) (h1:i≤9223372036854775807):bad17 w i = !(tkOK w.Now (rd .task w.T i) && moreO (prT w i) (rd .task w.T i).ID):=by
  unfold bad17 tkOK prT
  rw [wrap_fits (n:=i - 1) (by omega) (by omega)]
  by_cases hp:i > 0
  · rw [decide_eq_true hp]
    simp only [cond_true,moreO,Bool.true_and]
    have e:decide ((rd .task w.T i).ID≤(rd .task w.T (i - 1)).ID) = !decide ((rd .task w.T (i - 1)).ID < (rd .task w.T i).ID):=by
      rw [← decide_not]
      exact decide_eq_decide.2 (by omega)
    rw [e]
    cases mayK (rd .task w.T i) w.Now <;> cases (rd .task w.T i).J.On <;> cases decide ((rd .task w.T i).J.Due≤w.Now) <;> cases decide ((rd .task w.T (i - 1)).ID < (rd .task w.T i).ID) <;> rfl
  · rw [decide_eq_false hp]
    simp only [cond_false,moreO,Bool.false_and]
    cases mayK (rd .task w.T i) w.Now <;> cases (rd .task w.T i).J.On <;> cases decide ((rd .task w.T i).J.Due≤w.Now) <;> rfl
def finB (T:List Fu.Task):Prop:=∀ t ∈ T,0≤t.H.B
def Lx17m (x:A17m):Tree (Ex × St):=.asrt (0≤x.2∧x.2≤x.1.T.length∧(x.1.T.length:Int)≤17592186044415∧finB x.1.T) (.ite (ascW x.1.Now (prT x.1 x.2) (x.1.T.drop x.2.toNat)) (.ret (E17m x.1)) (.ret (R17m x.1)))
def L17m:LoopCon:=entry 1 (norm2 1 [] [0] s17m) T17m g17m Lx17m
theorem l17m (hs:SubOf c131.P 17 (.loop (loopAt c131.P 17 5))):SoundLoop c131 (loopAt c131.P 17 5) L17m:=by
  refine loop_rule3 (C:=c131) (g:=17) (l:=5) c131_good 60 1 _ _ (Weak.norm2 1 [] [0] s17m) (Weak.norm2 1 [] [0] e17m) hs T17m Lx17m (fun x=>(x.1.T.length - x.2).toNat) (fun x q h=>?_) entry_out
  obtain ⟨w,i⟩:=x
  obtain ⟨⟨h0,h1,h2,h3⟩,h⟩:=Tree.out_asrt.1 h
  simp only at h0 h1 h2 h3 h
  refine .of_eq (b17m w i) ?_
  rw [wrap_fits (n:=i + 1) (by omega) (by omega),bad17_eq h0 (by omega)]
  refine Tree.wp_ite.2 ⟨fun hi=>?_,fun hi=>?_⟩
  · have hi:i < (w.T.length:Int):=of_decide_eq_true hi
    have hp:decide (i > 0) = true→pr17m w i:=fun hq=>by
      have hq:=of_decide_eq_true hq
      unfold pr17m
      rw [wrap_fits (n:=i - 1) (by omega) (by omega)]
      omega
    have hd:=drop_rd (r:=.task) (xs:=w.T) h0 hi
    rw [hd] at h
    refine ⟨⟨h0,hi⟩,h3 _ (rd_memT9 h0 hi),fun _=>⟨h0,hi⟩,fun _ _=>⟨h0,hi⟩,fun _ _ _ _=>⟨h0,hi⟩,fun _ _ _=>hp,fun _ _ _=>⟨h0,hi⟩,fun _ _=>hp,?_⟩
    have e:ascW w.Now (prT w i) (rd .task w.T i :: w.T.drop (i + 1).toNat) = ((tkOK w.Now (rd .task w.T i) && moreO (prT w i) (rd .task w.T i).ID) && ascW w.Now (some (rd .task w.T i).ID) (w.T.drop (i + 1).toNat)):=rfl
    rw [e] at h
    refine Tree.wp_ite.2 ⟨fun hb=>?_,fun hb=>?_⟩
    · have hb:(tkOK w.Now (rd .task w.T i) && moreO (prT w i) (rd .task w.T i).ID) = false:=(Bool.not_eq_true' _).mp hb
      rw [hb,Bool.false_and] at h
      exact Rnd.ret h
    · have hb:(tkOK w.Now (rd .task w.T i) && moreO (prT w i) (rd .task w.T i).ID) = true:=(Bool.not_eq_false' _).mp hb
      rw [hb,Bool.true_and] at h
      have e2:prT w (i + 1) = some (rd .task w.T i).ID:=by
        unfold prT
        rw [decide_eq_true (show i + 1 > 0 by omega),Int.add_sub_cancel]
        rfl
      exact Rnd.go (m:=fun x:A17m=>(x.1.T.length - x.2).toNat) (x:=(w,i)) (w,i + 1) (by simp only; omega) (Tree.out_asrt.2 ⟨⟨by simp only; omega,by simp only; omega,h2,h3⟩,by simp only; rw [e2]; exact h⟩)
  · have hi:¬ i < (w.T.length:Int):=of_decide_eq_false hi
    rw [drop_end (by omega)] at h
    exact Rnd.out h
noncomputable def c132:Cfg:=c131.addLoop 17 5 L17m
theorem c132_good:GoodCfg c132:=c131_good.addLoop (by unfold OneLoop; kernel_rfl) l17m
def R17n:Ex × St:=(.ret,⟨puts (J 119) [(2,.blit false)],[],1⟩)
def E17n:Ex × St:=(.exit 2,⟨puts (J 119) [],[],1⟩)
theorem b17n (w : Fu.World) (i : Int) : roundN c132 60 17 (loopAt c132.P 17 11) (norm2 1 [] [0] s17n) (norm2 1 [] [] e17n) (T17n (w, i)) =
    .ite (decide (i < w.A.length)) (.asrt (0≤i∧i < w.A.length) (.asrt (0≤IntKind.i64.wrap (i - 1)∧IntKind.i64.wrap (i - 1) < w.A.length) (.ite (decide ((rd .ape w.A i).ID≤(rd .ape w.A (IntKind.i64.wrap (i - 1))).ID)) (.ret R17n) (.ret (.normal,T17n (w,IntKind.i64.wrap (i + 1))))))) (.ret E17n):=by kernel_rfl
def g17n (σ:St):Option A17m :=
  match nth σ.tmps 6,σ.heap with
  | .int .i64 i,[(_,.cells [.int .i64 a,.view .task t,.view .ape p,.int .i64 c])]=>some (⟨a,t,p,c⟩,i)
  | _,_=>none
def Lx17n (x:A17m):Tree (Ex × St):=.asrt (1≤x.2∧(x.1.A.length:Int)≤17592186044415) (.ite (ascV (some (rd .ape x.1.A (x.2 - 1)).ID) (x.1.A.drop x.2.toNat)) (.ret E17n) (.ret R17n))
def L17n:LoopCon:=entry 1 (norm2 1 [] [0] s17n) T17n g17n Lx17n
theorem l17n (hs:SubOf c132.P 17 (.loop (loopAt c132.P 17 11))):SoundLoop c132 (loopAt c132.P 17 11) L17n:=by
  refine loop_rule3 (C:=c132) (g:=17) (l:=11) c132_good 60 1 _ _ (Weak.norm2 1 [] [0] s17n) (Weak.norm2 1 [] [] e17n) hs T17n Lx17n (fun x=>(x.1.A.length - x.2).toNat) (fun x q h=>?_) entry_out
  obtain ⟨w,i⟩:=x
  obtain ⟨⟨h0,h2⟩,h⟩:=Tree.out_asrt.1 h
  simp only at h0 h2 h
  refine .of_eq (b17n w i) ?_
  refine Tree.wp_ite.2 ⟨fun hi=>?_,fun hi=>?_⟩
  · have hi:i < (w.A.length:Int):=of_decide_eq_true hi
    rw [wrap_fits (n:=i + 1) (by omega) (by omega),wrap_fits (n:=i - 1) (by omega) (by omega)]
    have hd:=drop_rd (r:=.ape) (xs:=w.A) (by omega:0≤i) hi
    rw [hd] at h
    refine ⟨⟨by omega,hi⟩,⟨by omega,by omega⟩,?_⟩
    have e:ascV (some (rd .ape w.A (i - 1)).ID) (rd .ape w.A i :: w.A.drop (i + 1).toNat) = (decide ((rd .ape w.A (i - 1)).ID < (rd .ape w.A i).ID) && ascV (some (rd .ape w.A i).ID) (w.A.drop (i + 1).toNat)):=rfl
    rw [e] at h
    refine Tree.wp_ite.2 ⟨fun hb=>?_,fun hb=>?_⟩
    · have hb:=of_decide_eq_true hb
      rw [decide_eq_false (by omega),Bool.false_and] at h
      exact Rnd.ret h
    · have hb:=of_decide_eq_false hb
      rw [decide_eq_true (by omega),Bool.true_and] at h
      exact Rnd.go (m:=fun x:A17m=>(x.1.A.length - x.2).toNat) (x:=(w,i)) (w,i + 1) (by simp only; omega) (Tree.out_asrt.2 ⟨⟨by simp only; omega,h2⟩,by simp only; rw [Int.add_sub_cancel]; exact h⟩)
  · have hi:¬ i < (w.A.length:Int):=of_decide_eq_false hi
    rw [drop_end (by omega)] at h
    exact Rnd.out h
noncomputable def c133:Cfg:=c132.addLoop 17 11 L17n
theorem c133_good:GoodCfg c133:=c132_good.addLoop (by unfold OneLoop; kernel_rfl) l17n
def badW17 (w:Fu.World):Bool:=decide (w.Now < 0) || (decide (w.Now > 274877906944) || (decide ((w.T.length:Int) > 4) || (decide (w.Cur < -1) || (decide (w.Cur > 549755813888) || !mayA w.A w.Now))))
def may17T (w:Fu.World):Tree (AV × List Blk):=.asrt ((w.A.length:Int) < 17592186044416) (.ite (badW17 w) noB (.asrt (1 = 1∧T17m (w,0) = T17m (w,0)) (.asrt (0≤(0:Int)∧(0:Int)≤w.T.length∧(w.T.length:Int)≤17592186044415∧finB w.T)
  (.ite (ascW w.Now (prT w 0) (w.T.drop (0:Int).toNat)) (.asrt (1 = 1∧T17n (w,1) = T17n (w,1)) (.asrt (1≤(1:Int)∧(w.A.length:Int)≤17592186044415) (.ite (ascV (some (rd .ape w.A (1 - 1)).ID) (w.A.drop (1:Int).toNat)) (.ret (.blit true,[])) noB))) noB))))
theorem fMay17 (w:Fu.World):callC c133 60 17 [.agg (encW w)] = may17T w:=by kernel_rfl
theorem ascV_one (A:List Fu.Ape):ascV (some (rd .ape A (1 - 1)).ID) (A.drop (1:Int).toNat) = ascV none A:=by
  cases A with
  | nil=>rfl
  | cons a l=>rfl
theorem may17T_rez {w:Fu.World} (h:smallW w) (hf:finB w.T):Rez (may17T w) (.bool (mayW w),[]):=by
  obtain ⟨h1,h2⟩:=h
  have e:mayW w = (!badW17 w && (ascW w.Now none w.T && ascV none w.A)):=refW w
  refine .asrt (by omega) (ite_rez (fun hb=>noB_rez (by rw [e,hb]; rfl)) fun hb=>.asrt ⟨rfl,rfl⟩ (.asrt ⟨Int.le_refl _,by omega,by omega,hf⟩ (ite_rez (fun ha=>.asrt ⟨rfl,rfl⟩ (.asrt ⟨Int.le_refl _,by omega⟩ (ite_rez (fun hv=>.ret (.blit ?_) rfl) fun hv=>noB_rez ?_))) fun ha=>noB_rez ?_)))
  · rw [ascV_one] at hv
    have ha:ascW w.Now none w.T = true:=ha
    rw [e,hb,ha,hv]; rfl
  · rw [ascV_one] at hv
    rw [e,hv,Bool.and_false,Bool.and_false]
  · have ha:ascW w.Now none w.T = false:=ha
    rw [e,ha,Bool.false_and,Bool.and_false]
def conMay17:Con:=flatCon (d1 dWorld) (fun w=>smallW w∧finB w.T) fun w=>.bool (mayW w)
theorem conMay17_valid:ValidCon c133.P 17 conMay17:=flatCon_valid c133_good 60 (by kernel_rfl) fun w h=>⟨_,fMay17 w,may17T_rez h.1 h.2⟩
noncomputable def c134:Cfg:=c133.addQuiet 17 conMay17
theorem c134_good:GoodCfg c134:=c133_good.addQuiet conMay17_valid flatCon_quiet
end Go.Fx
