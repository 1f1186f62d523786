import Derived.Test.YtgefkgmfbmdooaaGreatC4
namespace Go.Fx
open Go Go.Proofs
def decRing2:AV→Option Fu.Ring
  | .agg [a,b]=>match a.i,b.asIntK .u64 with | some a,some b=>some ⟨a,b⟩ | _,_=>none
  | _=>none
def dRing:Dc Fu.Ring:=⟨decRing2,fun h=>.agg (encRing h),fun v a h=>by
  unfold decRing2 at h
  split at h
  · split at h
    · rename_i h1 h2; cases h; exact .agg (.cons (.i h1) (.cons (.ik h2) .nil))
    · cases h
  · cases h⟩
def ringOK (h:Fu.Ring):Bool:=decide (h.N≥0) && (decide (h.N≤60) && shrI .u64 h.B h.N == 0)
def maskV (n:Int):Int:=IntKind.u64.wrap (shlI .u64 1 n - 1)
def ofRing (h:Fu.Ring):Fu.Ring:=bif ringOK h then h else ⟨0,0⟩
def putB (h:Fu.Ring):Int:=andI .u64 (shlI .u64 (ofRing h).B 1) (maskV 60)
def putRing (h:Fu.Ring) (good:Bool):Fu.Ring:=⟨min ((ofRing h).N + 1) 60,bif good then orI .u64 (putB h) 1 else putB h⟩
theorem ringOK_N {h:Fu.Ring} (hr:ringOK h = true):0≤h.N∧h.N≤60:=by
  unfold ringOK at hr
  simp only [Bool.and_eq_true,decide_eq_true_eq] at hr
  omega
theorem ofRing_N (h:Fu.Ring):0≤(ofRing h).N∧(ofRing h).N≤60:=by
  unfold ofRing
  cases hr:ringOK h with
  | true=>exact ringOK_N hr
  | false=>exact ⟨Int.le_refl _,by show (0:Int)≤60; omega⟩
theorem fRingMay (h:Fu.Ring):callC c63 60 54 [.agg (encRing h)] = .asrt (decide (h.N≥0) = true→decide (h.N≤60) = true→0≤h.N) (.ret (.bool (ringOK h),[])):=by kernel_rfl
def conRingMay:Con:=plainCon (d1 dRing) fun h=>.bool (ringOK h)
theorem conRingMay_valid:ValidCon c63.P 54 conRingMay:=plainCon_valid c63_good 60 (by kernel_rfl) fun h=>⟨_,fRingMay h,.asrt (fun h0 _=>of_decide_eq_true h0) (.ret (.refl _) rfl)⟩
noncomputable def c64:Cfg:=c63.addQuiet 54 conRingMay
theorem c64_good:GoodCfg c64:=c63_good.addQuiet conRingMay_valid plainCon_quiet
theorem fMask (n:Int):callC c64 60 123 [.int .i64 n] = .asrt (0≤n) (.ret (.int .u64 (maskV n),[])):=by kernel_rfl
def conMask:Con:=flatCon (d1 dInt) (fun n=>0≤n) fun n=>.int .u64 (maskV n)
theorem conMask_valid:ValidCon c64.P 123 conMask:=flatCon_valid c64_good 60 (by kernel_rfl) fun n h=>⟨_,fMask n,.asrt h (.ret (.refl _) rfl)⟩
noncomputable def c65:Cfg:=c64.addQuiet 123 conMask
theorem c65_good:GoodCfg c65:=c64_good.addQuiet conMask_valid flatCon_quiet
theorem fRingOf (h:Fu.Ring):callC c65 60 122 [.agg (encRing h)] = .ite (!ringOK h) (.ret (.agg [.lit .i64 0,.lit .u64 0],[])) (.ret (.agg (encRing h),[])):=by kernel_rfl
def conRingOf:Con:=plainCon (d1 dRing) fun h=>.agg (encRing (ofRing h))
theorem conRingOf_valid:ValidCon c65.P 122 conRingOf:=plainCon_valid c65_good 60 (by kernel_rfl) fun h=>⟨_,fRingOf h,by
  unfold ofRing
  cases hr:ringOK h with
  | true=>exact .itee rfl (.ret (.refl _) rfl)
  | false=>exact .itet rfl (.ret (.agg (.cons (.lit rfl) (.cons (.lit rfl) .nil))) rfl)⟩
noncomputable def c66:Cfg:=c65.addQuiet 122 conRingOf
theorem c66_good:GoodCfg c66:=c65_good.addQuiet conRingOf_valid plainCon_quiet
theorem fRingPut (h:Fu.Ring) (b:Bool):callC c66 60 106 [.agg (encRing h),.bool b] = .asrt ((0:Int)≤60) (.ite b (.ret (.agg [.int .i64 (minI (IntKind.i64.wrap ((ofRing h).N + 1)) 60),.int .u64 (orI .u64 (putB h) 1)],[])) (.ret (.agg [.int .i64 (minI (IntKind.i64.wrap ((ofRing h).N + 1)) 60),.int .u64 (putB h)],[]))):=by kernel_rfl
def conRingPut:Con:=plainCon (d2 dRing dBool) fun x=>.agg (encRing (putRing x.1 x.2))
theorem conRingPut_valid:ValidCon c66.P 106 conRingPut:=plainCon_valid c66_good 60 (by kernel_rfl) fun ⟨h,b⟩=>⟨_,fRingPut h b,.asrt (by omega) (by
  have h1:=ofRing_N h
  rw [wrap_fits (by omega) (by omega),minI_eq]
  unfold putRing
  cases b with
  | true=>exact .itet rfl (.ret (.refl _) rfl)
  | false=>exact .itee rfl (.ret (.refl _) rfl))⟩
noncomputable def c67:Cfg:=c66.addQuiet 106 conRingPut
theorem c67_good:GoodCfg c67:=c66_good.addQuiet conRingPut_valid plainCon_quiet
end Go.Fx
namespace Go.Fx
open Go Go.Proofs
def dTask:Dc Fu.Task:=dRow .task
def lookJ (t:Fu.Task):Fu.Job:=bif t.J.On then { t.J with D:=t.S.C } else t.J
def liveK (t:Fu.Task):Fu.Live:=⟨t.S,lookJ t,t.Next,t.At,t.N⟩
def overK (t:Fu.Task):Int:=bif t.J.On then IntKind.i64.wrap (t.N - 1) else t.N
theorem fTaskLive (t:Fu.Task):callC c67 60 29 [.agg (encTask t)] = .ite t.J.On (.ret (.agg (encLive ⟨t.S,{ t.J with D:=t.S.C },t.Next,t.At,t.N⟩),[])) (.ret (.agg (encLive ⟨t.S,t.J,t.Next,t.At,t.N⟩),[])):=by kernel_rfl
def conTaskLive:Con:=plainCon (d1 dTask) fun t=>.agg (encLive (liveK t))
theorem conTaskLive_valid:ValidCon c67.P 29 conTaskLive:=plainCon_valid c67_good 60 (by kernel_rfl) fun t=>⟨_,fTaskLive t,by
  unfold liveK lookJ
  cases h:t.J.On with
  | true=>exact .itet rfl (.ret (.refl _) rfl)
  | false=>exact .itee rfl (.ret (.refl _) rfl)⟩
noncomputable def c68:Cfg:=c67.addQuiet 29 conTaskLive
theorem c68_good:GoodCfg c68:=c67_good.addQuiet conTaskLive_valid plainCon_quiet
theorem fOver (t:Fu.Task):callC c68 60 57 [.agg (encTask t)] = .ret (.int .i64 (overK t),[]):=by kernel_rfl
def conOver:Con:=plainCon (d1 dTask) fun t=>.int .i64 (overK t)
theorem conOver_valid:ValidCon c68.P 57 conOver:=plainCon_valid c68_good 60 (by kernel_rfl) fun t=>⟨_,fOver t,.ret (.refl _) rfl⟩
noncomputable def c69:Cfg:=c68.addQuiet 57 conOver
theorem c69_good:GoodCfg c69:=c68_good.addQuiet conOver_valid plainCon_quiet
def mayK (t:Fu.Task) (now:Int):Bool:=!(decide (t.ID < 0) || (decide (t.ID > 549755813888) || (decide (t.P < 1) || (decide (t.P > 48) || !ringOK t.H)))) && (mayL [liveK t] now && (mayJ t.S t.J && t.H.N == minI (overK t) 60))
theorem fTaskMay (t : Fu.Task) (now : Int) : callC c69 60 32 [.agg (encTask t), .int .i64 now] = .ite (decide (t.ID < 0) || (decide (t.ID > 549755813888) || (decide (t.P < 1) || (decide (t.P > 48) || !ringOK t.H)))) noB
    (.asrt (smallL [liveK t]) (.ite (mayL [liveK t] now) (.ite (mayJ t.S t.J) (.ret (.bool (t.H.N == minI (overK t) 60),[])) noB) noB)):=by kernel_rfl
def conTaskMay:Con:=plainCon (d2 dTask dInt) fun x=>.bool (mayK x.1 x.2)
theorem conTaskMay_valid:ValidCon c69.P 32 conTaskMay:=plainCon_valid c69_good 60 (by kernel_rfl) fun ⟨t,now⟩=>⟨_,fTaskMay t now,by
  unfold mayK
  refine ite_rez (fun h=>noB_rez (by rw [h]; rfl)) fun h=>.asrt (by unfold smallL; simp) ?_
  rw [h]
  refine ite_rez (fun h2=>ite_rez (fun h3=>retB ?_) fun h3=>noB_rez ?_) fun h2=>noB_rez ?_ <;> simp [*]⟩
noncomputable def c70:Cfg:=c69.addQuiet 32 conTaskMay
theorem c70_good:GoodCfg c70:=c69_good.addQuiet conTaskMay_valid plainCon_quiet
def zeroK:Fu.Task:=⟨0,⟨0,0,0,0,0,0⟩,0,0,0,0,zeroJ,⟨0,0⟩,false⟩
def newK (id:Int) (s:Fu.Spec) (p now:Int):Fu.Task:=⟨id,s,p,p,now,0,zeroJ,⟨0,0⟩,true⟩
def zeroKA:AV:=.agg [.lit .i64 0,.lit .i64 0,.lit .i64 0,.lit .i64 0,.lit .i64 0,.lit .i64 0,.lit .i64 0,.lit .i64 0,.lit .i64 0,.lit .i64 0,.lit .i64 0,.blit false,.lit .i64 0,.lit .i64 0,.lit .i64 0,.blit false,.lit .i64 0,.lit .i64 0,.lit .i64 0,.lit .i64 0,.lit .u64 0,.blit false]
def newKA (id:Int) (s:Fu.Spec) (p now:Int):AV:=.agg [.int .i64 id,.int .i64 s.C,.int .i64 s.T,.int .i64 s.Max,.int .i64 s.M,.int .i64 s.K,.int .i64 s.E,.int .i64 p,.int .i64 p,.int .i64 now,.lit .i64 0,.blit false,.lit .i64 0,.lit .i64 0,.lit .i64 0,.blit false,.lit .i64 0,.lit .i64 0,.lit .i64 0,.lit .i64 0,.lit .u64 0,.blit true]
theorem zeroK_as:AsArg zeroKA (.agg (encTask zeroK)) :=
  .agg (.cons (.lit rfl) (.cons (.lit rfl) (.cons (.lit rfl) (.cons (.lit rfl) (.cons (.lit rfl) (.cons (.lit rfl) (.cons (.lit rfl) (.cons (.lit rfl) (.cons (.lit rfl) (.cons (.lit rfl) (.cons (.lit rfl) (.cons (.blit rfl) (.cons (.lit rfl) (.cons (.lit rfl) (.cons (.lit rfl) (.cons (.blit rfl) (.cons (.lit rfl) (.cons (.lit rfl) (.cons (.lit rfl) (.cons (.lit rfl) (.cons (.lit rfl) (.cons (.blit rfl) .nil))))))))))))))))))))))
theorem newK_as (id:Int) (s:Fu.Spec) (p now:Int):AsArg (newKA id s p now) (.agg (encTask (newK id s p now))) :=
  .agg (.cons (.refl _) (.cons (.refl _) (.cons (.refl _) (.cons (.refl _) (.cons (.refl _) (.cons (.refl _) (.cons (.refl _) (.cons (.refl _) (.cons (.refl _) (.cons (.refl _) (.cons (.lit rfl) (.cons (.blit rfl) (.cons (.lit rfl) (.cons (.lit rfl) (.cons (.lit rfl) (.cons (.blit rfl) (.cons (.lit rfl) (.cons (.lit rfl) (.cons (.lit rfl) (.cons (.lit rfl) (.cons (.lit rfl) (.cons (.blit rfl) .nil))))))))))))))))))))))
theorem fTaskNew (id:Int) (s:Fu.Spec) (p now:Int):callC c70 60 42 [.int .i64 id,.agg (encSpec s),.int .i64 p,.int .i64 now] = .ite (!mayK (newK id s p now) now) (.ret (.tup [zeroKA,.blit false],[])) (.ret (.tup [newKA id s p now,.blit true],[])):=by kernel_rfl
def newKR (id:Int) (s:Fu.Spec) (p now:Int):Fu.Task:=bif mayK (newK id s p now) now then newK id s p now else zeroK
def conTaskNew:Con:=plainCon (d4 dInt dSpec dInt dInt) fun x=>.tup [.agg (encTask (newKR x.1 x.2.1 x.2.2.1 x.2.2.2)),.bool (mayK (newK x.1 x.2.1 x.2.2.1 x.2.2.2) x.2.2.2)]
theorem conTaskNew_valid:ValidCon c70.P 42 conTaskNew:=plainCon_valid c70_good 60 (by kernel_rfl) fun ⟨id,s,p,now⟩=>⟨_,fTaskNew id s p now,by
  unfold newKR
  cases h:mayK (newK id s p now) now with
  | true=>exact .itee rfl (.ret (.tup (.cons (newK_as id s p now) (.cons (.blit rfl) .nil))) rfl)
  | false=>exact .itet rfl (.ret (.tup (.cons zeroK_as (.cons (.blit rfl) .nil))) rfl)⟩
noncomputable def c71:Cfg:=c70.addQuiet 42 conTaskNew
theorem c71_good:GoodCfg c71:=c70_good.addQuiet conTaskNew_valid plainCon_quiet
def endK (t:Fu.Task) (now:Int):Fu.Task:=bif overJ t.J now then { t with J:=zeroJ,H:=putRing t.H false } else t
def endA (t : Fu.Task) (now : Int) : Tree (AV × List Blk) := .ite (!t.J.On) (.ret (.tup [.agg (encTask t), .lit .i64 0], [])) (.ite (atF t.J now == 0) (.ret (.tup [.agg (encTask { t with J := atJ t.J now }), .int .i64 (atF t.J now)], []))
    (.ret (.tup [.agg (encTask { t with J:=atJ t.J now,H:=putRing t.H (atF t.J now == 1) }),.int .i64 (atF t.J now)],[])))
theorem fTaskEnd (t:Fu.Task) (now:Int):callC c71 60 26 [.agg (encTask t),.int .i64 now] = endA t now:=by kernel_rfl
def conTaskEnd:Con:=plainCon (d2 dTask dInt) fun x=>.tup [.agg (encTask (endK x.1 x.2)),.int .i64 (atF x.1.J x.2)]
theorem conTaskEnd_valid:ValidCon c71.P 26 conTaskEnd:=plainCon_valid c71_good 60 (by kernel_rfl) fun ⟨t,now⟩=>⟨_,fTaskEnd t now,by
  unfold endA endK
  cases h:overJ t.J now with
  | true =>
    have ho:t.J.On = true:=by unfold overJ at h; simp at h; exact h.1
    have e1:atF t.J now = 3:=by simp [atF,h]
    have e2:atJ t.J now = zeroJ:=by simp [atJ,h]
    rw [ho,e1,e2]
    exact .itee rfl (.itee rfl (.ret (.refl _) rfl))
  | false =>
    have e1:atF t.J now = 0:=by simp [atF,h]
    have e2:atJ t.J now = t.J:=by simp [atJ,h]
    rw [e1,e2]
    exact ite_rez (fun _=>.ret (.tup (.cons (.refl _) (.cons (.lit rfl) .nil))) rfl) fun _=>.itet rfl (.ret (.refl _) rfl)⟩
noncomputable def c72:Cfg:=c71.addQuiet 26 conTaskEnd
theorem c72_good:GoodCfg c72:=c71_good.addQuiet conTaskEnd_valid plainCon_quiet
def begJ (t:Fu.Task) (now d:Int):Fu.Job:=jobOf t.S t.N now (IntKind.i64.wrap (now + t.Next)) d
def begOK (t:Fu.Task) (now d:Int):Bool:=!(t.J.On || now != t.At) && mayJ t.S (begJ t now d)
def begT (t:Fu.Task) (now d:Int):Fu.Task:={ t with J:=begJ t now d,P:=t.Next,At:=IntKind.i64.wrap (now + t.Next),N:=IntKind.i64.wrap (t.N + 1),Kept:=t.Kept && decide (d≤t.S.C) }
def begK (t:Fu.Task) (now d:Int):Fu.Task:=bif begOK t now d then begT t now d else t
def begA (t:Fu.Task) (now d:Int) (k:AV):AV × List Blk:=(.tup [.agg ([.int .i64 t.ID] ++ encSpec t.S ++ [.int .i64 t.Next,.int .i64 t.Next,.int .i64 (IntKind.i64.wrap (now + t.Next)),.int .i64 (IntKind.i64.wrap (t.N + 1))] ++ encJob (newJ t.S t.N now (IntKind.i64.wrap (now + t.Next)) d) ++ encRing t.H ++ [k]),.blit true],[])
theorem fTaskBegin (t:Fu.Task) (now d:Int):callC c72 60 23 [.agg (encTask t),.int .i64 now,.int .i64 d] =
  .ite (t.J.On || now != t.At) (.ret (.tup [.agg (encTask t),.blit false],[])) (.ite (!mayJ t.S (begJ t now d)) (.ret (.tup [.agg (encTask t),.blit false],[])) (.ite t.Kept (.ret (begA t now d (.bool (decide (d≤t.S.C))))) (.ret (begA t now d (.blit false))))):=by kernel_rfl
def conTaskBegin:Con:=plainCon (d3 dTask dInt dInt) fun x=>.tup [.agg (encTask (begK x.1 x.2.1 x.2.2)),.bool (begOK x.1 x.2.1 x.2.2)]
theorem conTaskBegin_valid:ValidCon c72.P 23 conTaskBegin:=plainCon_valid c72_good 60 (by kernel_rfl) fun ⟨t,now,d⟩=>⟨_,fTaskBegin t now d,by
  unfold begK begOK
  cases h:(t.J.On || now != t.At) with
  | true=>exact .itet rfl (.ret (.tup (.cons (.refl _) (.cons (.blit rfl) .nil))) rfl)
  | false =>
    refine .itee rfl ?_
    cases h2:mayJ t.S (begJ t now d) with
    | false=>exact .itet rfl (.ret (.tup (.cons (.refl _) (.cons (.blit rfl) .nil))) rfl)
    | true =>
      refine .itee rfl ?_
      have e:newJ t.S t.N now (IntKind.i64.wrap (now + t.Next)) d = begJ t now d:=by
        unfold begJ at h2 ⊢
        simp [newJ,h2]
      simp only [Bool.not_false,Bool.and_self,cond_true]
      unfold begA begT
      rw [e]
      cases t.Kept with
      | true=>exact .itet rfl (.ret (.tup (.cons (.refl _) (.cons (.blit rfl) .nil))) rfl)
      | false=>exact .itee rfl (.ret (.tup (.cons (.agg (.cons (.refl _) (.cons (.refl _) (.cons (.refl _) (.cons (.refl _) (.cons (.refl _) (.cons (.refl _) (.cons (.refl _) (.cons (.refl _) (.cons (.refl _) (.cons (.refl _) (.cons (.refl _) (.cons (.refl _) (.cons (.refl _) (.cons (.refl _) (.cons (.refl _) (.cons (.refl _) (.cons (.refl _) (.cons (.refl _) (.cons (.refl _) (.cons (.refl _) (.cons (.refl _) (.cons (.blit rfl) .nil))))))))))))))))))))))) (.cons (.blit rfl) .nil))) rfl)⟩
noncomputable def c73:Cfg:=c72.addQuiet 23 conTaskBegin
theorem c73_good:GoodCfg c73:=c72_good.addQuiet conTaskBegin_valid plainCon_quiet
end Go.Fx
namespace Go.Fx
open Go Go.Proofs
noncomputable def bClT:Code:=bodyOf c73.P 44
theorem bCl_eqT:bClT = clB bClT:=by kernel_rfl
def boundLT (xs:List Fu.Task):Prop:=(xs.length:Int) * 176≤140737488355328
theorem cl_h0T (xs:List Fu.Task):exec c73 30 44 (Code.region 0 (clO0 bClT) false) ⟨cl0 .task xs,[],0⟩ = .ret (.normal,⟨cl1 .task xs,[],0⟩):=by kernel_rfl
theorem cl_h2T (xs:List Fu.Task):exec c73 30 44 ((Code.region 2 (clO2 bClT) false).seq .ret) ⟨cl2 .task xs true,[],0⟩ = .ret (.ret,⟨cl2 .task xs true,[],0⟩):=by kernel_rfl
theorem cl_h3T (xs:List Fu.Task):roundN c73 30 44 ((Code.region 3 (clO3 bClT) false).seq .ret) (norm2 0 [] [] []) (norm2 0 [.tmp 2] [0] (sets (Js 8) [(2,.keep)])) ⟨cl2 .task xs false,[],0⟩ = .asrt (([] ++ xs).length * 176≤140737488355328) (.ret (.ret,clEnd .task 47 xs)):=by kernel_rfl
theorem cl_weakT (xs:List Fu.Task) (h:xs = []):Weak 0 ⟨cl2 .task xs true,[],0⟩ (clEnd .task 47 xs):=by
  subst h
  exact (Weak.ownSlot 0 2 .task 47 ⟨cl2 .task [] true,[],0⟩).trans (Weak.gens 0 (sets (Js 8) [(2,.keep)]) _)
theorem clRun_soundT:SoundRun c73 (cloneRun 44 bClT .task 47 boundLT):=by
  have:=cloneRun_sound c73_good (g:=44) (n:=30) (o0:=clO0 bClT) (m:=opNo (clO1 bClT) 0) (q:=opNo (clO1 bClT) 1) (o2:=clO2 bClT) (o3:=clO3 bClT) (r:=.task) (e:=47) (bound:=boundLT) (t':=22)
    (by kernel_rfl) (by kernel_rfl) (by kernel_rfl) (by kernel_rfl) (by kernel_rfl) (by kernel_rfl) (by kernel_rfl:c73.P.underlying 22 = some (.slice 47))
    (fun xs=>.of_eq (cl_h0T xs) rfl) (fun xs=>⟨_,.of_eq (cl_h2T xs) rfl,cl_weakT xs⟩) (fun xs hb=>?_)
  · rw [← show bClT = cloneBody (clO0 bClT) (opNo (clO1 bClT) 0) (opNo (clO1 bClT) 1) (clO2 bClT) (clO3 bClT) from bCl_eqT] at this
    exact this
  · exact round_ret (Weak.norm2 0 [.tmp 2] [0] (sets (Js 8) [(2,.keep)])) (cl_h3T xs) (by unfold boundLT at hb; simp only [List.nil_append]; omega)
theorem cl_treeT (xs:List Fu.Task):callR c73 (cloneRun 44 bClT .task 47 boundLT) 44 [.view .task xs] =
  .asrt (44 = 44∧bClT = bClT∧(⟨cl0 .task xs,[],0⟩:St) = ⟨cl0 .task xs,[],0⟩∧boundLT xs) (.ret (.own 0,[.rows .task 47 xs])):=by kernel_rfl
def conCloneT:Con:=resCon (d1 (dView .task)) boundLT fun xs=>(.own 0,[.rows .task 47 xs])
theorem conClone_validT:ValidCon c73.P 44 conCloneT:=clone_valid clRun_soundT (by kernel_rfl) fun xs h=>.of_eq (cl_treeT xs) ⟨⟨rfl,rfl,rfl,h⟩,rfl⟩
noncomputable def c74:Cfg:=c73.addCon 44 conCloneT
theorem c74_good:GoodCfg c74:=c73_good.addCon conClone_validT (by kernel_rfl)
noncomputable def bClA:Code:=bodyOf c74.P 45
theorem bCl_eqA:bClA = clB bClA:=by kernel_rfl
def boundLA (xs:List Fu.Ape):Prop:=(xs.length:Int) * 40≤140737488355328
theorem cl_h0A (xs:List Fu.Ape):exec c74 30 45 (Code.region 0 (clO0 bClA) false) ⟨cl0 .ape xs,[],0⟩ = .ret (.normal,⟨cl1 .ape xs,[],0⟩):=by kernel_rfl
theorem cl_h2A (xs:List Fu.Ape):exec c74 30 45 ((Code.region 2 (clO2 bClA) false).seq .ret) ⟨cl2 .ape xs true,[],0⟩ = .ret (.ret,⟨cl2 .ape xs true,[],0⟩):=by kernel_rfl
theorem cl_h3A (xs:List Fu.Ape):roundN c74 30 45 ((Code.region 3 (clO3 bClA) false).seq .ret) (norm2 0 [] [] []) (norm2 0 [.tmp 2] [0] (sets (Js 8) [(2,.keep)])) ⟨cl2 .ape xs false,[],0⟩ = .asrt (([] ++ xs).length * 40≤140737488355328) (.ret (.ret,clEnd .ape 49 xs)):=by kernel_rfl
theorem cl_weakA (xs:List Fu.Ape) (h:xs = []):Weak 0 ⟨cl2 .ape xs true,[],0⟩ (clEnd .ape 49 xs):=by
  subst h
  exact (Weak.ownSlot 0 2 .ape 49 ⟨cl2 .ape [] true,[],0⟩).trans (Weak.gens 0 (sets (Js 8) [(2,.keep)]) _)
theorem clRun_soundA:SoundRun c74 (cloneRun 45 bClA .ape 49 boundLA):=by
  have:=cloneRun_sound c74_good (g:=45) (n:=30) (o0:=clO0 bClA) (m:=opNo (clO1 bClA) 0) (q:=opNo (clO1 bClA) 1) (o2:=clO2 bClA) (o3:=clO3 bClA) (r:=.ape) (e:=49) (bound:=boundLA) (t':=23)
    (by kernel_rfl) (by kernel_rfl) (by kernel_rfl) (by kernel_rfl) (by kernel_rfl) (by kernel_rfl) (by kernel_rfl:c74.P.underlying 23 = some (.slice 49))
    (fun xs=>.of_eq (cl_h0A xs) rfl) (fun xs=>⟨_,.of_eq (cl_h2A xs) rfl,cl_weakA xs⟩) (fun xs hb=>?_)
  · rw [← show bClA = cloneBody (clO0 bClA) (opNo (clO1 bClA) 0) (opNo (clO1 bClA) 1) (clO2 bClA) (clO3 bClA) from bCl_eqA] at this
    exact this
  · exact round_ret (Weak.norm2 0 [.tmp 2] [0] (sets (Js 8) [(2,.keep)])) (cl_h3A xs) (by unfold boundLA at hb; simp only [List.nil_append]; omega)
theorem cl_treeA (xs:List Fu.Ape):callR c74 (cloneRun 45 bClA .ape 49 boundLA) 45 [.view .ape xs] =
  .asrt (45 = 45∧bClA = bClA∧(⟨cl0 .ape xs,[],0⟩:St) = ⟨cl0 .ape xs,[],0⟩∧boundLA xs) (.ret (.own 0,[.rows .ape 49 xs])):=by kernel_rfl
def conCloneA:Con:=resCon (d1 (dView .ape)) boundLA fun xs=>(.own 0,[.rows .ape 49 xs])
theorem conClone_validA:ValidCon c74.P 45 conCloneA:=clone_valid clRun_soundA (by kernel_rfl) fun xs h=>.of_eq (cl_treeA xs) ⟨⟨rfl,rfl,rfl,h⟩,rfl⟩
noncomputable def c75:Cfg:=c74.addCon 45 conCloneA
theorem c75_good:GoodCfg c75:=c74_good.addCon conClone_validA (by kernel_rfl)
end Go.Fx
namespace Go.Fx
open Go Go.Proofs
def dApe:Dc Fu.Ape:=dRow .ape
def apeOK (a:Fu.Ape):Bool:=(decide (0≤a.ID) && decide (a.ID≤549755813888)) && ((decide (1≤a.Due) && decide (a.Due≤1099511627776)) && ((decide (1≤a.C) && decide (a.C≤40)) && ((decide (1≤a.V) && decide (a.V≤1000)) && (decide (0≤a.Ran) && decide (a.Ran < a.C)))))
theorem apeOK_iff {a:Fu.Ape}:apeOK a = true↔(0≤a.ID∧a.ID≤549755813888)∧(1≤a.Due∧a.Due≤1099511627776)∧(1≤a.C∧a.C≤40)∧(1≤a.V∧a.V≤1000)∧(0≤a.Ran∧a.Ran < a.C):=by
  simp only [apeOK,Bool.and_eq_true,decide_eq_true_eq]
theorem fDoverMay (a:Fu.Ape):callC c75 60 52 [.agg (encApe a)] =
  .ite (decide (a.ID≥0) && decide (a.ID≤549755813888)) (.ite (decide (a.Due≥1) && decide (a.Due≤1099511627776)) (.ite (decide (a.C≥1) && decide (a.C≤40)) (.ite (decide (a.V≥1) && decide (a.V≤1000))
    (.ret (.bool (decide (a.Ran≥0) && decide (a.Ran≤IntKind.i64.wrap (a.C - 1))),[])) noB) noB) noB) noB:=by kernel_rfl
def conDMay:Con:=plainCon (d1 dApe) fun a=>.bool (apeOK a)
theorem conDMay_valid:ValidCon c75.P 52 conDMay:=plainCon_valid c75_good 60 (by kernel_rfl) fun a=>⟨_,fDoverMay a,by
  refine ite_rez (fun h1=>ite_rez (fun h2=>ite_rez (fun h3=>ite_rez (fun h4=>retB ?_) fun h4=>noB_rez ?_) fun h3=>noB_rez ?_) fun h2=>noB_rez ?_) fun h1=>noB_rez ?_
  · simp only [Bool.and_eq_true,decide_eq_true_eq] at h1 h2 h3 h4
    rw [wrap_fits (by omega) (by omega),Bool.eq_iff_iff,apeOK_iff]
    simp only [Bool.and_eq_true,decide_eq_true_eq]
    omega
  all_goals
    rw [← Bool.not_eq_true,apeOK_iff]
    simp only [Bool.and_eq_false_iff,decide_eq_false_iff_not] at *
    omega⟩
noncomputable def c76:Cfg:=c75.addQuiet 52 conDMay
theorem c76_good:GoodCfg c76:=c75_good.addQuiet conDMay_valid plainCon_quiet
def mkeys {α:Type} (es:List (Int × α)):List Int:=es.map (·.1)
theorem mput_keys {α:Type} (k:Int) (v:α):∀ es:List (Int × α),mkeys (mput es k v) = if k ∈ mkeys es then mkeys es else mkeys es ++ [k]
  | []=>by simp [mput,mkeys]
  | (j,x) :: es=>by
    unfold mput
    by_cases h:j = k
    · subst h; simp [mkeys]
    · have ih:=mput_keys k v es
      have h':¬ k = j:=fun e=>h e.symm
      rw [if_neg h]
      simp only [mkeys,List.map_cons,List.mem_cons,h',false_or] at *
      rw [ih]
      split <;> simp [*]
theorem mput_len {α:Type} (k:Int) (v:α) (es:List (Int × α)):(mput es k v).length = if k ∈ mkeys es then es.length else es.length + 1:=by
  have h:∀ es:List (Int × α),(mkeys es).length = es.length:=fun es=>by simp [mkeys]
  rw [← h (mput es k v),mput_keys]
  split
  · exact h es
  · rw [List.length_append,h es]; rfl
def mputA (es:List (Int × Fu.Ape)) (a:Fu.Ape):List (Int × Fu.Ape):=mput es a.ID a
theorem foldA_len:∀ (A:List Fu.Ape) (es:List (Int × Fu.Ape)),(A.foldl mputA es).length≤es.length + A.length∧((A.foldl mputA es).length = es.length + A.length↔(A.map (·.ID)).Nodup∧∀ a ∈ A,a.ID ∉ mkeys es)
  | [],es=>by simp
  | a :: A,es=>by
    obtain ⟨h1,h2⟩:=foldA_len A (mputA es a)
    have h3:=mput_len a.ID a es
    have h4:=mput_keys a.ID a es
    rw [List.foldl_cons]
    unfold mputA at h1 h2
    rw [h3] at h1 h2
    rw [h4] at h2
    simp only [List.length_cons,List.map_cons,List.nodup_cons,List.mem_cons,List.mem_map]
    by_cases hk:a.ID ∈ mkeys es
    · rw [if_pos hk] at h1 h2
      refine ⟨by unfold mputA; omega,⟨fun h=>by unfold mputA at h; omega,fun ⟨_,h⟩=>absurd hk (h a (.inl rfl))⟩⟩
    · rw [if_neg hk] at h1 h2
      rw [if_neg hk] at h2
      refine ⟨by unfold mputA; omega,?_⟩
      unfold mputA
      rw [show es.length + (A.length + 1) = es.length + 1 + A.length by omega,h2]
      constructor
      · rintro ⟨h5,h6⟩
        refine ⟨⟨?_,h5⟩,?_⟩
        · rintro ⟨b,hb,e⟩
          have:=h6 b hb
          simp [e] at this
        · rintro b (rfl | hb)
          · exact hk
          · have:=h6 b hb
            simp at this
            exact this.1
      · rintro ⟨⟨h5,h6⟩,h7⟩
        refine ⟨h6,fun b hb=>?_⟩
        simp only [List.mem_append,List.mem_singleton,not_or]
        exact ⟨h7 b (.inr hb),fun e=>h5 ⟨b,hb,e⟩⟩
abbrev ADm:=List Fu.Ape × Int × List (Int × Fu.Ape)
def TDm (x:ADm × Int):St:=⟨puts (J 37) [(0,.view .ape x.1.1),(1,.int .i64 x.1.2.1),(5,.map 0),(9,.view .ape x.1.1),(10,.int .i64 x.1.1.length),(11,.int .i64 x.2)],[(0,.imap .ape x.1.2.2)],1⟩
def sDm:List Sh:=sets (Js 37) [(0,.keep),(1,.keep),(5,.keep),(9,.keep),(10,.int),(11,.int)]
def xDm:List Sh:=sets (Js 37) [(0,.keep),(1,.keep),(5,.keep)]
def rDm:List Sh:=sets (Js 37) [(4,.keep)]
def eDm (σ:St):St:=outE 1 4 [] [0] rDm xDm σ
def RDm:Ex × St:=(.ret,(⟨puts (J 37) [(4,.blit false)],[],1⟩:St))
def EDm (x:ADm):Ex × St:=(.exit 0,⟨puts (J 37) [(0,.view .ape x.1),(1,.int .i64 x.2.1),(5,.map 0)],[(0,.imap .ape x.2.2)],1⟩)
theorem bDm (x : ADm) (i : Int) : roundN c76 60 31 (loopAt c76.P 31 3) (norm2 1 [] [0] sDm) eDm (TDm (x, i)) =
    .ite (decide (i < x.1.length)) (.asrt (0≤i∧i < x.1.length) (.ite (!apeOK (rd .ape x.1 i)) (.ret RDm) (.ret (.normal,TDm ((x.1,x.2.1,mputA x.2.2 (rd .ape x.1 i)),IntKind.i64.wrap (i + 1)))))) (.ret (EDm x)):=by kernel_rfl
def gDm (σ:St):Option (ADm × Int) :=
  match nth σ.tmps 0,nth σ.tmps 1,nth σ.tmps 11,σ.heap with
  | .view .ape A,.int .i64 n,.int .i64 i,[(_,.imap .ape es)]=>some ((A,n,es),i)
  | _,_,_,_=>none
def nxtDm (x:ADm) (i:Int):ADm:=(x.1,x.2.1,mputA x.2.2 (rd .ape x.1 i))
def brkDm (x:ADm) (i:Int):Option Unit:=bif !apeOK (rd .ape x.1 i) then some () else none
def okDm (_:ADm) (_:Int):Prop:=True
def LDm:LoopCon:=boundB 1 (norm2 1 [] [0] sDm) TDm gDm (fun x=>x.1.length) okDm nxtDm brkDm () (fun _=>RDm) EDm
theorem lDm (hs:SubOf c76.P 31 (.loop (loopAt c76.P 31 3))):SoundLoop c76 (loopAt c76.P 31 3) LDm :=
  bound_loop (C:=c76) (g:=31) (l:=3) c76_good 60 1 _ _ (Weak.norm2 1 [] [0] sDm) (weak_outE 1 4 [] [0] rDm xDm) hs TDm gDm (fun x=>x.1.length) okDm nxtDm brkDm () (fun _=>RDm) EDm
    (fun _=>by intro h; cases h) (fun _=>by intro h; cases h) (fun _ _=>rfl)
    (fun x i h0 hi hm _=>.of_eq (bDm x i) (by
      unfold maxI64 at hm
      rw [wrap_fits (n:=i + 1) (by omega) (by omega)]
      refine (Tree.out_ite_true (decide_eq_true hi)).2 ⟨⟨h0,hi⟩,?_⟩
      unfold brkDm
      cases h:(!apeOK (rd .ape x.1 i)) with
      | true=>exact (Tree.out_ite_true rfl).2 rfl
      | false=>exact (Tree.out_ite_false rfl).2 rfl))
    (fun x i hi=>.of_eq (bDm x i) ((Tree.out_ite_false (decide_eq_false (by omega))).2 rfl))
noncomputable def c77:Cfg:=c76.addLoop 31 3 LDm
theorem c77_good:GoodCfg c77:=c76_good.addLoop (by unfold OneLoop; kernel_rfl) lDm
def mayA (A:List Fu.Ape) (now:Int):Bool:=A.all apeOK && (decide ((A.map (·.ID)).Nodup) && (decide ((A.length:Int)≤4) && (decide (0≤now) && decide (now≤549755813888))))
def dmEnd (x:ADm):Tree (AV × List Blk):=.ite ((x.2.2.length:Int) == x.1.length) (.ite (decide ((x.1.length:Int)≤4)) (.ret (.bool (decide (x.2.1≥0) && decide (x.2.1≤549755813888)),[])) noB) noB
def dmT (A:List Fu.Ape) (now:Int):Tree (AV × List Blk) :=
  .asrt (1 = 1∧TDm ((A,now,[]),0) = TDm ((A,now,[]),0)) (.asrt (0≤(0:Int)∧(A.length:Int)≤maxI64∧okI nxtDm brkDm okDm ((A.length:Int) - 0).toNat (A,now,[]) 0)
    (optT () (brkI nxtDm brkDm ((A.length:Int) - 0).toNat (A,now,[]) 0) (fun _=>noB) (dmEnd (foldI nxtDm ((A.length:Int) - 0).toNat (A,now,[]) 0))))
theorem fDm (A:List Fu.Ape) (now:Int):callC c77 60 31 [.view .ape A,.int .i64 now] = dmT A now:=by kernel_rfl
theorem foldDm {A : List Fu.Ape} {now : Int} (k : Nat) : ∀ (es : List (Int × Fu.Ape)) (i : Int), 0 ≤ i → i + k = A.length →
    okI nxtDm brkDm okDm k (A,now,es) i∧(brkI nxtDm brkDm k (A,now,es) i).isSome = !((A.drop i.toNat).all apeOK)∧foldI nxtDm k (A,now,es) i = (A,now,(A.drop i.toNat).foldl mputA es):=by
  induction k with
  | zero=>intro es i h0 h1; rw [drop_end (by omega)]; exact ⟨trivial,rfl,rfl⟩
  | succ k ih =>
    intro es i h0 h1
    have hd:=drop_rd (r:=.ape) (xs:=A) h0 (by omega)
    obtain ⟨k1,k2,k3⟩:=ih (mputA es (rd .ape A i)) (i + 1) (by omega) (by omega)
    rw [hd,List.all_cons]
    refine ⟨⟨trivial,fun _=>k1⟩,?_,k3⟩
    unfold brkI
    cases ho:apeOK (rd .ape A i) with
    | false=>rw [show brkDm (A,now,es) i = some () by unfold brkDm; simp only; rw [ho]; rfl]; rfl
    | true=>rw [show brkDm (A,now,es) i = none by unfold brkDm; simp only; rw [ho]; rfl]; exact k2
theorem dmT_rez {A:List Fu.Ape} {now:Int} (hl:(A.length:Int) < 17592186044416):Rez (dmT A now) (.bool (mayA A now),[]):=by
  obtain ⟨k1,k2,k3⟩:=foldDm (A:=A) (now:=now) ((A.length:Int) - 0).toNat [] 0 (Int.le_refl _) (by omega)
  rw [show (0:Int).toNat = 0 from rfl,List.drop_zero] at k2 k3
  refine .asrt ⟨rfl,rfl⟩ (.asrt ⟨Int.le_refl _,by unfold maxI64; omega,k1⟩ ?_)
  unfold mayA
  cases ha:A.all apeOK with
  | false =>
    rw [ha] at k2
    cases hb:brkI nxtDm brkDm ((A.length:Int) - 0).toNat (A,now,[]) 0 with
    | none=>rw [hb] at k2; cases k2
    | some b=>exact .itet rfl (noB_rez rfl)
  | true =>
    rw [ha] at k2
    cases hb:brkI nxtDm brkDm ((A.length:Int) - 0).toNat (A,now,[]) 0 with
    | some b=>rw [hb] at k2; cases k2
    | none =>
      refine .itee rfl ?_
      rw [k3]
      unfold dmEnd
      simp only
      obtain ⟨f1,f2⟩:=foldA_len A []
      have e:(((A.foldl mputA []).length:Int) == (A.length:Int)) = decide ((A.map (·.ID)).Nodup):=by
        rw [Bool.eq_iff_iff,beq_iff_eq,decide_eq_true_eq]
        constructor
        · intro h; exact (f2.1 (by simp; omega)).1
        · intro h
          have:=f2.2 ⟨h,fun a _=>by simp [mkeys]⟩
          simp at this; omega
      rw [e]
      cases decide ((A.map (·.ID)).Nodup) <;> cases decide ((A.length:Int)≤4)
      · exact .itee rfl (noB_rez rfl)
      · exact .itee rfl (noB_rez rfl)
      · exact .itet rfl (.itee rfl (noB_rez rfl))
      · exact .itet rfl (.itet rfl (retB rfl))
def conDm:Con:=flatCon (d2 (dView .ape) dInt) (fun x=>(x.1.length:Int) < 17592186044416) fun x=>.bool (mayA x.1 x.2)
theorem conDm_valid:ValidCon c77.P 31 conDm:=flatCon_valid c77_good 60 (by kernel_rfl) fun x h=>⟨_,fDm x.1 x.2,dmT_rez h⟩
noncomputable def c78:Cfg:=c77.addQuiet 31 conDm
theorem c78_good:GoodCfg c78:=c77_good.addQuiet conDm_valid flatCon_quiet
end Go.Fx
namespace Go.Fx
open Go Go.Proofs
def ascA:List Fu.Ape→Bool
  | []=>true
  | [_]=>true
  | a :: b :: l=>decide (a.ID≤b.ID) && ascA (b :: l)
def srtA (A:List Fu.Ape):Nat→Bool
  | 0=>true
  | k + 1=>decide ((rd .ape A k).ID≤(rd .ape A ((k:Int) + 1)).ID) && srtA A k
theorem srtA_cons (a:Fu.Ape) (A:List Fu.Ape):∀ k:Nat,srtA (a :: A) (k + 1) = (srtA A k && decide (a.ID≤(rd .ape A 0).ID))
  | 0=>by
    show (decide _ && true) = (true && decide _)
    rw [Bool.and_true,Bool.true_and]
    rfl
  | k + 1=>by
    have ih:=srtA_cons a A k
    have e1:rd .ape (a :: A) ((k + 1:Nat):Int) = rd .ape A (k:Nat):=by
      unfold rd
      rw [show ((k + 1:Nat):Int).toNat = k + 1 by omega,show ((k:Nat):Int).toNat = k by omega]; rfl
    have e2:rd .ape (a :: A) (((k + 1:Nat):Int) + 1) = rd .ape A ((k:Int) + 1):=by
      unfold rd
      rw [show (((k + 1:Nat):Int) + 1).toNat = k + 2 by omega,show ((k:Int) + 1).toNat = k + 1 by omega]; rfl
    show (decide (_≤_) && srtA (a :: A) (k + 1)) = (decide (_≤_) && srtA A k && _)
    rw [ih,e1,e2,Bool.and_assoc]
theorem srtA_asc:∀ A:List Fu.Ape,srtA A (A.length - 1) = ascA A
  | []=>rfl
  | [_]=>rfl
  | a :: b :: l=>by
    have ih:=srtA_asc (b :: l)
    show srtA (a :: b :: l) (l.length + 1) = _
    rw [srtA_cons]
    rw [show (b :: l).length - 1 = l.length from rfl] at ih
    rw [ih,Bool.and_comm]
    rfl
def TIs (x:List Fu.Ape × Int):St:=⟨puts (J 25) [(0,.view .ape x.1),(1,.fn (.func 34) [] []),(5,.int .i64 x.2)],[],0⟩
def sIs:List Sh:=sets (Js 25) [(0,.keep),(1,.keep),(5,.int)]
def eIs:List Sh:=sets (Js 25) [(4,.keep)]
def RIs:Ex × St:=(.ret,⟨puts (J 25) [(4,.blit false)],[],0⟩)
def EIs:Ex × St:=(.exit 0,⟨J 25,[],0⟩)
theorem bIs (A : List Fu.Ape) (i : Int) : roundN c78 60 33 (loopAt c78.P 33 2) (norm2 0 [] [] sIs) (norm2 0 [] [] eIs) (TIs (A, i)) =
    .ite (decide (i > 0)) (.asrt (0≤i∧i < A.length) (.asrt (0≤IntKind.i64.wrap (i - 1)∧IntKind.i64.wrap (i - 1) < A.length) (.ite (decide (IntKind.i64.wrap ((rd .ape A i).ID - (rd .ape A (IntKind.i64.wrap (i - 1))).ID) < 0)) (.ret RIs) (.ret (.normal,TIs (A,IntKind.i64.wrap (i - 1))))))) (.ret EIs):=by kernel_rfl
def gIs (σ:St):Option (List Fu.Ape × Int) :=
  match nth σ.tmps 0,nth σ.tmps 5 with
  | .view .ape A,.int .i64 i=>some (A,i)
  | _,_=>none
def smallIDs (A:List Fu.Ape):Prop:=∀ a ∈ A,0≤a.ID∧a.ID≤549755813888
def LxIs (x:List Fu.Ape × Int):Tree (Ex × St):=.asrt ((-1≤x.2∧x.2 < x.1.length∧(x.1.length:Int) < 17592186044416)∧smallIDs x.1) (.ite (srtA x.1 x.2.toNat) (.ret EIs) (.ret RIs))
def LIs:LoopCon:=entry 0 (norm2 0 [] [] sIs) TIs gIs LxIs
theorem rd_memA {A:List Fu.Ape} {i:Int} (h0:0≤i) (h1:i < A.length):rd .ape A i ∈ A:=by
  have hlt:i.toNat < A.length:=by omega
  have:rd .ape A i = A[i.toNat]:=by simp [rd,hlt]
  rw [this]
  exact List.getElem_mem _
theorem lIs (hs:SubOf c78.P 33 (.loop (loopAt c78.P 33 2))):SoundLoop c78 (loopAt c78.P 33 2) LIs:=by
  refine loop_rule3 (C:=c78) (g:=33) (l:=2) c78_good 60 0 _ _ (Weak.norm2 0 [] [] sIs) (Weak.norm2 0 [] [] eIs) hs TIs LxIs (fun x=>x.2.toNat) (fun x q h=>?_) entry_out
  obtain ⟨A,i⟩:=x
  obtain ⟨⟨⟨h0,h1,h2⟩,h3⟩,h⟩:=Tree.out_asrt.1 h
  simp only at h0 h1 h2 h3 h
  refine .of_eq (bIs A i) ?_
  rw [wrap_fits (n:=i - 1) (by omega) (by omega)]
  refine Tree.wp_ite.2 ⟨fun hi=>?_,fun hi=>?_⟩
  · have hi:=of_decide_eq_true hi
    have k1:=h3 _ (rd_memA (A:=A) (i:=i) (by omega) h1)
    have k2:=h3 _ (rd_memA (A:=A) (i:=i - 1) (by omega) (by omega))
    rw [wrap_fits (by omega) (by omega)]
    have e:srtA A i.toNat = (decide ((rd .ape A (i - 1)).ID≤(rd .ape A i).ID) && srtA A (i - 1).toNat):=by
      rw [show i.toNat = (i - 1).toNat + 1 by omega]
      show (decide _ && _) = _
      rw [show (((i - 1).toNat:Nat):Int) = i - 1 by omega,show i - 1 + 1 = i by omega]
    rw [e] at h
    refine ⟨⟨by omega,h1⟩,⟨by omega,by omega⟩,Tree.wp_ite.2 ⟨fun hb=>?_,fun hb=>?_⟩⟩
    · have hb:=of_decide_eq_true hb
      rw [decide_eq_false (by omega),Bool.false_and] at h
      exact Rnd.ret h
    · have hb:=of_decide_eq_false hb
      rw [decide_eq_true (by omega),Bool.true_and] at h
      exact Rnd.go (m:=fun x:List Fu.Ape × Int=>x.2.toNat) (x:=(A,i)) (A,i - 1) (by simp only; omega) (Tree.out_asrt.2 ⟨⟨⟨by simp only; omega,by simp only; omega,h2⟩,h3⟩,h⟩)
  · have hi:=of_decide_eq_false hi
    rw [show i.toNat = 0 by omega] at h
    exact Rnd.out h
noncomputable def c79:Cfg:=c78.addLoop 33 2 LIs
theorem c79_good:GoodCfg c79:=c78_good.addLoop (by unfold OneLoop; kernel_rfl) lIs
def isT (A:List Fu.Ape):Tree (AV × List Blk):=.asrt (0 = 0∧TIs (A,IntKind.i64.wrap ((A.length:Int) - 1)) = TIs (A,IntKind.i64.wrap ((A.length:Int) - 1)))
  (.asrt ((-1≤IntKind.i64.wrap ((A.length:Int) - 1)∧IntKind.i64.wrap ((A.length:Int) - 1) < A.length∧(A.length:Int) < 17592186044416)∧smallIDs A) (.ite (srtA A (IntKind.i64.wrap ((A.length:Int) - 1)).toNat) (.ret (.blit true,[])) noB))
theorem fIs (A:List Fu.Ape):callC c79 60 33 [.view .ape A,.fn (.func 34) [] []] = isT A:=by kernel_rfl
def conIs:Con:=flatCon (d2 (dView .ape) (dFn 34)) (fun x=>(x.1.length:Int) < 17592186044416∧smallIDs x.1) fun x=>.bool (ascA x.1)
theorem conIs_valid:ValidCon c79.P 33 conIs:=flatCon_valid c79_good 60 (by kernel_rfl) fun x h=>⟨_,fIs x.1,by
  have h1:=h.1
  have h2:=h.2
  generalize x.1 = A at h1 h2 ⊢
  refine .asrt ⟨rfl,rfl⟩ ?_
  rw [wrap_fits (n:=(A.length:Int) - 1) (by omega) (by omega)]
  refine .asrt ⟨⟨by omega,by omega,h1⟩,h2⟩ ?_
  rw [show ((A.length:Int) - 1).toNat = A.length - 1 by omega,srtA_asc]
  cases h:ascA A with
  | true=>exact .itet rfl (.ret (.blit (by simp)) rfl)
  | false=>exact .itee rfl (noB_rez (by simp))⟩
noncomputable def c80:Cfg:=c79.addQuiet 33 conIs
theorem c80_good:GoodCfg c80:=c79_good.addQuiet conIs_valid flatCon_quiet
def encW (w:Fu.World):List AV:=[.int .i64 w.Now,.view .task w.T,.view .ape w.A,.int .i64 w.Cur]
def decW:AV→Option Fu.World
  | .agg [a,t,p,c]=>match a.i,t.asView .task,p.asView .ape,c.i with
    | some a,some t,some p,some c=>some ⟨a,t,p,c⟩
    | _,_,_,_=>none
  | _=>none
def dWorld:Dc Fu.World:=⟨decW,fun w=>.agg (encW w),fun v w h=>by
  unfold decW at h
  split at h
  · split at h
    · rename_i h1 h2 h3 h4; cases h; exact .agg (.cons (.i h1) (.cons (.view h2) (.cons (.view h3) (.cons (.i h4) .nil))))
    · cases h
  · cases h⟩
def smallW (w:Fu.World):Prop:=(w.T.length:Int) * 176≤140737488355328∧(w.A.length:Int) * 40≤140737488355328
def ascT:List Fu.Task→Bool
  | []=>true
  | [_]=>true
  | a :: b :: l=>decide (a.ID < b.ID) && ascT (b :: l)
def tkOK (now:Int) (t:Fu.Task):Bool:=mayK t now && !(t.J.On && decide (t.J.Due≤now))
def mayW (w:Fu.World):Bool:=!(decide (w.Now < 0) || (decide (w.Now > 274877906944) || (decide ((w.T.length:Int) > 4) || (decide (w.Cur < -1) || (decide (w.Cur > 549755813888) || !mayA w.A w.Now))))) && ((w.T.all (tkOK w.Now) && ascT w.T) && ascA w.A)
abbrev ARm:=Fu.World
def TRm (x:ARm × Int):St:=⟨puts (J 83) [(1,.ptr 0 0),(38,.view .task x.1.T),(39,.int .i64 x.1.T.length),(40,.int .i64 x.2)],[(0,.cells (encW x.1))],1⟩
def sRm:List Sh:=sets (Js 83) [(1,.keep),(38,.keep),(39,.int),(40,.int)]
def eRm:List Sh:=sets (Js 83) [(1,.keep),(2,.keep)]
def ERm (x:ARm):Ex × St:=(.exit 0,⟨puts (J 83) [(1,.ptr 0 0)],[(0,.cells (encW x))],1⟩)
def RRm (x:ARm):Ex × St:=(.ret,⟨puts (J 83) [(1,.ptr 0 0),(2,.blit false)],[(0,.cells (encW x))],1⟩)
def badT2 (x:ARm) (i:Int):Bool:=!mayK (rd .task x.T i) x.Now || (rd .task x.T i).J.On && decide ((rd .task x.T i).J.Due≤x.Now)
def brkRb (x:ARm) (i:Int):Bool:=bif decide (i > 0) then decide ((rd .task x.T i).ID≤(rd .task x.T (IntKind.i64.wrap (i - 1))).ID) || badT2 x i else badT2 x i
theorem bRm (x : ARm) (i : Int) : roundN c80 80 16 (loopAt c80.P 16 4) (norm2 1 [] [0] sRm) (norm2 1 [] [0] eRm) (TRm (x, i)) =
    .ite (decide (i < x.T.length)) (.asrt (0≤i∧i < x.T.length) (.asrt (decide (i > 0) = true→0≤IntKind.i64.wrap (i - 1)∧IntKind.i64.wrap (i - 1) < x.T.length) (.ite (brkRb x i) (.ret (RRm x)) (.ret (.normal,TRm (x,IntKind.i64.wrap (i + 1))))))) (.ret (ERm x)):=by kernel_rfl
def gRm (σ:St):Option (ARm × Int) :=
  match nth σ.tmps 40,σ.heap with
  | .int .i64 i,[(_,.cells [.int .i64 a,.view .task t,.view .ape p,.int .i64 c])]=>some (⟨a,t,p,c⟩,i)
  | _,_=>none
def fineFrom (now:Int):Option Fu.Task→List Fu.Task→Bool
  | _,[]=>true
  | p,t :: l=>(match p with | some q=>decide (q.ID < t.ID) | none=>true) && (tkOK now t && fineFrom now (some t) l)
def prevT (T:List Fu.Task) (i:Int):Option Fu.Task:=if i > 0 then some (rd .task T (i - 1)) else none
def LxRm (x:ARm × Int):Tree (Ex × St):=.asrt (0≤x.2∧x.2≤x.1.T.length∧(x.1.T.length:Int)≤17592186044415) (.ite (fineFrom x.1.Now (prevT x.1.T x.2) (x.1.T.drop x.2.toNat)) (.ret (ERm x.1)) (.ret (RRm x.1)))
def LRm:LoopCon:=entry 1 (norm2 1 [] [0] sRm) TRm gRm LxRm
theorem brkRb_eq {x:ARm} {i:Int} (h0:0≤i) (h1:i < x.T.length) (h2:(x.T.length:Int)≤17592186044415) (l:List Fu.Task):fineFrom x.Now (prevT x.T i) (rd .task x.T i :: l) = (!brkRb x i && fineFrom x.Now (some (rd .task x.T i)) l):=by
  have hw:IntKind.i64.wrap (i - 1) = i - 1:=wrap_fits (by omega) (by omega)
  have eb:tkOK x.Now (rd .task x.T i) = !badT2 x i:=by unfold tkOK badT2; rw [Bool.not_or,Bool.not_not]
  have ec:fineFrom x.Now (prevT x.T i) (rd .task x.T i :: l) = ((match prevT x.T i with | some q=>decide (q.ID < (rd .task x.T i).ID) | none=>true) && (tkOK x.Now (rd .task x.T i) && fineFrom x.Now (some (rd .task x.T i)) l)):=rfl
  rw [ec,eb]
  unfold brkRb prevT
  rw [hw]
  by_cases hi:i > 0
  · rw [if_pos hi,decide_eq_true hi]
    simp only [cond_true]
    have e:decide ((rd .task x.T (i - 1)).ID < (rd .task x.T i).ID) = !decide ((rd .task x.T i).ID≤(rd .task x.T (i - 1)).ID):=by
      rw [Bool.eq_iff_iff]; simp
    rw [e,Bool.not_or,Bool.and_assoc]
  · rw [if_neg hi,decide_eq_false hi]
    simp only [cond_false]
    rw [Bool.true_and]
theorem lRm (hs:SubOf c80.P 16 (.loop (loopAt c80.P 16 4))):SoundLoop c80 (loopAt c80.P 16 4) LRm:=by
  refine loop_rule3 (C:=c80) (g:=16) (l:=4) c80_good 80 1 _ _ (Weak.norm2 1 [] [0] sRm) (Weak.norm2 1 [] [0] eRm) hs TRm LxRm (fun x=>(x.1.T.length - x.2).toNat) (fun x q h=>?_) entry_out
  obtain ⟨x,i⟩:=x
  obtain ⟨⟨h0,h1,h2⟩,h⟩:=Tree.out_asrt.1 h
  simp only at h0 h1 h2 h
  refine .of_eq (bRm x i) ?_
  rw [wrap_fits (n:=i + 1) (by omega) (by omega)]
  refine Tree.wp_ite.2 ⟨fun hi=>?_,fun hi=>?_⟩
  · have hi:=of_decide_eq_true hi
    rw [drop_rd (r:=.task) h0 hi,brkRb_eq h0 hi h2] at h
    refine ⟨⟨h0,hi⟩,fun hp=>?_,Tree.wp_ite.2 ⟨fun hb=>?_,fun hb=>?_⟩⟩
    · have hp:=of_decide_eq_true hp
      rw [wrap_fits (by omega) (by omega)]
      omega
    · rw [hb] at h
      exact Rnd.ret h
    · rw [hb] at h
      refine Rnd.go (m:=fun x:ARm × Int=>(x.1.T.length - x.2).toNat) (x:=(x,i)) (x,i + 1) (by simp only; omega) (Tree.out_asrt.2 ⟨⟨by simp only; omega,by simp only; omega,h2⟩,?_⟩)
      simp only
      have e:prevT x.T (i + 1) = some (rd .task x.T i):=by unfold prevT; rw [if_pos (by omega),show i + 1 - 1 = i by omega]
      rw [e]
      simpa using h
  · have hi:=of_decide_eq_false hi
    rw [drop_end (by omega)] at h
    exact Rnd.out h
noncomputable def c81:Cfg:=c80.addLoop 16 4 LRm
theorem c81_good:GoodCfg c81:=c80_good.addLoop (by unfold OneLoop; kernel_rfl) lRm
theorem fineFrom_eq (now:Int):∀ (T:List Fu.Task),fineFrom now none T = (T.all (tkOK now) && ascT T)∧∀ q,fineFrom now (some q) T = (T.all (tkOK now) && ascT (q :: T))
  | []=>⟨rfl,fun _=>rfl⟩
  | t :: l=>by
    obtain ⟨_,h2⟩:=fineFrom_eq now l
    have e:fineFrom now none (t :: l) = ((t :: l).all (tkOK now) && ascT (t :: l)):=by
      show (true && (tkOK now t && fineFrom now (some t) l)) = _
      rw [h2 t,List.all_cons,Bool.true_and,Bool.and_assoc]
    refine ⟨e,fun q=>?_⟩
    show (decide (q.ID < t.ID) && (tkOK now t && fineFrom now (some t) l)) = ((t :: l).all (tkOK now) && (decide (q.ID < t.ID) && ascT (t :: l)))
    rw [h2 t,List.all_cons]
    cases decide (q.ID < t.ID) <;> cases tkOK now t <;> cases l.all (tkOK now) <;> cases ascT (t :: l) <;> rfl
def badW (w:Fu.World):Bool:=decide (w.Now < 0) || (decide (w.Now > 274877906944) || (decide ((w.T.length:Int) > 4) || (decide (w.Cur < -1) || (decide (w.Cur > 549755813888) || !mayA w.A w.Now))))
def mayWT (w:Fu.World):Tree (AV × List Blk) :=
  .asrt (decide (w.Now < 0) = false→decide (w.Now > 274877906944) = false→decide ((w.T.length:Int) > 4) = false→decide (w.Cur < -1) = false→decide (w.Cur > 549755813888) = false→(w.A.length:Int) < 17592186044416)
    (.ite (badW w) noB (.asrt (1 = 1∧TRm (w,0) = TRm (w,0)) (.asrt (0≤(0:Int)∧(0:Int)≤w.T.length∧(w.T.length:Int)≤17592186044415)
      (.ite (fineFrom w.Now (prevT w.T 0) (w.T.drop (0:Int).toNat)) (.asrt ((w.A.length:Int) < 17592186044416∧smallIDs w.A) (.ret (.bool (ascA w.A),[]))) noB))))
theorem fRelMay (w:Fu.World):callC c81 80 16 [.agg (encW w)] = mayWT w:=by kernel_rfl
def conMayW:Con:=flatCon (d1 dWorld) smallW fun w=>.bool (mayW w)
theorem mayWT_rez {w:Fu.World} (h:smallW w):Rez (mayWT w) (.bool (mayW w),[]):=by
  obtain ⟨h1,h2⟩:=h
  refine .asrt (fun _ _ _ _ _=>by omega) ?_
  have e:mayW w = (!badW w && ((w.T.all (tkOK w.Now) && ascT w.T) && ascA w.A)):=rfl
  rw [e]
  cases hb:badW w with
  | true=>exact .itet rfl (noB_rez rfl)
  | false =>
    refine .itee rfl (.asrt ⟨rfl,rfl⟩ (.asrt ⟨Int.le_refl _,by omega,by omega⟩ ?_))
    rw [show prevT w.T 0 = none from rfl,show (0:Int).toNat = 0 from rfl,List.drop_zero,(fineFrom_eq w.Now w.T).1]
    cases hf:(w.T.all (tkOK w.Now) && ascT w.T) with
    | false=>exact .itee rfl (noB_rez rfl)
    | true =>
      refine .itet rfl (.asrt ⟨by omega,?_⟩ (retB rfl))
      have hm:mayA w.A w.Now = true:=by
        unfold badW at hb
        simp only [Bool.or_eq_false_iff,Bool.not_eq_false'] at hb
        exact hb.2.2.2.2.2
      unfold mayA at hm
      simp only [Bool.and_eq_true,List.all_eq_true] at hm
      exact fun a ha=>(apeOK_iff.1 (hm.1 a ha)).1
theorem conMayW_valid:ValidCon c81.P 16 conMayW:=flatCon_valid c81_good 80 (by kernel_rfl) fun w h=>⟨_,fRelMay w,mayWT_rez h⟩
noncomputable def c82:Cfg:=c81.addQuiet 16 conMayW
theorem c82_good:GoodCfg c82:=c81_good.addQuiet conMayW_valid flatCon_quiet
end Go.Fx
