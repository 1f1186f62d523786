import Derived.Test.YtgefkgmfbmdooaaGreatT6
import Derived.Test.YtgefkgmfbmdooaaGreatTZ
namespace Go.Fx
open Go Go.Proofs
def fin15 (t:Fu.Task) (n:Int):Tree (AV × List Blk):=.ret (.bool (t.H.N == (bif decide (n > 60) then 60 else n)),[])
def may15T (t:Fu.Task) (now:Int):Tree (AV × List Blk):=.asrt (0≤t.H.B) (.ite (!mayS t.S || (!mayJ t.S t.J || (!ringOK t.H || (decide (t.ID < 0) || (decide (t.ID > 549755813888) || (decide (t.Next < t.S.T) || (decide (t.Next > t.S.Max) || (decide (t.P < 1) || (decide (t.P > 48) || (decide (now < 0) || decide (now > 549755813888))))))))))) noB
  (.ite (decide (t.At < now) || (decide (t.At > IntKind.i64.wrap (now + 48)) || (decide (t.N < 0) || decide (t.N > 549755813888)))) noB
    (.ite t.J.On (.ite (decide (t.J.Rel≥now) || (t.J.Due != t.At || t.N != IntKind.i64.wrap (t.J.J + 1))) noB (fin15 t (IntKind.i64.wrap (t.N - 1)))) (fin15 t t.N))))
theorem fMay15 (t:Fu.Task) (now:Int):callC c110 60 36 [.agg (encTask t),.int .i64 now] = may15T t now:=by kernel_rfl
theorem may15T_rez {t:Fu.Task} {now:Int} (hb:0≤t.H.B):Rez (may15T t now) (.bool (mayK t now),[]):=by
  have hk:mayK t now = true↔_:=refK_iff
  refine .asrt hb (ite_rez (fun h1=>noB_rez ?_) fun h1=>ite_rez (fun h2=>noB_rez ?_) fun h2=>?_)
  · cases hm:mayK t now with
    | false=>rfl
    | true =>
      obtain ⟨⟨a1,a2,a3⟩,⟨b1,b2,b3,b4⟩,_⟩:=hk.1 hm
      rw [a1,a2,a3] at h1
      simp only [Bool.not_true,Bool.false_or,Bool.or_eq_true,decide_eq_true_eq] at h1
      omega
  · cases hm:mayK t now with
    | false=>rfl
    | true =>
      obtain ⟨_,⟨b1,b2,b3,b4⟩,⟨b5,b6⟩,_⟩:=hk.1 hm
      rw [wrap_fits (n:=now + 48) (by omega) (by omega)] at h2
      simp only [Bool.or_eq_true,decide_eq_true_eq] at h2
      omega
  · simp only [Bool.or_eq_false_iff,Bool.not_eq_false',decide_eq_false_iff_not] at h1
    obtain ⟨a1,a2,a3,a4⟩:=h1
    rw [wrap_fits (n:=now + 48) (by omega) (by omega)] at h2
    simp only [Bool.or_eq_false_iff,decide_eq_false_iff_not] at h2
    have a4':(0≤t.ID∧t.ID≤549755813888)∧(t.S.T≤t.Next∧t.Next≤t.S.Max)∧(1≤t.P∧t.P≤48)∧(0≤now∧now≤549755813888):=by omega
    have h2':(now≤t.At∧t.At≤now + 48)∧(0≤t.N∧t.N≤549755813888):=by omega
    have fin:∀ n:Int,(bif t.J.On then t.N - 1 else t.N) = n→(t.J.On = true→t.J.Rel < now∧t.J.Due = t.At∧t.N = t.J.J + 1)→Rez (fin15 t n) (.bool (mayK t now),[]):=fun n hn hj=>retB (by
      have e:(bif decide (n > 60) then (60:Int) else n) = min n 60:=by
        by_cases hc:n > 60
        · rw [decide_eq_true hc]; simp only [cond_true]; omega
        · rw [decide_eq_false hc]; simp only [cond_false]; omega
      rw [e]
      cases hm:mayK t now with
      | true =>
        obtain ⟨_,_,_,_,c⟩:=hk.1 hm
        rw [c,hn]
        exact beq_self_eq_true _
      | false =>
        cases hq:t.H.N == min n 60 with
        | false=>rfl
        | true =>
          have:=hk.2 ⟨⟨a1,a2,a3⟩,a4',h2',hj,by rw [hn]; exact beq_iff_eq.1 hq⟩
          rw [this] at hm; cases hm)
    cases ho:t.J.On with
    | false=>exact .itee rfl (fin _ (by rw [ho]; rfl) fun h=>by rw [ho] at h; cases h)
    | true =>
      have hj:JobOK t.S t.J:=of_decide_eq_true a2
      refine .itet rfl (ite_rez (fun h3=>noB_rez ?_) fun h3=>?_)
      · cases hm:mayK t now with
        | false=>rfl
        | true =>
          obtain ⟨_,_,_,c,_⟩:=hk.1 hm
          obtain ⟨c1,c2,c3⟩:=c ho
          rw [wrap_fits (n:=t.J.J + 1) (by omega) (by omega)] at h3
          simp only [Bool.or_eq_true,decide_eq_true_eq,bne_iff_ne,ne_eq] at h3
          omega
      · have hJ:0≤t.J.J∧t.J.J≤1099511627776:=by
          rcases hj.2 with ⟨q,_⟩ | ⟨q1,q2,q3,q4,q5,q6,q7⟩
          · rw [ho] at q; cases q
          · omega
        rw [wrap_fits (n:=t.J.J + 1) (by omega) (by omega)] at h3
        simp only [Bool.or_eq_false_iff,decide_eq_false_iff_not,bne_eq_false_iff_eq] at h3
        rw [wrap_fits (n:=t.N - 1) (by omega) (by omega)]
        exact fin _ (by rw [ho]; rfl) fun _=>by omega
def conMay15:Con:=flatCon (d2 dTask dInt) (fun x=>0≤x.1.H.B) fun x=>.bool (mayK x.1 x.2)
theorem conMay15_valid:ValidCon c110.P 36 conMay15:=flatCon_valid c110_good 60 (by kernel_rfl) fun x hb=>⟨_,fMay15 x.1 x.2,may15T_rez hb⟩
noncomputable def c111:Cfg:=c110.addQuiet 36 conMay15
theorem c111_good:GoodCfg c111:=c110_good.addQuiet conMay15_valid flatCon_quiet
theorem fLive15 (t:Fu.Task):callC c111 60 30 [.agg (encTask t)] = .ite t.J.On (.ret (.agg (encLive ⟨t.S,{ t.J with D:=t.S.C },t.Next,t.At,t.N⟩),[])) (.ret (.agg (encLive ⟨t.S,t.J,t.Next,t.At,t.N⟩),[])):=by kernel_rfl
theorem conLive15_valid:ValidCon c111.P 30 conTaskLive:=plainCon_valid c111_good 60 (by kernel_rfl) fun t=>⟨_,fLive15 t,by
  unfold liveK lookJ
  cases h:t.J.On with
  | true=>exact .itet rfl (.ret (.refl _) rfl)
  | false=>exact .itee rfl (.ret (.refl _) rfl)⟩
noncomputable def c112:Cfg:=c111.addQuiet 30 conTaskLive
theorem c112_good:GoodCfg c112:=c111_good.addQuiet conLive15_valid plainCon_quiet
def end15T (t:Fu.Task) (now:Int):Tree (AV × List Blk):=.ite (atF t.J now != 3) (.ret (.tup [.agg (encTask t),.lit .i64 0],[])) (.asrt (0≤t.H.B) (.ret (.tup [.agg (encTask { t with J:=atJ t.J now,H:=putRing t.H false }),.lit .i64 3],[])))
theorem fEnd15 (t:Fu.Task) (now:Int):callC c112 60 27 [.agg (encTask t),.int .i64 now] = end15T t now:=by kernel_rfl
def conEnd15:Con:=flatCon (d2 dTask dInt) (fun x=>0≤x.1.H.B) fun x=>.tup [.agg (encTask (endK x.1 x.2)),.int .i64 (atF x.1.J x.2)]
theorem conEnd15_valid:ValidCon c112.P 27 conEnd15:=flatCon_valid c112_good 60 (by kernel_rfl) fun ⟨t,now⟩ hb=>⟨_,fEnd15 t now,by
  unfold end15T endK
  cases h:overJ t.J now with
  | true =>
    have e1:atF t.J now = 3:=by simp [atF,h]
    have e2:atJ t.J now = zeroJ:=by simp [atJ,h]
    rw [e1,e2]
    exact .itee rfl (.asrt hb (.ret (.tup (.cons (.refl _) (.cons (.lit rfl) .nil))) rfl))
  | false =>
    have e1:atF t.J now = 0:=by simp [atF,h]
    rw [e1]
    exact .itet rfl (.ret (.tup (.cons (.refl _) (.cons (.lit rfl) .nil))) rfl)⟩
noncomputable def c113:Cfg:=c112.addQuiet 27 conEnd15
theorem c113_good:GoodCfg c113:=c112_good.addQuiet conEnd15_valid flatCon_quiet
def beg15T (t:Fu.Task) (now d:Int):Tree (AV × List Blk):=.ite (t.J.On || now != t.At) (.ret (.tup [.agg (encTask t),.blit false],[])) (.ite (!mayJ t.S (begJ t now d)) (.ret (.tup [.agg (encTask t),.blit false],[]))
  (.ite (decide (d > t.S.C)) (.ret (begA t now d (.blit false))) (.ret (begA t now d (.bool t.Kept)))))
theorem fBeg15 (t:Fu.Task) (now d:Int):callC c113 60 25 [.agg (encTask t),.int .i64 now,.int .i64 d] = beg15T t now d:=by kernel_rfl
theorem conBeg15_valid:ValidCon c113.P 25 conTaskBegin:=plainCon_valid c113_good 60 (by kernel_rfl) fun ⟨t,now,d⟩=>⟨_,fBeg15 t now d,by
  unfold beg15T begK begOK
  cases h:(t.J.On || now != t.At) with
  | true=>exact .itet rfl (.ret (.tup (.cons (.refl _) (.cons (.blit rfl) .nil))) rfl)
  | false =>
    refine .itee rfl ?_
    cases h2:mayJ t.S (begJ t now d) with
    | false=>exact .itet rfl (.ret (.tup (.cons (.refl _) (.cons (.blit rfl) .nil))) rfl)
    | true =>
      refine .itee rfl ?_
      have e:newJ t.S t.N now (IntKind.i64.wrap (now + t.Next)) d = begJ t now d:=by
        unfold begJ at h2 ⊢
        simp [newJ,h2]
      simp only [Bool.not_false,Bool.and_self,cond_true]
      unfold begA begT
      rw [e]
      by_cases hd:d > t.S.C
      · rw [decide_eq_true hd,decide_eq_false (show ¬ d≤t.S.C by omega),Bool.and_false]
        exact .itet rfl (.ret (.tup (.cons (.agg (.cons (.refl _) (.cons (.refl _) (.cons (.refl _) (.cons (.refl _) (.cons (.refl _) (.cons (.refl _) (.cons (.refl _) (.cons (.refl _) (.cons (.refl _) (.cons (.refl _) (.cons (.refl _) (.cons (.refl _) (.cons (.refl _) (.cons (.refl _) (.cons (.refl _) (.cons (.refl _) (.cons (.refl _) (.cons (.refl _) (.cons (.refl _) (.cons (.refl _) (.cons (.refl _) (.cons (.blit rfl) .nil))))))))))))))))))))))) (.cons (.blit rfl) .nil))) rfl)
      · rw [decide_eq_false hd,decide_eq_true (show d≤t.S.C by omega),Bool.and_true]
        exact .itee rfl (.ret (.tup (.cons (.refl _) (.cons (.blit rfl) .nil))) rfl)⟩
noncomputable def c114:Cfg:=c113.addQuiet 25 conTaskBegin
theorem c114_good:GoodCfg c114:=c113_good.addQuiet conBeg15_valid plainCon_quiet
end Go.Fx
