import Derived.Test.YtdmlnbfejgdhaaaGreatD1
import Derived.Test.YtdmlnbfejgdhaaaGreatC3
import Derived.Test.YtdmlnbfejgdhaaaGreatC4
namespace Go.Fx
open Go
theorem ring_B {h:Fu.Ring} (hr:ringOK h=true):(0≤h.N∧h.N≤60)∧0≤h.B∧h.B < 2 ^ h.N.toNat:=by
 have hN:=ringOK_N hr
 unfold ringOK at hr
 simp only [Bool.and_eq_true,beq_iff_eq] at hr
 have h0:=hr.2.2
 unfold shrI at h0
 rw [show min h.N.toNat (IntKind.bits .u64)=h.N.toNat by show min h.N.toNat 64=_; omega] at h0
 have hp:(0:Int) < 2 ^ h.N.toNat:=Int.pow_pos (by omega)
 rw [Int.fdiv_eq_ediv_of_nonneg _ (Int.le_of_lt hp)] at h0
 refine ⟨hN,?_,?_⟩
 ·exact ((Int.ediv_nonneg_iff_of_pos hp).1 (by omega))
 ·exact Int.lt_of_ediv_lt_of_pos hp h0
where
 Int.lt_of_ediv_lt_of_pos {a b:Int} (hb:0 < b) (h:a / b=0):a < b:=by
  have h1:=Int.emod_add_mul_ediv a b
  have h2:=Int.emod_lt_of_pos a hb
  rw [h,Int.mul_zero,Int.add_zero] at h1
  omega
theorem pow60 {n:Nat} (h:n≤60):(2:Int) ^ n≤1152921504606846976:=by
 have:(2:Nat) ^ n≤2 ^ 60:=Nat.pow_le_pow_right (by omega) h
 have h2:((2 ^ n:Nat):Int)≤((2 ^ 60:Nat):Int):=Int.ofNat_le.2 this
 rw [Int.natCast_pow] at h2
 exact Int.le_trans h2 (by decide)
theorem mask60:maskV 60=1152921504606846975:=by decide +kernel
theorem and_mask {x:Int} (h0:0≤x) (h1:x < 18446744073709551616):andI .u64 x 1152921504606846975=x % 1152921504606846976:=by
 obtain ⟨n,rfl⟩:∃ n:Nat,x=n:=⟨x.toNat,by omega⟩
 have e1:(BitVec.ofInt 64 (n:Int)).toNat=n:=by
  rw [BitVec.toNat_ofInt]; omega
 have e2:(BitVec.ofInt 64 (1152921504606846975:Int)).toNat=2 ^ 60-1:=by decide +kernel
 unfold andI
 show IntKind.u64.wrap (((BitVec.ofInt 64 (n:Int) &&& BitVec.ofInt 64 (1152921504606846975:Int)).toNat:Nat):Int)=_
 rw [BitVec.toNat_and,e1,e2,Nat.and_two_pow_sub_one_eq_mod]
 have h3:n % 2 ^ 60 < 2 ^ 60:=Nat.mod_lt _ (by decide)
 have e3:((n % 2 ^ 60:Nat):Int)=(n:Int) % 1152921504606846976:=by
  rw [Int.natCast_emod]; rfl
 rw [e3]
 have h4:=Int.emod_nonneg (n:Int) (show (1152921504606846976:Int)≠0 by decide)
 have h5:=Int.emod_lt_of_pos (n:Int) (show (0:Int) < 1152921504606846976 by decide)
 show ((n:Int) % 1152921504606846976) % 18446744073709551616=_
 exact Int.emod_eq_of_lt h4 (by omega)
theorem or_one {x:Int} (h0:0≤x) (h1:2*x+1 < 18446744073709551616):orI .u64 (2*x) 1=2*x+1:=by
 obtain ⟨n,rfl⟩:∃ n:Nat,x=n:=⟨x.toNat,by omega⟩
 have e1:(BitVec.ofInt 64 (2*(n:Int))).toNat=2*n:=by
  rw [BitVec.toNat_ofInt]; omega
 have e2:(BitVec.ofInt 64 (1:Int)).toNat=1:=by decide +kernel
 unfold orI
 show IntKind.u64.wrap (((BitVec.ofInt 64 (2*(n:Int)) ||| BitVec.ofInt 64 (1:Int)).toNat:Nat):Int)=_
 rw [BitVec.toNat_or,e1,e2]
 have e3:2*n ||| 1=2*n+1:=by
  have:=Nat.two_pow_add_eq_or_of_lt (i:=1) (b:=1) (by decide) n
  rw [Nat.pow_one] at this
  exact this.symm
 rw [e3]
 show ((2*n+1:Nat):Int) % 18446744073709551616=_
 have:((2*n+1:Nat):Int)=2*(n:Int)+1:=by omega
 rw [this]
 exact Int.emod_eq_of_lt (by omega) (by omega)
theorem put_eq {h:Fu.Ring} (hr:ringOK h=true) (g:Bool):putRing h g=⟨min (h.N+1) 60,(2*h.B) % 1152921504606846976+(bif g then 1 else 0)⟩:=by
 obtain ⟨⟨h0,h1⟩,h2,h3⟩:=ring_B hr
 have h4:=pow60 (n:=h.N.toNat) (by omega)
 have e1:shlI .u64 h.B 1=2*h.B:=by
  show (h.B*2 ^ (min (1:Int).toNat 64)) % 18446744073709551616=_
  rw [show (2:Int) ^ (min (1:Int).toNat 64)=2 by decide,Int.mul_comm]
  exact Int.emod_eq_of_lt (by omega) (by omega)
 have e2:putB h=(2*h.B) % 1152921504606846976:=by
  unfold putB ofRing
  rw [hr,mask60]
  simp only [cond_true]
  rw [e1]
  exact and_mask (by omega) (by omega)
 unfold putRing
 rw [e2]
 unfold ofRing
 rw [hr]
 simp only [cond_true]
 cases g with
 | false=>simp
 | true =>
  simp only [cond_true]
  have e3:(2*h.B) % 1152921504606846976=2*(h.B % 576460752303423488):=by omega
  rw [e3,or_one (by omega) (by omega)]
theorem put_ok {h:Fu.Ring} (hr:ringOK h=true) (g:Bool):ringOK (putRing h g)=true:=by
 obtain ⟨⟨h0,h1⟩,h2,h3⟩:=ring_B hr
 rw [put_eq hr]
 have hg:(0:Int)≤(bif g then 1 else 0)∧(bif g then (1:Int) else 0)≤1:=by cases g <;> simp
 have hlt:(2*h.B) % 1152921504606846976+(bif g then 1 else 0) < 2 ^ (min (h.N+1) 60).toNat:=by
  by_cases hn:h.N=60
  ·rw [hn]
   rw [show (2:Int) ^ (min ((60:Int)+1) 60).toNat=1152921504606846976 by decide]
   omega
  ·rw [show (min (h.N+1) 60).toNat=h.N.toNat+1 by omega,Int.pow_succ]
   have:=pow60 (n:=h.N.toNat+1) (by omega)
   rw [Int.pow_succ] at this
   omega
 unfold ringOK
 simp only
 rw [decide_eq_true (show min (h.N+1) 60≥0 by omega),decide_eq_true (show min (h.N+1) 60≤60 by omega)]
 simp only [Bool.true_and,beq_iff_eq]
 unfold shrI
 rw [show min (min (h.N+1) 60).toNat (IntKind.bits .u64)=(min (h.N+1) 60).toNat by show min _ 64=_; omega]
 have hp:(0:Int) < 2 ^ (min (h.N+1) 60).toNat:=Int.pow_pos (by omega)
 rw [Int.fdiv_eq_ediv_of_nonneg _ (Int.le_of_lt hp)]
 exact Int.ediv_eq_zero_of_lt (by omega) hlt
def TB (now:Int) (u:Fu.Task):Prop:=(0≤u.ID∧u.ID≤549755813888)∧(1≤u.P∧u.P≤48)∧ringOK u.H=true∧perOK u.S u.Next=true∧(now < u.At∧u.At≤now+48)∧(0≤u.N∧u.N≤549755813888)∧JobOK u.S u.J ∧
 (u.J.On=true→u.J.Rel < now+1∧u.J.Due=u.At∧u.N=u.J.J+1)∧u.H.N=min (bif u.J.On then u.N-1 else u.N) 60
theorem jobOK_on {s:Fu.Spec} {j:Fu.Job} (h:JobOK s j) (ho:j.On=true):(0≤j.J∧j.J≤1099511627776)∧(0≤j.Rel∧j.Rel < j.Due∧j.Due≤1099511627776)∧j.C=s.C∧(1≤j.D∧j.D≤20)∧(0≤j.Ran∧j.Ran < j.C∧j.Ran < j.D)∧j.Mand=onP s.M s.K j.J:=by
 rcases h.2 with ⟨h1,_⟩ | ⟨_,h⟩
 ·rw [ho] at h1; cases h1
 ·exact h
theorem jobOK_off {s:Fu.Spec} {j:Fu.Job} (h:JobOK s j) (ho:j.On=false):j=zeroJ:=by
 rcases h.2 with ⟨_,h1⟩ | ⟨h1,_⟩
 ·exact h1
 ·rw [ho] at h1; cases h1
theorem mayK_N {t:Fu.Task} {now:Int} (h:mayK t now=true):0≤t.N∧t.N≤549755813888:=(mayK_iff.1 h).2.2.2.1.2.2.2.1
theorem overK_eq {t:Fu.Task} (h:0≤t.N∧t.N≤549755813888):overK t=bif t.J.On then t.N-1 else t.N:=by
 unfold overK
 cases t.J.On with
 | true=>simp only [cond_true]; exact wrap_fits (by omega) (by omega)
 | false=>rfl
theorem tkOK_TB {t:Fu.Task} {now:Int} (h:tkOK now t=true) (ha:t.At≠now):TB now t:=by
 obtain ⟨h1,h2⟩:=tkOK_iff.1 h
 have hN:=mayK_N h1
 obtain ⟨k1,k2,k3,⟨_,k5,k6,k7,_,k9⟩,k10,k11⟩:=mayK_iff.1 h1
 have e3:(liveK t).At=t.At:=rfl
 rw [e3] at k6
 rw [overK_eq hN,minI_eq] at k11
 refine ⟨k1,k2,k3,k5,by omega,hN,of_decide_eq_true k10,fun ho=>?_,k11⟩
 have ho':(liveK t).J.On=true:=by show (lookJ t).On=true; unfold lookJ; rw [ho]; exact ho
 rcases k9 with k9 | ⟨q1,q2,q3⟩
 ·rw [ho'] at k9; cases k9
 ·have e:(liveK t).J.Rel=t.J.Rel∧(liveK t).J.Due=t.J.Due∧(liveK t).J.J=t.J.J:=by
   show (lookJ t).Rel=_∧(lookJ t).Due=_∧(lookJ t).J=_
   unfold lookJ; rw [ho]; exact ⟨rfl,rfl,rfl⟩
  rw [e.1] at q1
  rw [e.2.1] at q2
  rw [e.2.2] at q3
  exact ⟨by omega,q2,q3⟩
theorem beg_iff {t:Fu.Task} {now:Int} (h:tkOK now t=true) (h0:0≤now) (h1:now≤274877906944) {n:Int} (hn:1≤n∧n≤20):begOK t now n=decide (t.At=now)∧(t.At=now→t.J.On=false∧IntKind.i64.wrap (now+t.Next)=now+t.Next∧IntKind.i64.wrap (t.N+1)=t.N+1∧JobOK t.S (begJ t now n)):=by
 obtain ⟨k0,k9⟩:=tkOK_iff.1 h
 have hN:=mayK_N k0
 obtain ⟨_,_,_,⟨_,k1,k2,k3,k4,k5⟩,k6,_⟩:=mayK_iff.1 k0
 have hp:=perOK_P k1
 have e2:(liveK t).P=t.Next:=rfl
 have e3:(liveK t).At=t.At:=rfl
 have eC:(liveK t).S.C=t.S.C:=rfl
 have e5:(liveK t).J.On=t.J.On∧(liveK t).J.Due=t.J.Due:=by
  show (lookJ t).On=_∧(lookJ t).Due=_
  unfold lookJ
  cases hb:t.J.On with
  | true=>exact ⟨hb,rfl⟩
  | false=>exact ⟨hb,rfl⟩
 by_cases ha:t.At=now
 ·have hoff:t.J.On=false:=by
   cases hb:t.J.On with
   | false=>rfl
   | true =>
    have k9:=k9 hb
    rcases k5 with k5 | ⟨_,k5,_⟩
    ·rw [e5.1,hb] at k5; cases k5
    ·rw [e5.2,e3] at k5; omega
  rw [e2] at hp
  have hw:IntKind.i64.wrap (now+t.Next)=now+t.Next:=wrap_fits (by omega) (by omega)
  have hJ:JobOK t.S (begJ t now n):=by
   unfold begJ
   rw [hw]
   refine ⟨(perOK_iff.1 k1).1,.inr ⟨rfl,?_,?_,rfl,?_,?_,rfl⟩⟩ <;> simp only [jobOf] <;> omega
  refine ⟨?_,fun _=>⟨hoff,hw,wrap_fits (by omega) (by omega),hJ⟩⟩
  unfold begOK
  rw [hoff,ha]
  have hb:(now != now)=false:=by simp
  rw [hb,show mayJ t.S (begJ t now n)=true from decide_eq_true hJ,decide_eq_true rfl]
  rfl
 ·exact ⟨by rw [begOK_not ha,decide_eq_false ha],fun h=>absurd h ha⟩
theorem beg_TB {t:Fu.Task} {now:Int} (h:tkOK now t=true) (h0:0≤now) (h1:now≤274877906944) (ha:t.At=now) (hN:t.N < 549755813888) {n:Int} (hn:1≤n∧n≤20):TB now (begT t now n):=by
 obtain ⟨k0,k9⟩:=tkOK_iff.1 h
 obtain ⟨hoff,hw,hw2,hJ⟩:=(beg_iff h h0 h1 hn).2 ha
 have hN':=mayK_N k0
 obtain ⟨q1,q2,q3,⟨_,k1,_⟩,k6,k7⟩:=mayK_iff.1 k0
 have hp:=perOK_P k1
 have e2:(liveK t).P=t.Next:=rfl
 rw [e2] at hp
 rw [overK_eq hN',minI_eq,hoff] at k7
 unfold begT
 rw [hw,hw2]
 refine ⟨q1,by simp only; omega,q3,k1,by simp only; omega,by simp only; omega,hJ,fun _=>⟨by show now < now+1; omega,?_,rfl⟩,?_⟩
 ·show IntKind.i64.wrap (now+t.Next)=now+t.Next
  exact hw
 ·show t.H.N=min (t.N+1-1) 60
  rw [k7]
  show min t.N 60=_
  rw [Int.add_sub_cancel]
theorem beg_live {t:Fu.Task} {now:Int} (h:tkOK now t=true) (h0:0≤now) (h1:now≤274877906944) {n:Int} (hn:1≤n∧n≤20):liveK (bif begOK t now n then begT t now n else t)=beginL now (liveK t):=by
 obtain ⟨k0,_⟩:=tkOK_iff.1 h
 obtain ⟨_,_,_,⟨_,k1,k2,k3,_⟩,_⟩:=mayK_iff.1 k0
 have hp:=perOK_P k1
 have e3:(liveK t).At=t.At:=rfl
 have e2:(liveK t).P=t.Next:=rfl
 have eC:(liveK t).S.C=t.S.C:=rfl
 rw [e3] at k2
 obtain ⟨b1,b2⟩:=beg_iff h h0 h1 hn
 rw [b1]
 unfold beginL
 rw [e3]
 by_cases ha:t.At=now
 ·obtain ⟨hoff,hw,hw2,_⟩:=b2 ha
  have hJ:=((beg_iff h h0 h1 (n:=t.S.C) (by omega)).2 ha).2.2.2
  rw [decide_eq_true ha,decide_eq_true (by omega)]
  simp only [cond_true]
  unfold begT
  rw [hw,hw2]
  have ej:newJ t.S t.N now (now+t.Next) t.S.C=jobOf t.S t.N now (now+t.Next) t.S.C:=by
   unfold newJ
   unfold begJ at hJ
   rw [hw] at hJ
   rw [show mayJ t.S (jobOf t.S t.N now (now+t.Next) t.S.C)=true from decide_eq_true hJ]
   rfl
  show (⟨t.S,lookJ _,t.Next,now+t.Next,t.N+1⟩:Fu.Live)=⟨t.S,newJ t.S t.N now (now+t.Next) t.S.C,t.Next,now+t.Next,t.N+1⟩
  rw [ej]
  unfold lookJ begJ
  rw [hw]
  rfl
 ·rw [decide_eq_false ha,decide_eq_false (by omega)]
  rfl
theorem step_cases {j:Fu.Job} (ho:j.On=true):(stepF j=0∧stepJ j=ran1 j∧j.Ran+1 < j.D∧j.Ran+1 < j.C)∨((stepF j=1∧j.D≤j.Ran+1∨stepF j=2∧j.Ran+1 < j.D∧j.C≤j.Ran+1)∧stepJ j=zeroJ):=by
 unfold stepF stepJ
 rw [ho]
 simp only [cond_true]
 by_cases h1:j.Ran+1≥j.D
 ·right
  rw [decide_eq_true h1]
  exact ⟨.inl ⟨rfl,h1⟩,rfl⟩
 ·rw [decide_eq_false h1]
  by_cases h2:j.Ran+1≥j.C
  ·right
   rw [decide_eq_true h2]
   exact ⟨.inr ⟨rfl,by omega,h2⟩,rfl⟩
  ·left
   rw [decide_eq_false h2]
   exact ⟨rfl,rfl,by omega,by omega⟩
theorem TB_done {now:Int} {u:Fu.Task} (h:TB now u) (ho:u.J.On=true) (g:Bool):TB now { u with J:=zeroJ,H:=putRing u.H g }:=by
 obtain ⟨h1,h2,h3,h4,h5,h6,h7,h8,h9⟩:=h
 obtain ⟨q1,q2,q3⟩:=h8 ho
 obtain ⟨j1,_⟩:=jobOK_on h7 ho
 refine ⟨h1,h2,put_ok h3 g,h4,h5,h6,⟨h7.1,.inl ⟨rfl,rfl⟩⟩,fun h=>(by cases h),?_⟩
 show (putRing u.H g).N=min u.N 60
 rw [put_eq h3]
 rw [ho] at h9
 simp only [cond_true] at h9
 show min (u.H.N+1) 60=min u.N 60
 omega
theorem run_TB {now:Int} {u:Fu.Task} (h:TB now u):TB now (runK u):=by
 unfold runK
 cases ho:u.J.On with
 | false=>exact h
 | true =>
  simp only [cond_true]
  rcases step_cases ho with ⟨e1,e2,e3,e4⟩ | ⟨e1,e2⟩
  ·rw [e1,e2]
   obtain ⟨h1,h2,h3,h4,h5,h6,h7,h8,h9⟩:=h
   obtain ⟨j1,j2,j3,j4,j5,j6⟩:=jobOK_on h7 ho
   refine ⟨h1,h2,h3,h4,h5,h6,⟨h7.1,.inr ⟨ho,j1,j2,j3,j4,?_,j6⟩⟩,fun _=>h8 ho,?_⟩
   ·show 0≤u.J.Ran+1∧u.J.Ran+1 < u.J.C∧u.J.Ran+1 < u.J.D
    omega
   ·show u.H.N=min (bif (ran1 u.J).On then u.N-1 else u.N) 60
    rw [show (ran1 u.J).On=u.J.On from rfl]
    exact h9
  ·have hne:(stepF u.J == 0)=false:=by rcases e1 with ⟨e,_⟩ | ⟨e,_⟩ <;> rw [e] <;> rfl
   rw [hne,e2]
   exact TB_done h ho _
theorem end_tk {now:Int} {u:Fu.Task} (h:TB now u) (h0:0≤now) (h1:now≤274877906944):tkOK (now+1) (endK u (now+1))=true:=by
 have key:∀ v:Fu.Task,TB now v→(v.J.On=true→now+1 < v.J.Due)→tkOK (now+1) v=true:=by
  intro v hv hd
  obtain ⟨k1,k2,k3,k4,k5,k6,k7,k8,k9⟩:=hv
  refine tkOK_iff.2 ⟨mayK_iff.2 ⟨k1,k2,k3,⟨by omega,k4,?_,k6,?_,?_⟩,decide_eq_true k7,?_⟩,hd⟩
  ·show now+1≤v.At∧v.At≤now+1+48
   omega
  ·show JobOK v.S (lookJ v)
   unfold lookJ
   cases ho:v.J.On with
   | false=>exact k7
   | true =>
    obtain ⟨j1,j2,j3,j4,j5,j6⟩:=jobOK_on k7 ho
    have:=k7.1.1
    exact ⟨k7.1,.inr ⟨ho,j1,j2,j3,by show 1≤v.S.C∧v.S.C≤20; omega,by show 0≤v.J.Ran∧v.J.Ran < v.J.C∧v.J.Ran < v.S.C; omega,j6⟩⟩
  ·show (lookJ v).On=false∨((lookJ v).Rel < now+1∧(lookJ v).Due=v.At∧v.N=(lookJ v).J+1)
   unfold lookJ
   cases ho:v.J.On with
   | false=>exact .inl ho
   | true =>
    obtain ⟨q1,q2,q3⟩:=k8 ho
    exact .inr ⟨q1,q2,q3⟩
  ·rw [overK_eq k6,minI_eq]
   exact k9
 unfold endK
 cases hov:overJ u.J (now+1) with
 | true =>
  have ho:u.J.On=true:=by unfold overJ at hov; simp at hov; exact hov.1
  exact key _ (TB_done h ho false) fun h=>(by cases h)
 | false =>
  refine key u h fun ho=>?_
  unfold overJ at hov
  rw [ho] at hov
  simp at hov
  exact hov
end Go.Fx
namespace Go.Fx
open Go
def lowN (b:Int) (w:Fu.World):Prop:=w.Now≤137438953472+b∧∀ t ∈ w.T,t.N≤274877906944+b
theorem begTs_TB {now : Int} (h0 : 0 ≤ now) (h1 : now ≤ 274877906944) : ∀ (l : List Fu.Task) (d : List Int), (∀ t ∈ l, tkOK now t = true ∧ t.N < 549755813888) → (∀ u ∈ (begTs now d l).1, TB now u) ∧ (begTs now d l).1.map liveK = beginAll (l.map liveK) now ∧
    (∀ b,(∀ t ∈ l,t.N≤b)→∀ u ∈ (begTs now d l).1,u.N≤b+1)
  | [],d,_=>⟨fun u hu=>by simp [begTs] at hu,rfl,fun b _ u hu=>by simp [begTs] at hu⟩
  | y :: l,d,h=>by
    obtain ⟨hy,hN⟩:=h y (by simp)
    have hl:∀ t ∈ l,tkOK now t=true∧t.N < 549755813888:=fun t ht=>h t (List.mem_cons_of_mem _ ht)
    have hn:=lastD_range hy d
    have hlive:=beg_live hy h0 h1 hn
    obtain ⟨b1,b2⟩:=beg_iff hy h0 h1 hn
    unfold begTs
    cases hb:begOK y now (lastD y d) with
    | true =>
      obtain ⟨i1,i2,i3⟩:=begTs_TB h0 h1 l d.tail hl
      have ha:y.At=now:=by rw [hb] at b1; exact of_decide_eq_true b1.symm
      rw [hb] at hlive
      simp only [cond_true] at hlive ⊢
      refine ⟨fun u hu=>?_,?_,fun b hB u hu=>?_⟩
      · rcases List.mem_cons.1 hu with rfl | hu
        · exact beg_TB hy h0 h1 ha hN hn
        · exact i1 u hu
      · rw [List.map_cons,i2,hlive]; rfl
      · rcases List.mem_cons.1 hu with rfl | hu
        · have:=hB y (by simp)
          show IntKind.i64.wrap (y.N+1)≤b+1
          rw [(b2 ha).2.2.1]; omega
        · exact i3 b (fun t ht=>hB t (List.mem_cons_of_mem _ ht)) u hu
    | false =>
      obtain ⟨i1,i2,i3⟩:=begTs_TB h0 h1 l d hl
      have ha:y.At≠now:=by rw [hb] at b1; exact of_decide_eq_false b1.symm
      rw [hb] at hlive
      simp only [cond_false] at hlive ⊢
      refine ⟨fun u hu=>?_,?_,fun b hB u hu=>?_⟩
      · rcases List.mem_cons.1 hu with rfl | hu
        · exact tkOK_TB hy ha
        · exact i1 u hu
      · rw [List.map_cons,i2,hlive]; rfl
      · rcases List.mem_cons.1 hu with rfl | hu
        · have:=hB u (by simp); omega
        · exact i3 b (fun t ht=>hB t (List.mem_cons_of_mem _ ht)) u hu
theorem begTs_fix (now:Int):∀ (l:List Fu.Task) (d:List Int),(begTs now d l).1.map fixK=l.map fixK
 | [],_=>rfl
 | y :: l,d=>by
  unfold begTs
  cases begOK y now (lastD y d) with
  | true=>simp only [cond_true,List.map_cons,begTs_fix now l]; rfl
  | false=>simp only [cond_false,List.map_cons,begTs_fix now l]
def Lo (x' x:Fu.Live):Prop:=statOf x'=statOf x∧(x'.J=x.J∨x'.J=zeroJ∨(x'.J.Mand=false∧x.J.Mand=false))
theorem Lo.refl (x:Fu.Live):Lo x x:=⟨rfl,.inl rfl⟩
theorem leftM_zero:leftM zeroJ=0:=rfl
theorem leftM_opt {j:Fu.Job} (h:j.Mand=false):leftM j=0:=by unfold leftM; rw [h]; simp
theorem Lo.wk {x' x:Fu.Live} (h:Lo x' x) (hj:JP x.J) (D:Int):wk D x'≤wk D x:=by
 have h0:=wk_nonneg hj D
 rcases h.2 with e | e | ⟨e,e2⟩
 ·unfold Go.Fx.wk; rw [e]; exact Int.le_refl _
 ·have:Go.Fx.wk D x'=0:=by unfold Go.Fx.wk; rw [e,leftM_zero]; cases decide (zeroJ.Due≤D) <;> rfl
  omega
 ·have:Go.Fx.wk D x'=0:=by unfold Go.Fx.wk; rw [leftM_opt e]; cases decide (x'.J.Due≤D) <;> rfl
  omega
theorem Lo.ends {x' x:Fu.Live} (h:Lo x' x) (n:Int):Lo (endL n x') (endL n x):=by
 refine ⟨h.1,?_⟩
 show atJ x'.J n=atJ x.J n∨atJ x'.J n=zeroJ∨((atJ x'.J n).Mand=false∧(atJ x.J n).Mand=false)
 have hm:∀ j:Fu.Job,j.Mand=false→(atJ j n).Mand=false:=fun j hj=>by
  unfold atJ
  cases overJ j n with
  | true=>rfl
  | false=>exact hj
 rcases h.2 with e | e | ⟨e,e2⟩
 ·exact .inl (by rw [e])
 ·right; left
  rw [e]; rfl
 ·exact .inr (.inr ⟨hm _ e,hm _ e2⟩)
inductive LoL:List Fu.Live→List Fu.Live→Prop
 | nil:LoL [] []
 | cons {x' x l' l} (h:Lo x' x) (t:LoL l' l):LoL (x' :: l') (x :: l)
theorem LoL.refl:∀ l:List Fu.Live,LoL l l
 | []=>.nil
 | x :: l=>.cons (.refl x) (LoL.refl l)
theorem LoL.ends {l' l:List Fu.Live} (h:LoL l' l) (n:Int):LoL (l'.map (endL n)) (l.map (endL n)):=by
 induction h with
 | nil=>exact .nil
 | cons h _ ih=>exact .cons (h.ends n) ih
theorem LoL.stat {l' l:List Fu.Live} (h:LoL l' l):l'.map statOf=l.map statOf:=by
 induction h with
 | nil=>rfl
 | cons h _ ih=>rw [List.map_cons,List.map_cons,h.1,ih]
theorem LoL.W {l' l:List Fu.Live} (h:LoL l' l) (hj:∀ x ∈ l,JP x.J) (D:Int):Go.Fx.W l' D≤Go.Fx.W l D:=by
 induction h with
 | nil=>exact Int.le_refl _
 | cons h _ ih =>
  have h1:=ih fun y hy=>hj y (List.mem_cons_of_mem _ hy)
  have h2:=h.wk (hj _ (by simp)) D
  simp only [Go.Fx.W,List.map_cons,List.sum_cons] at *
  omega
theorem LoL.AW {l' l:List Fu.Live} (h:LoL l' l) (hj:∀ x ∈ l,JP x.J) (t D:Int):Go.Fx.AW l' t D≤Go.Fx.AW l t D:=by
 induction h with
 | nil=>exact Int.le_refl _
 | @cons x' x l' l h _ ih =>
  have h1:=ih fun y hy=>hj y (List.mem_cons_of_mem _ hy)
  have h2:=h.wk (hj _ (by simp)) D
  have ea:x'.At=x.At:=congrArg (fun s:Stat=>s.2.2.1) h.1
  have h3:oldW D t x'≤oldW D t x:=by
   unfold oldW
   rw [ea]
   cases decide (x.At≤t) with
   | true=>exact Int.le_refl _
   | false=>exact h2
  simp only [Go.Fx.AW,List.map_cons,List.sum_cons] at *
  omega
theorem LoL.upd:∀ {l:List Fu.Live} {n:Nat} {x' x:Fu.Live},Lo x' x→LoL (l.set n x') (l.set n x)
 | [],_,_,_,_=>.nil
 | y :: l,0,_,_,h=>.cons h (.refl l)
 | y :: l,n+1,_,_,h=>.cons (.refl y) (LoL.upd h)
theorem LoL.updR {x' x:Fu.Live} (h2:Lo x' x):∀ {l:List Fu.Live} {n:Nat},l[n]?=some x→LoL (l.set n x') l
 | [],_,h=>by simp at h
 | y :: l,0,h=>by
  have e:y=x:=by simpa using h
  exact .cons (e ▸ h2) (.refl l)
 | y :: l,n+1,h=>.cons (.refl y) (LoL.updR h2 (by simpa using h))
theorem run_live {u:Fu.Task} (ho:u.J.On=true) (hC:u.J.C=u.S.C):Lo (liveK (runK u)) { (liveK u) with J:=stepJ (liveK u).J }∧(u.J.Mand=false→Lo (liveK (runK u)) (liveK u)):=by
 have hj:(liveK u).J={ u.J with D:=u.S.C }:=by
  show lookJ u=_
  unfold lookJ; rw [ho]; rfl
 have hs:statOf (liveK (runK u))=statOf (liveK u):=by
  unfold runK
  rw [ho]
  simp only [cond_true]
  cases (stepF u.J == 0) <;> rfl
 have hr:(runK u).J=stepJ u.J∧(runK u).S=u.S:=by
  unfold runK
  rw [ho]
  simp only [cond_true]
  cases (stepF u.J == 0) <;> exact ⟨rfl,rfl⟩
 have hm:u.J.Mand=false→Lo (liveK (runK u)) (liveK u):=fun hm=>by
  refine ⟨hs,.inr (.inr ⟨?_,?_⟩)⟩
  ·show (lookJ (runK u)).Mand=false
   unfold lookJ
   rw [hr.1]
   rcases step_cases ho with ⟨_,e,_⟩ | ⟨_,e⟩
   ·rw [e]
    show (bif (ran1 u.J).On then { (ran1 u.J) with D:=(runK u).S.C } else ran1 u.J).Mand=false
    cases (ran1 u.J).On <;> exact hm
   ·rw [e]; rfl
  ·rw [hj]; exact hm
 refine ⟨?_,hm⟩
 refine ⟨hs,?_⟩
 show lookJ (runK u)=stepJ (liveK u).J∨lookJ (runK u)=zeroJ∨_
 rcases step_cases ho with ⟨_,e,e3,e4⟩ | ⟨_,e⟩
 ·left
  unfold lookJ
  rw [hr.1,hr.2,e,hj]
  rw [show (ran1 u.J).On=u.J.On from rfl,ho]
  simp only [cond_true]
  unfold stepJ
  simp only [ho,cond_true]
  rw [decide_eq_false (show ¬ (u.J.Ran+1≥u.S.C) by omega),decide_eq_false (show ¬ (u.J.Ran+1≥u.J.C) by omega)]
  simp only [ran1,ho,Bool.or_false,cond_false]
 ·right; left
  unfold lookJ
  rw [hr.1,e]
  rfl
theorem end_live (u:Fu.Task) (n:Int):liveK (endK u n)=endL n (liveK u):=by
 have hj:(lookJ u).On=u.J.On∧(lookJ u).Due=u.J.Due:=by
  unfold lookJ
  cases hb:u.J.On with
  | true=>exact ⟨hb,rfl⟩
  | false=>exact ⟨hb,rfl⟩
 have ho:overJ (lookJ u) n=overJ u.J n:=by unfold overJ; rw [hj.1,hj.2]
 unfold endK endL
 show (liveK (bif overJ u.J n then _ else u))=(⟨u.S,atJ (lookJ u) n,u.Next,u.At,u.N⟩:Fu.Live)
 unfold atJ
 rw [ho]
 cases hov:overJ u.J n with
 | true=>rfl
 | false=>rfl
theorem look_more:∀ (k:Nat) (l:List Fu.Live) (t n:Int),lookR k l t=(n,true)→lookR (k+1) l t=(n,true)
 | 0,_,_,_,h=>by simp [lookR] at h
 | k+1,l,t,n,h=>by
  have e:∀ j,lookR (j+1) l t=bif idleL l then (t,true) else bif missedL l t then (t,false) else lookR j (stepL l t) (t+1):=fun j=>rfl
  rw [e (k+1)]
  rw [e k] at h
  cases hi:idleL l with
  | true=>rw [hi] at h; exact h
  | false =>
   rw [hi] at h
   cases hm:missedL l t with
   | true=>rw [hm] at h; exact h
   | false =>
    rw [hm] at h
    exact look_more k _ _ _ h
theorem room_look:∀ (k:Nat) (b:Int) (l:List Fu.Live) (t:Int),AllI b l t→0≤t→t+k≤1099511627000→b+k≤1099511627776→testV (l.map fixOf)=true→Room l t→(lookR k l t).2=true∨(lookR k l t).1=t+k
 | 0,_,_,_,_,_,_,_,_,_=>.inr (by simp [lookR])
 | k+1,b,l,t,hA,h0,h1,hb,ht,hr=>by
  obtain ⟨r1,r2,r3⟩:=room_step hA h0 (by omega) (by omega) ht hr
  unfold lookR
  rw [r1]
  cases idleL l with
  | true=>exact .inl rfl
  | false =>
   simp only [cond_false]
   rcases room_look k (b+1) _ (t+1) (step_all hA h0 (by omega) (by omega)) (by omega) (by omega) (by omega) (by rw [r3]; exact ht) r2 with h | h
   ·exact .inl h
   ·exact .inr (by rw [h]; omega)
theorem mayL_of {l:List Fu.Live} {now:Int} (h:mayL l now=true):AllI 549755813888 l now∧0≤now∧now≤549755813888:=mayL_all h
theorem units_fits {l:List Fu.Live} (h:testV (l.map fixOf)=true):(l.map fun x=>unitsV x.S x.P).sum≤983040:=by
 have:=fits_sum (testV_iff.1 h).1
 rw [List.map_map] at this
 exact this
theorem W_small {b:Int} {l:List Fu.Live} {t:Int} (h:AllI b l t) (D:Int):W l D≤6*l.length∧(l.map fun x=>x.S.C).sum≤6*l.length:=by
 have key:∀ m:List Fu.Live,(∀ x ∈ m,LiveI b x t)→W m D≤6*m.length∧(m.map fun x=>x.S.C).sum≤6*m.length:=by
  intro m
  induction m with
  | nil=>intro _; exact ⟨Int.le_refl _,Int.le_refl _⟩
  | cons x m ih =>
   intro hm
   obtain ⟨i1,i2⟩:=ih fun y hy=>hm y (List.mem_cons_of_mem _ hy)
   obtain ⟨k1,k2,k3,k4⟩:=hm x (by simp)
   have hp:=perOK_P k1
   have hw:wk D x≤6:=by
    have hz:leftM x.J≤6:=by
     unfold leftM
     cases hc:(x.J.On && x.J.Mand) with
     | false=>simp
     | true =>
      simp only [cond_true]
      rcases k4 with k4 | k4
      ·rw [k4] at hc; cases hc
      ·have:=k4; unfold JobI at *; omega
    unfold wk
    cases decide (x.J.Due≤D) with
    | true=>exact hz
    | false=>show (0:Int)≤6; omega
   simp only [W,List.map_cons,List.sum_cons,List.length_cons] at *
   omega
 exact key l h.2
end Go.Fx
namespace Go.Fx
open Go
theorem noCur_A (x:Fu.World):(noCur x).A=x.A∧(noCur x).T=x.T∧(noCur x).Now=x.Now:=by
 unfold noCur
 cases (atA x.A x.Cur == -1) <;> exact ⟨rfl,rfl,rfl⟩
theorem mid_task {w:Fu.World} {d:List Int} (h:(whoW (startW w d)).1=1∨(whoW (startW w d)).1=3):midW w d=(noCur (ranTask (leftW w d) (whoW (startW w d)).2),stepF (rd .task (leftW w d).T (idxT (leftW w d).T (whoW (startW w d)).2)).J):=by
 have e:((whoW (startW w d)).1 == 1 || (whoW (startW w d)).1 == 3)=true:=by rcases h with h | h <;> rw [h] <;> rfl
 unfold midW ranW ranWho curW
 rw [e]
 rfl
theorem mid_none {w:Fu.World} {d:List Int} (h:(whoW (startW w d)).1=0):midW w d=(noCur (leftW w d),0):=by
 unfold midW ranW ranWho curW
 rw [h]
 rfl
def onceX (w:Fu.World) (d:List Int):Fu.World:={ leftW w d with Cur:=(whoW (startW w d)).2 }
theorem mid_once {w:Fu.World} {d:List Int} (h:(whoW (startW w d)).1=2):midW w d=bif doneB (leftW w d).A (whoW (startW w d)).2 then (noCur { onceX w d with A:=(ranAs (leftW w d).A (whoW (startW w d)).2).eraseIdx (atA (leftW w d).A (whoW (startW w d)).2).toNat },1) else (noCur { onceX w d with A:=ranAs (leftW w d).A (whoW (startW w d)).2 },0):=by
  unfold midW ranW ranWho curW
  rw [h]
  have e : ∀ b : Bool, ((noCur (bif b then (({ onceX w d with A := (ranAs (leftW w d).A (whoW (startW w d)).2).eraseIdx (atA (leftW w d).A (whoW (startW w d)).2).toNat } : Fu.World), (1 : Int)) else ({ onceX w d with A := ranAs (leftW w d).A (whoW (startW w d)).2 }, 0)).1, (bif b then (({ onceX w d with A := (ranAs (leftW w d).A (whoW (startW w d)).2).eraseIdx (atA (leftW w d).A (whoW (startW w d)).2).toNat } : Fu.World), (1 : Int)) else ({ onceX w d with A := ranAs (leftW w d).A (whoW (startW w d)).2 }, 0)).2) : Fu.World × Int) =
      bif b then (noCur { onceX w d with A:=(ranAs (leftW w d).A (whoW (startW w d)).2).eraseIdx (atA (leftW w d).A (whoW (startW w d)).2).toNat },1) else (noCur { onceX w d with A:=ranAs (leftW w d).A (whoW (startW w d)).2 },0):=fun b=>by cases b <;> rfl
  exact e _
theorem who_range {x:Fu.World} (hA:mayA x.A x.Now=true):(whoW x).1=1∨(whoW x).1=2∨(whoW x).1=3∨(whoW x).1=0:=by
 rcases who_spec hA with ⟨t,_,e,_⟩ | ⟨_,⟨a,_,e,_⟩ | ⟨_,_,⟨t,_,e,_⟩ | ⟨e,_⟩⟩⟩ <;> rw [e] <;> simp
theorem who_once {x:Fu.World} (hA:mayA x.A x.Now=true) (h:(whoW x).1=2):∃ a ∈ x.A,(whoW x).2=a.ID∧(pickW x).1=a.ID∧a.ID ∉ (pickW x).2∧lateA x.Now a=false∧∀ t ∈ x.T,mustJ t.J=false:=by
 rcases who_spec hA with ⟨t,_,e,_⟩ | ⟨h0,⟨a,ha,e,k1,k2,k3⟩ | ⟨_,_,⟨t,_,e,_⟩ | ⟨e,_⟩⟩⟩
 ·rw [e] at h; simp at h
 ·exact ⟨a,ha,by rw [e],k1,k2,k3,h0⟩
 ·rw [e] at h; simp at h
 ·rw [e] at h; simp at h
theorem once_there {w:Fu.World} {d:List Int} (hA:mayA w.A w.Now=true) (h:(whoW (startW w d)).1=2):∃ a ∈ (leftW w d).A,a.ID=(whoW (startW w d)).2:=by
 obtain ⟨a,ha,e,_,k2,_⟩:=who_once (x:=startW w d) hA h
 refine ⟨a,List.mem_filter.2 ⟨ha,?_⟩,e.symm⟩
 cases hh:hasI (pickW (startW w d)).2 a.ID with
 | false=>rfl
 | true=>exact absurd (hasI_iff.1 hh) k2
theorem ranAs_ids (A:List Fu.Ape) (id:Int):idsA (ranAs A id)=idsA A:=by
 unfold ranAs idsA upd
 apply List.ext_getElem?
 intro i
 rw [List.getElem?_map,List.getElem?_map,List.getElem?_set]
 by_cases hi:(atA A id).toNat=i
 ·rw [if_pos hi]
  subst hi
  by_cases hl:(atA A id).toNat < A.length
  ·rw [if_pos hl,List.getElem?_eq_getElem hl]
   simp [ranA,rd,hl]
  ·rw [if_neg hl,List.getElem?_eq_none (by omega)]
 ·rw [if_neg hi]
theorem ascA_pair:∀ {l:List Fu.Ape},ascA l=true↔l.Pairwise fun a b=>a.ID≤b.ID
 | []=>by simp [ascA]
 | [a]=>by simp [ascA]
 | a :: b :: l=>by
  have ih:=ascA_pair (l:=b :: l)
  have e:ascA (a :: b :: l)=(decide (a.ID≤b.ID) && ascA (b :: l)):=rfl
  rw [e,Bool.and_eq_true,decide_eq_true_eq,ih]
  constructor
  ·rintro ⟨h1,h2⟩
   refine List.pairwise_cons.2 ⟨fun c hc=>?_,h2⟩
   rcases List.mem_cons.1 hc with rfl | hc
   ·exact h1
   ·have:=(List.pairwise_cons.1 h2).1 c hc; omega
  ·intro h
   obtain ⟨h1,h2⟩:=List.pairwise_cons.1 h
   exact ⟨h1 b (by simp),h2⟩
theorem ascA_ids {l m:List Fu.Ape} (h:idsA l=idsA m) (hm:ascA m=true):ascA l=true:=by
 have e:∀ l:List Fu.Ape,ascA l=true↔(idsA l).Pairwise (·≤·):=fun l=>by
  rw [ascA_pair]
  unfold idsA
  rw [List.pairwise_map]
 rw [e,h]
 exact (e m).1 hm
theorem ascA_sub {l m:List Fu.Ape} (h:List.Sublist l m) (hm:ascA m=true):ascA l=true:=ascA_pair.2 ((ascA_pair.1 hm).sublist h)
theorem mayA_sub {l m:List Fu.Ape} {now now':Int} (h:List.Sublist l m) (hm:mayA m now=true) (hn:0≤now'∧now'≤549755813888):mayA l now'=true:=by
 obtain ⟨h1,h2,h3,_⟩:=mayA_iff.1 hm
 exact mayA_iff.2 ⟨fun a ha=>h1 a (h.subset ha),ids_sub h h2,by have:=h.length_le; omega,hn⟩
theorem tick_apes {w:Fu.World} (hm:mayW w=true) (h1:w.Now < 274877906944) (d:List Int):mayA (tickW w d).A (w.Now+1)=true∧ascA (tickW w d).A=true∧-1≤(tickW w d).Cur∧(tickW w d).Cur≤549755813888:=by
 obtain ⟨⟨h0,_⟩,_,⟨c0,c1⟩,hA,_,_,hasc⟩:=mayW_iff.1 hm
 have hsub:List.Sublist (leftW w d).A w.A:=List.filter_sublist
 have hnow:0≤w.Now+1∧w.Now+1≤549755813888:=by omega
 have eA:(tickW w d).A=(midW w d).1.A:=rfl
 have eC:(tickW w d).Cur=(midW w d).1.Cur:=rfl
 have hcur:∀ x:Fu.World,-1≤x.Cur∧x.Cur≤549755813888→-1≤(noCur x).Cur∧(noCur x).Cur≤549755813888:=by
  intro x hx
  unfold noCur
  cases (atA x.A x.Cur == -1) with
  | true=>exact ⟨Int.le_refl _,by show (-1:Int)≤_; omega⟩
  | false=>exact hx
 rw [eA,eC]
 rcases who_range (x:=startW w d) hA with h | h | h | h
 ·rw [mid_task (.inl h)]
  simp only [(noCur_A _).1]
  exact ⟨mayA_sub hsub hA hnow,ascA_sub hsub hasc,hcur _ ⟨c0,c1⟩⟩
 ·rw [mid_once h]
  obtain ⟨a,ha,e⟩:=once_there hA h
  have hL:=mayA_sub hsub hA hnow
  obtain ⟨l1,l2,l3,_⟩:=mayA_iff.1 hL
  have hida:=apeOK_iff.1 (l1 a ha)
  obtain ⟨hi,hid⟩:=atA_spec ⟨a,ha,e⟩
  have hmem:=rd_memP hi.1 hi.2
  have hx:-1≤(whoW (startW w d)).2∧(whoW (startW w d)).2≤549755813888:=by omega
  have hrd:rd .ape (ranAs (leftW w d).A (whoW (startW w d)).2) (atA (leftW w d).A (whoW (startW w d)).2)=ranA (rd .ape (leftW w d).A (atA (leftW w d).A (whoW (startW w d)).2)):=by
   have hlt:(atA (leftW w d).A (whoW (startW w d)).2).toNat < (leftW w d).A.length:=by omega
   unfold ranAs upd
   simp [rd,hlt]
  have hmm:=apeOK_iff.1 (l1 _ hmem)
  have hw:IntKind.i64.wrap ((rd .ape (leftW w d).A (atA (leftW w d).A (whoW (startW w d)).2)).Ran+1)=(rd .ape (leftW w d).A (atA (leftW w d).A (whoW (startW w d)).2)).Ran+1:=wrap_fits (by omega) (by omega)
  have hasc2:ascA (ranAs (leftW w d).A (whoW (startW w d)).2)=true:=ascA_ids (ranAs_ids _ _) (ascA_sub hsub hasc)
  have hnd2:(idsA (ranAs (leftW w d).A (whoW (startW w d)).2)).Nodup:=by rw [ranAs_ids]; exact l2
  cases hd:doneB (leftW w d).A (whoW (startW w d)).2 with
  | true =>
   simp only [cond_true,(noCur_A _).1]
   have hes:=List.eraseIdx_sublist (ranAs (leftW w d).A (whoW (startW w d)).2) (atA (leftW w d).A (whoW (startW w d)).2).toNat
   refine ⟨mayA_iff.2 ⟨fun b hb=>?_,ids_sub hes hnd2,by have:=hes.length_le; rw [ranAs_len] at this; omega,hnow⟩,ascA_sub hes hasc2,hcur _ hx⟩
   have hb':b ∈ (leftW w d).A:=by
    have e2:(ranAs (leftW w d).A (whoW (startW w d)).2).eraseIdx (atA (leftW w d).A (whoW (startW w d)).2).toNat=(leftW w d).A.eraseIdx (atA (leftW w d).A (whoW (startW w d)).2).toNat:=by
     unfold ranAs upd
     exact List.eraseIdx_set_eq
    rw [e2] at hb
    exact (List.eraseIdx_sublist _ _).subset hb
   exact l1 b hb'
  | false =>
   simp only [cond_false,(noCur_A _).1]
   refine ⟨mayA_iff.2 ⟨fun b hb=>?_,hnd2,by rw [ranAs_len]; exact l3,hnow⟩,hasc2,hcur _ hx⟩
   have hd2:¬ ((ranA (rd .ape (leftW w d).A (atA (leftW w d).A (whoW (startW w d)).2))).Ran≥(ranA (rd .ape (leftW w d).A (atA (leftW w d).A (whoW (startW w d)).2))).C):=by
    unfold doneB at hd
    rw [hrd] at hd
    exact of_decide_eq_false hd
   unfold ranA at hd2
   simp only at hd2
   rw [hw] at hd2
   rcases List.mem_or_eq_of_mem_set hb with hb | hb
   ·exact l1 b hb
   ·rw [hb]
    refine apeOK_iff.2 ⟨hmm.1,hmm.2.1,hmm.2.2.1,hmm.2.2.2.1,?_⟩
    unfold ranA
    simp only
    rw [hw]
    omega
 ·rw [mid_task (.inr h)]
  simp only [(noCur_A _).1]
  exact ⟨mayA_sub hsub hA hnow,ascA_sub hsub hasc,hcur _ ⟨c0,c1⟩⟩
 ·rw [mid_none h]
  simp only [(noCur_A _).1]
  exact ⟨mayA_sub hsub hA hnow,ascA_sub hsub hasc,hcur _ ⟨c0,c1⟩⟩
end Go.Fx
namespace Go.Fx
open Go
theorem fix_live (T:List Fu.Task):(T.map liveK).map fixOf=T.map fixK:=by
 rw [List.map_map]; rfl
theorem runK_same (u:Fu.Task):(runK u).ID=u.ID∧(runK u).N=u.N∧(runK u).S=u.S∧(runK u).Next=u.Next∧(runK u).Kept=u.Kept:=by
 unfold runK
 cases u.J.On with
 | false=>exact ⟨rfl,rfl,rfl,rfl,rfl⟩
 | true =>
  simp only [cond_true]
  cases (stepF u.J == 0) <;> exact ⟨rfl,rfl,rfl,rfl,rfl⟩
theorem endK_same (u:Fu.Task) (n:Int):(endK u n).ID=u.ID∧(endK u n).N=u.N∧(endK u n).S=u.S∧(endK u n).Next=u.Next∧(endK u n).Kept=u.Kept:=by
 unfold endK
 cases overJ u.J n <;> exact ⟨rfl,rfl,rfl,rfl,rfl⟩
theorem upd_map {β:Type} {T:List Fu.Task} {i:Int} (h0:0≤i) (h1:i < T.length) {x:Fu.Task} (f:Fu.Task→β) (h:f x=f (rd .task T i)):(upd .task T i x).map f=T.map f:=by
 unfold upd
 rw [List.map_set,h]
 have hlt:i.toNat < T.length:=by omega
 have e:rd .task T i=T[i.toNat]:=by simp [rd,hlt]
 rw [e]
 apply List.ext_getElem?
 intro j
 rw [List.getElem?_set]
 by_cases hj:i.toNat=j
 ·subst hj
  rw [if_pos rfl,if_pos (by rw [List.length_map]; exact hlt),List.getElem?_map,List.getElem?_eq_getElem hlt]
  rfl
 ·rw [if_neg hj]
theorem mid_T {w : Fu.World} (hm : mayW w = true) (d : List Int) : (midW w d).1.T = (startW w d).T ∨ (((whoW (startW w d)).1 = 1 ∨ (whoW (startW w d)).1 = 3) ∧ ∃ i : Int, (0 ≤ i ∧ i < (startW w d).T.length) ∧ (rd .task (startW w d).T i).ID = (whoW (startW w d)).2 ∧ i = idxT (startW w d).T (whoW (startW w d)).2 ∧
    (midW w d).1.T=upd .task (startW w d).T i (runK (rd .task (startW w d).T i))):=by
  have hA:mayA w.A w.Now=true:=(mayW_iff.1 hm).2.2.2.1
  have key:((whoW (startW w d)).1=1∨(whoW (startW w d)).1=3)→(∃ t ∈ (startW w d).T,t.ID=(whoW (startW w d)).2):=by
    intro hc
    rcases who_spec (x:=startW w d) hA with ⟨t,ht,e,_⟩ | ⟨_,⟨a,_,e,_⟩ | ⟨_,_,⟨t,ht,e,_⟩ | ⟨e,_⟩⟩⟩
    · exact ⟨t,ht,by rw [e]⟩
    · rw [e] at hc; simp at hc
    · exact ⟨t,ht,by rw [e]⟩
    · rw [e] at hc; simp at hc
  rcases who_range (x:=startW w d) hA with h | h | h | h
  · obtain ⟨hi,hid⟩:=idxT_spec (key (.inl h))
    right
    refine ⟨.inl h,_,hi,hid,rfl,?_⟩
    rw [mid_task (.inl h)]
    exact (noCur_A _).2.1
  · left
    rw [mid_once h]
    cases doneB (leftW w d).A (whoW (startW w d)).2 <;> simp only [cond_true,cond_false,(noCur_A _).2.1] <;> rfl
  · obtain ⟨hi,hid⟩:=idxT_spec (key (.inr h))
    right
    refine ⟨.inr h,_,hi,hid,rfl,?_⟩
    rw [mid_task (.inr h)]
    exact (noCur_A _).2.1
  · left
    rw [mid_none h]
    exact (noCur_A _).2.1
theorem mid_now (w:Fu.World) (d:List Int):(midW w d).1.Now=w.Now:=by
  unfold midW ranW ranWho curW
  simp only [(noCur_A _).2.2]
  have e : ∀ x : Fu.World, x.Now = w.Now → ∀ c : Int × Int, (bif c.1 == 1 || c.1 == 3 then (ranTask x c.2, stepF (rd .task x.T (idxT x.T c.2)).J) else
      bif c.1 == 2 then (bif doneB x.A c.2 then ({ x with A:=(ranAs x.A c.2).eraseIdx (atA x.A c.2).toNat },1) else ({ x with A:=ranAs x.A c.2 },0)) else (x,0)).1.Now=w.Now:=by
    intro x hx c
    cases (c.1 == 1 || c.1 == 3) with
    | true=>exact hx
    | false =>
      simp only [cond_false]
      cases (c.1 == 2) with
      | true =>
        simp only [cond_true]
        cases doneB x.A c.2 <;> exact hx
      | false=>exact hx
  refine e _ ?_ _
  cases (!((whoW (startW w d)).1 == 1 || (whoW (startW w d)).1 == 3) && (whoW (startW w d)).1 == 2) <;> rfl
structure Ahead (w:Fu.World):Prop where
 may:mayW w=true
 now:w.Now < 274877906944
 low:∀ t ∈ w.T,t.N < 549755813888
theorem Ahead.of_low {w:Fu.World} {b:Int} (hm:mayW w=true) (hb:b≤1000) (h:lowN b w):Ahead w:=⟨hm,by have:=h.1; omega,fun t ht=>by have:=h.2 t ht; omega⟩
section
variable {w:Fu.World}
theorem Ahead.nowge (h:Ahead w):0≤w.Now:=(mayW_iff.1 h.may).1.1
theorem Ahead.startT (h:Ahead w) (d:List Int):(startW w d).T=(begTs w.Now d w.T).1:=(begin_T h.may d).1
theorem Ahead.tasks (h:Ahead w):∀ t ∈ w.T,tkOK w.Now t=true∧t.N < 549755813888:=fun t ht=>⟨(mayW_iff.1 h.may).2.2.2.2.1 t ht,h.low t ht⟩
theorem Ahead.TBs (h:Ahead w) (d:List Int):(∀ u ∈ (startW w d).T,TB w.Now u)∧(startW w d).T.map liveK=beginAll (w.T.map liveK) w.Now:=by
 rw [h.startT d]
 obtain ⟨h1,h2,_⟩:=begTs_TB h.nowge (by have:=h.now; omega) w.T d h.tasks
 exact ⟨h1,h2⟩
theorem Ahead.midTB (h:Ahead w) (d:List Int):∀ u ∈ (midW w d).1.T,TB w.Now u:=by
 have hB:=(h.TBs d).1
 rcases mid_T h.may d with e | ⟨_,i,hi,_,_,e⟩
 ·rw [e]; exact hB
 ·rw [e]
  intro u hu
  rcases List.mem_or_eq_of_mem_set hu with hu | rfl
  ·exact hB u hu
  ·exact run_TB (hB _ (rdT_mem hi.1 hi.2))
theorem Ahead.later (h:Ahead w) (d:List Int):(laterW (midW w d).1).Now=w.Now+1:=by
 show IntKind.i64.wrap ((midW w d).1.Now+1)=_
 rw [mid_now]
 have:=h.nowge
 have:=h.now
 exact wrap_fits (by omega) (by omega)
theorem Ahead.tickT (h:Ahead w) (d:List Int):(tickW w d).T=(midW w d).1.T.map fun t=>endK t (w.Now+1):=by
 show (midW w d).1.T.map (fun t=>endK t (laterW (midW w d).1).Now)=_
 rw [h.later d]
theorem Ahead.tickNow (h:Ahead w) (d:List Int):(tickW w d).Now=w.Now+1:=h.later d
theorem Ahead.tickMap (h:Ahead w) (d:List Int) {β:Type} (f:Fu.Task→β) (h1:∀ u n,f (endK u n)=f u) (h2:∀ u,f (runK u)=f u):(tickW w d).T.map f=(startW w d).T.map f:=by
 rw [h.tickT d,List.map_map]
 have e:(midW w d).1.T.map (f ∘ fun t=>endK t (w.Now+1))=(midW w d).1.T.map f:=List.map_congr_left fun u _=>h1 u _
 rw [e]
 rcases mid_T h.may d with e | ⟨_,i,hi,_,_,e⟩
 ·rw [e]
 ·rw [e]
  exact upd_map hi.1 hi.2 f (h2 _)
theorem Ahead.tickIDs (h:Ahead w) (d:List Int):(tickW w d).T.map (·.ID)=w.T.map (·.ID):=by
 rw [h.tickMap d (·.ID) (fun u n=>(endK_same u n).1) fun u=>(runK_same u).1,h.startT d,begTs_keys]
theorem Ahead.tickFix (h:Ahead w) (d:List Int):(tickW w d).T.map fixK=w.T.map fixK:=by
 rw [h.tickMap d fixK (fun u n=>by unfold fixK; rw [(endK_same u n).2.2.1,(endK_same u n).2.2.2.1]) fun u=>by unfold fixK; rw [(runK_same u).2.2.1,(runK_same u).2.2.2.1]]
 rw [h.startT d,begTs_fix]
theorem Ahead.tickLen (h:Ahead w) (d:List Int):(tickW w d).T.length=w.T.length:=by
 have:=congrArg List.length (h.tickIDs d)
 simpa using this
theorem Ahead.tickMay (h:Ahead w) (d:List Int):mayW (tickW w d)=true:=by
 obtain ⟨⟨h0,_⟩,h4,_,_,_,hasc,_⟩:=mayW_iff.1 h.may
 obtain ⟨a1,a2,a3,a4⟩:=tick_apes h.may h.now d
 have hn:=h.now
 refine mayW_iff.2 ⟨by rw [h.tickNow]; omega,by rw [h.tickLen]; exact h4,⟨a3,a4⟩,by rw [h.tickNow]; exact a1,?_,ascT_ids (h.tickIDs d) hasc,a2⟩
 rw [h.tickNow,h.tickT]
 intro t ht
 obtain ⟨u,hu,rfl⟩:=List.mem_map.1 ht
 exact end_tk (h.midTB d u hu) h0 (by omega)
theorem Ahead.tickLow (h:Ahead w) (d:List Int) {b:Int} (hl:lowN b w):lowN (b+1) (tickW w d):=by
 refine ⟨by rw [h.tickNow]; have:=hl.1; omega,fun t ht=>?_⟩
 have e:=h.tickMap d (·.N) (fun u n=>(endK_same u n).2.1) fun u=>(runK_same u).2.1
 have hmem:t.N ∈ (startW w d).T.map (·.N):=by rw [← e]; exact List.mem_map.2 ⟨t,ht,rfl⟩
 obtain ⟨u,hu,e2⟩:=List.mem_map.1 hmem
 rw [h.startT d] at hu
 have:=(begTs_TB h.nowge (by have:=h.now; omega) w.T d h.tasks).2.2 _ hl.2 u hu
 have e2:u.N=t.N:=e2
 omega
theorem TB.liveB {now:Int} {u:Fu.Task} (h:TB now u):LiveB 549755813888 (liveK u) now:=by
 obtain ⟨k1,k2,k3,k4,k5,k6,k7,k8,k9⟩:=h
 refine ⟨k4,k5,k6,?_⟩
 show lookJ u=zeroJ∨_
 cases ho:u.J.On with
 | false =>
  left
  unfold lookJ
  rw [ho,jobOK_off k7 ho]
  rfl
 | true =>
  right
  obtain ⟨j1,j2,j3,j4,j5,j6⟩:=jobOK_on k7 ho
  obtain ⟨q1,q2,q3⟩:=k8 ho
  have e:(liveK u).J={ u.J with D:=u.S.C }:=by show lookJ u=_; unfold lookJ; rw [ho]; rfl
  rw [e]
  have:=k7.1.1
  exact ⟨ho,⟨j1.1,q3⟩,⟨j2.1,q1⟩,q2,j3,by show 1≤u.S.C∧u.S.C≤20; omega,by show 0≤u.J.Ran∧u.J.Ran < u.J.C∧u.J.Ran < u.S.C; omega,j6⟩
theorem Ahead.midAll (h:Ahead w) (d:List Int):AllB 549755813888 ((midW w d).1.T.map liveK) w.Now:=by
 refine ⟨?_,fun x hx=>?_⟩
 ·rw [List.length_map]
  have e:(midW w d).1.T.length=(tickW w d).T.length:=by rw [h.tickT d,List.length_map]
  rw [e,h.tickLen]
  exact (mayW_iff.1 h.may).2.1
 ·obtain ⟨u,hu,rfl⟩:=List.mem_map.1 hx
  exact (h.midTB d u hu).liveB
theorem Ahead.midLo (h:Ahead w) (d:List Int):LoL ((midW w d).1.T.map liveK) (runFirst (beginAll (w.T.map liveK) w.Now)):=by
 have hA:mayA w.A w.Now=true:=(mayW_iff.1 h.may).2.2.2.1
 obtain ⟨hB,hL⟩:=h.TBs d
 rw [← hL]
 have hasc:ascT (startW w d).T=true:=ascT_ids (by rw [h.startT d,begTs_keys]) (mayW_asc h.may)
 have hidle:(∀ t ∈ (startW w d).T,mustJ t.J=false)→runFirst ((startW w d).T.map liveK)=(startW w d).T.map liveK:=fun h0=>by
  have:idleL ((startW w d).T.map liveK)=true:=idle_iff.2 fun x hx=>by
   obtain ⟨u,hu,rfl⟩:=List.mem_map.1 hx
   rw [(must_live u).1]
   exact h0 u hu
  unfold runFirst
  unfold idleL at this
  rw [this]
  rfl
 rcases who_spec (x:=startW w d) hA with ⟨t,ht,e,_,_⟩ | ⟨hn,h3⟩
 ·have hmu:mustW (startW w d)=((whoW (startW w d)).2,true):=by
   unfold whoW at e ⊢
   cases hb:(mustW (startW w d)).2 with
   | true=>simp only [cond_true]; rw [← hb]
   | false =>
    rw [hb] at e
    simp only [cond_false] at e
    cases ho:(onceW (startW w d)).2 with
    | true=>rw [ho] at e; simp at e
    | false =>
     rw [ho] at e
     simp only [cond_false] at e
     cases hp:(mayBand (startW w d)).2 with
     | true=>rw [hp] at e; simp at e
     | false=>rw [hp] at e; simp at e
  have hne:(firstL ((startW w d).T.map liveK) == -1)=false:=by
   cases hb:(firstL ((startW w d).T.map liveK) == -1) with
   | false=>rfl
   | true =>
    unfold mustW livesW at hmu
    rw [hb] at hmu
    simp at hmu
  have hj:(rd .task (startW w d).T (firstL ((startW w d).T.map liveK))).ID=(whoW (startW w d)).2:=by
   unfold mustW livesW at hmu
   rw [hne] at hmu
   simp only [cond_false,Prod.mk.injEq] at hmu
   exact hmu.1
  have hr:0≤firstL ((startW w d).T.map liveK)∧firstL ((startW w d).T.map liveK) < (startW w d).T.length:=by
   rcases firstL_range ((startW w d).T.map liveK) with h1 | h1
   ·rw [h1] at hne; simp at hne
   ·rw [List.length_map] at h1; exact h1
  rcases mid_T h.may d with e2 | ⟨_,i,hi,hid,hie,e2⟩
  ·exfalso
   have:(midW w d).1.T=(ranTask (leftW w d) (whoW (startW w d)).2).T:=by
    rw [mid_task (.inl (by rw [e]))]
    exact (noCur_A _).2.1
   -- the task that runs has a job
   have hmt:=firstL_spec ((startW w d).T.map liveK)
   rw [this] at e2
   have hx:(whoW (startW w d)).2=t.ID:=by rw [e]
   obtain ⟨hi,hid⟩:=idxT_spec ⟨t,ht,hx.symm⟩
   have e3:upd .task (startW w d).T (idxT (startW w d).T (whoW (startW w d)).2) (runK (rd .task (startW w d).T (idxT (startW w d).T (whoW (startW w d)).2)))=(startW w d).T:=e2
   have e4:runK (rd .task (startW w d).T (idxT (startW w d).T (whoW (startW w d)).2))=rd .task (startW w d).T (idxT (startW w d).T (whoW (startW w d)).2):=by
    have hlt:(idxT (startW w d).T (whoW (startW w d)).2).toNat < (startW w d).T.length:=by omega
    have:=congrArg (fun l:List Fu.Task=>rd .task l (idxT (startW w d).T (whoW (startW w d)).2)) e3
    have e0:∀ x:Fu.Task,rd .task (upd .task (startW w d).T (idxT (startW w d).T (whoW (startW w d)).2) x) (idxT (startW w d).T (whoW (startW w d)).2)=x:=fun x=>by unfold upd; simp [rd,hlt]
    exact (e0 _).symm.trans this
   have e5:rd .task (startW w d).T (idxT (startW w d).T (whoW (startW w d)).2)=t:=asc_inj hasc (rdT_mem hi.1 hi.2) ht (by rw [hid,hx])
   rw [e5] at e4
   have hmm:mustJ t.J=true:=by
    rcases who_spec (x:=startW w d) hA with ⟨t',ht',e',hm',_⟩ | ⟨hn,_⟩
    ·have:t'=t:=asc_inj hasc ht' ht (by rw [e] at e'; simpa using e'.symm)
     rw [← this]; exact hm'
    ·rcases must_spec (startW w d) with ⟨q,_⟩ | ⟨t',ht',q,q2,_⟩
     ·rw [hmu] at q; cases q
     ·rw [hn t' ht'] at q2; cases q2
   obtain ⟨o1,_⟩:=mustJ_iff.1 hmm
   have e6:(runK t).J=stepJ t.J:=by
    unfold runK
    rw [o1]
    simp only [cond_true]
    cases (stepF t.J == 0) <;> rfl
   rw [e4] at e6
   rcases step_cases o1 with ⟨_,s,_⟩ | ⟨_,s⟩
   ·rw [s] at e6
    have:=congrArg Fu.Job.Ran e6
    have:t.J.Ran=t.J.Ran+1:=this
    omega
   ·rw [s] at e6
    rw [e6] at o1
    cases o1
  ·have ej:i=firstL ((startW w d).T.map liveK):=by
    have hu:rd .task (startW w d).T i=rd .task (startW w d).T (firstL ((startW w d).T.map liveK)):=asc_inj hasc (rdT_mem hi.1 hi.2) (rdT_mem hr.1 hr.2) (by rw [hid,hj])
    have hn:=ascT_nodup _ hasc
    have h1:i.toNat < ((startW w d).T.map (·.ID)).length:=by rw [List.length_map]; omega
    have h2:(firstL ((startW w d).T.map liveK)).toNat < ((startW w d).T.map (·.ID)).length:=by rw [List.length_map]; omega
    have h3:((startW w d).T.map (·.ID))[i.toNat]=((startW w d).T.map (·.ID))[(firstL ((startW w d).T.map liveK)).toNat]:=by
     have h1':i.toNat < (startW w d).T.length:=by omega
     have h2':(firstL ((startW w d).T.map liveK)).toNat < (startW w d).T.length:=by omega
     rw [List.getElem_map,List.getElem_map]
     have e1:rd .task (startW w d).T i=(startW w d).T[i.toNat]:=by simp [rd,h1']
     have e2:rd .task (startW w d).T (firstL ((startW w d).T.map liveK))=(startW w d).T[(firstL ((startW w d).T.map liveK)).toNat]:=by simp [rd,h2']
     rw [← e1,← e2,hu]
    have:=(List.getElem?_inj (j:=(firstL ((startW w d).T.map liveK)).toNat) h1 hn).1 (by rw [List.getElem?_eq_getElem h1,List.getElem?_eq_getElem h2,h3])
    omega
   rw [e2]
   unfold runFirst
   rw [hne]
   simp only [cond_false]
   unfold upd
   rw [List.map_set,← ej]
   have hrl:rd .live ((startW w d).T.map liveK) i=liveK (rd .task (startW w d).T i):=rd_lives hi.1 hi.2
   unfold jobAt
   rw [hrl]
   refine LoL.upd (run_live ?_ ?_).1
   ·have hsp:=firstL_spec ((startW w d).T.map liveK)
    rcases must_spec (startW w d) with ⟨q,_⟩ | ⟨t',ht',q,q2,_⟩
    ·rw [hmu] at q; cases q
    ·have e7:t'.ID=(whoW (startW w d)).2:=by rw [hmu] at q; exact (congrArg Prod.fst q).symm
     have:t'=rd .task (startW w d).T i:=asc_inj hasc ht' (rdT_mem hi.1 hi.2) (by rw [hid,e7])
     rw [← this]
     exact (mustJ_iff.1 q2).1
   ·have hTB:=hB _ (rdT_mem hi.1 hi.2)
    obtain ⟨_,_,_,_,_,_,k7,_⟩:=hTB
    rcases must_spec (startW w d) with ⟨q,_⟩ | ⟨t',ht',q,q2,_⟩
    ·rw [hmu] at q; cases q
    ·have e7:t'.ID=(whoW (startW w d)).2:=by rw [hmu] at q; exact (congrArg Prod.fst q).symm
     have e8:t'=rd .task (startW w d).T i:=asc_inj hasc ht' (rdT_mem hi.1 hi.2) (by rw [hid,e7])
     exact (jobOK_on k7 (by rw [← e8]; exact (mustJ_iff.1 q2).1)).2.2.1
 ·rw [hidle hn]
  rcases mid_T h.may d with e2 | ⟨hc,i,hi,hid,hie,e2⟩
  ·rw [e2]; exact .refl _
  ·rw [e2]
   rcases h3 with ⟨a,_,e,_⟩ | ⟨_,_,⟨t,ht,e,ho⟩ | ⟨e,_⟩⟩
   ·rw [e] at hc; simp at hc
   ·have e5:rd .task (startW w d).T i=t:=asc_inj hasc (rdT_mem hi.1 hi.2) ht (by rw [hid,e])
    have hopt:t.J.On=true∧t.J.Mand=false:=by
     unfold isOpt at ho
     cases h1:t.J.On <;> cases h2:t.J.Mand <;> simp [h1,h2] at ho ⊢
    have hTB:=hB _ ht
    rw [e5]
    unfold upd
    rw [List.map_set]
    refine LoL.updR (x:=liveK t) ((run_live hopt.1 (jobOK_on hTB.2.2.2.2.2.2.1 hopt.1).2.2.1).2 hopt.2) ?_
    have hlt:i.toNat < (startW w d).T.length:=by omega
    have e1:rd .task (startW w d).T i=(startW w d).T[i.toNat]:=by simp [rd,hlt]
    rw [List.getElem?_map,List.getElem?_eq_getElem hlt,← e1,e5]
    rfl
   ·rw [e] at hc; simp at hc
theorem lookR_succ (k:Nat) (l:List Fu.Live) (t:Int):lookR (k+1) l t=bif idleL l then (t,true) else bif missedL l t then (t,false) else lookR k (stepL l t) (t+1):=rfl
theorem lookL_may {l:List Fu.Live} {now:Int} (hm:mayL l now=true):lookL l now=lookR 2000 l now:=by unfold lookL; rw [hm,cond_true]
theorem look_step (k : Nat) (hk : k = 1999) {l l' : List Fu.Live} {now : Int} (hm : mayL l now = true) (hn : now ≤ 274877906944) (hlook : (lookR (k + 1) l now).2 = true) (htest : testV (l.map fixOf) = true) (hA' : AllI 549755813889 l' (now + 1)) (hm' : mayL l' (now + 1) = true) (hlo : LoL l' (stepL l now)) :
    missedL l now=false∧(lookR (k+1) l' (now+1)).2=true:=by
  obtain ⟨hA,h0,h1⟩:=mayL_of hm
  have hB:=begin_all hA h0 (by omega) (by omega)
  have hS:=step_all hA h0 (by omega) (by omega)
  have hstat:=hlo.stat
  have hW:=hlo.W hS.jp
  have hjp':=hA'.jp
  have hid:idleL (stepL l now)=true→idleL l'=true:=fun h5=>(idle_W hjp').2 fun D=>by
    have h6:=(idle_W hS.jp).1 h5 D
    have h7:=hW D
    have h8:=W_nonneg hjp' D
    omega
  have hless:Less l' (stepL l now) (now+1):=⟨by rw [hstat]; exact List.Sublist.refl _,fun D=>hlo.AW hS.jp _ D⟩
  cases hi:idleL l with
  | false =>
    rw [lookR_succ,hi] at hlook
    cases hmis:missedL l now with
    | true=>rw [hmis] at hlook; simp at hlook
    | false =>
      rw [hmis] at hlook
      simp only [cond_false] at hlook
      obtain ⟨r,hr⟩:∃ r,lookR k (stepL l now) (now+1)=r:=⟨_,rfl⟩
      rw [hr] at hlook
      obtain ⟨r1,r2⟩:=r
      have hlook:r2=true:=hlook
      rw [hlook] at hr
      obtain ⟨m,q,_⟩:=less_look k 549755813889 (stepL l now) l' (now+1) r1 hS hA' (by omega) (by omega) (by omega) hless hid hr
      have q2:lookR (k+1) l' (now+1)=(m,true):=look_more k _ _ _ q
      exact ⟨rfl,by rw [q2]⟩
  | true =>
    have hr:=room_idle hA h0 htest hi
    obtain ⟨r1,r2,r3⟩:=room_step hA h0 (by omega) (by omega) htest hr
    refine ⟨r1,?_⟩
    have hfix:l'.map fixOf=l.map fixOf:=by
      rw [← fixes_stat l',hstat,fixes_stat,r3]
    have hroom:Room l' (now+1):=fun D hD0 hD1=>by
      have k1:=r2 D hD0 hD1
      rw [hstat]
      have:=hW D
      omega
    rcases room_look (k+1) 549755813889 l' (now+1) hA' (by omega) (by omega) (by omega) (by rw [hfix]; exact htest) hroom with h | h
    · exact h
    · exfalso
      have hAA:=(mayL_of hm').1
      obtain ⟨_,h7⟩:=soon_look k (k+1) rfl (by omega) hAA (by omega) (by omega) (Int.le_refl _) (units_fits (by rw [hfix]; exact htest))
      obtain ⟨w1,w2⟩:=W_small hAA (now+1+3000)
      have h4:=hAA.1
      rw [h] at h7
      rcases h7 with h7 | h7 <;> omega
theorem look_next {l l' : List Fu.Live} {now : Int} (hm : mayL l now = true) (hn : now ≤ 274877906944) (hlook : (lookL l now).2 = true) (htest : testV (l.map fixOf) = true) (hA' : AllI 549755813889 l' (now + 1)) (hm' : mayL l' (now + 1) = true) (hlo : LoL l' (stepL l now)) :
    missedL l now=false∧(lookL l' (now+1)).2=true:=by
  rw [lookL_may hm] at hlook
  rw [lookL_may hm']
  exact look_step 1999 rfl hm hn hlook htest hA' hm' hlo
theorem safe_tick (h:Ahead w) (hs:safeW w=true) (d:List Int):safeW (tickW w d)=true∧tickM w d=[]:=by
 unfold safeW at hs
 simp only [Bool.and_eq_true] at hs
 obtain ⟨_,h2,h3⟩:=hs
 have hlo:=h.midLo d
 have hall:=h.midAll d
 have hmay:=h.tickMay d
 have hnow:=h.now
 have eL:(tickW w d).T.map liveK=((midW w d).1.T.map liveK).map (endL (w.Now+1)):=by
  rw [h.tickT d,List.map_map,List.map_map]
  exact List.map_congr_left fun u _=>end_live u _
 have hlo2:LoL ((tickW w d).T.map liveK) (stepL (w.T.map liveK) w.Now):=by
  rw [eL]
  exact hlo.ends _
 have hA':AllI 549755813889 ((tickW w d).T.map liveK) (w.Now+1):=by
  rw [eL]
  refine ⟨by rw [List.length_map]; exact hall.1,fun x hx=>?_⟩
  obtain ⟨y,hy,rfl⟩:=List.mem_map.1 hx
  have:=endL_inv (hall.2 y hy)
  exact ⟨this.1,this.2.1,by have:=this.2.2.1; omega,this.2.2.2⟩
 have hm':mayL ((tickW w d).T.map liveK) (w.Now+1)=true:=by
  have:=mayW_live hmay
  rw [h.tickNow d] at this
  exact this
 obtain ⟨k1,k2⟩:=look_next (mayW_live h.may) (by omega) h2 (by rw [fix_live]; exact h3) hA' hm' hlo2
 refine ⟨?_,?_⟩
 ·unfold safeW
  rw [hmay,h.tickNow d,k2,h.tickFix d,h3]
  rfl
 ·-- none is missed
  have hjr:=(runFirst_all (begin_all (mayL_of (mayW_live h.may)).1 h.nowge (by omega) (by omega))).jp
  have hw0:W (runFirst (beginAll (w.T.map liveK) w.Now)) (w.Now+1)=0:=(miss_iff hjr).1 k1
  have hw1:=hlo.W hjr (w.Now+1)
  have hw2:=W_nonneg hall.jp (w.Now+1)
  have hz:((midW w d).1.T.map liveK).any (missL (w.Now+1))=false:=(miss_iff hall.jp).2 (by omega)
  show (((midW w d).1.T).filter (lateM (laterW (midW w d).1).Now)).map (·.ID)=[]
  rw [h.later d]
  have:((midW w d).1.T).filter (lateM (w.Now+1))=[]:=by
   rw [List.filter_eq_nil_iff]
   intro u hu hl
   rw [lateM_eq] at hl
   simp only [Bool.and_eq_true] at hl
   have h9:=List.any_eq_false.1 hz (liveK u) (List.mem_map.2 ⟨u,hu,rfl⟩)
   refine h9 ?_
   have ho:u.J.On=true:=by have:=hl.1; unfold overJ at this; simp at this; exact this.1
   have e:(liveK u).J={ u.J with D:=u.S.C }:=by show lookJ u=_; unfold lookJ; rw [ho]; rfl
   obtain ⟨_,_,_,_,_,_,k7,_⟩:=h.midTB d u hu
   obtain ⟨_,_,_,_,j5,_⟩:=jobOK_on k7 ho
   unfold missL
   rw [e,Bool.and_eq_true]
   refine ⟨hl.1,mustJ_iff.2 ⟨ho,hl.2,?_⟩⟩
   unfold worst
   simp only [ho,cond_true]
   omega
  rw [this]
  rfl
end
end Go.Fx
