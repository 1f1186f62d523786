import Derived.Test.YtdmlnbfejgdhaaaGreatE5
namespace Go.Fx
open Go Go.Proofs
abbrev PS:=List (Fu.Spr × Bool)
def ovX (x:Fu.Spr × Bool):Int:=bif x.2 then x.1.U else leastR x.1
def enX (x:Fu.Spr × Bool):Int:=bif x.2 then x.1.E else 0
def ovP (P:PS):Int:=(P.map ovX).sum
def enP (P:PS):Int:=(P.map enX).sum
def minP (P:PS):Int:=(P.map fun x=>leastR x.1).sum
def okP6 (P:PS):Prop:=∀ x ∈ P,mayR x.1=true∧(x.2=true→0 < x.1.E)
def belP (a e:Int) (x:Fu.Spr × Bool):Bool:=x.2 && decide (a*x.1.E > (x.1.U-x.1.Min)*e)
def cutP (a e:Int) (P:PS):PS:=P.map fun x=>(x.1,x.2 && !belP a e x)
def InvP (n:Int) (P:PS):Prop:=(∀ x ∈ P,x.2=false→x.1.E=0)∨(0 < ovP P-n∧0 < enP P∧∀ x ∈ P,x.2=false→(x.1.U-leastR x.1)*enP P≤(ovP P-n)*x.1.E)
theorem mayR_iff {s:Fu.Spr}:mayR s=true↔1≤s.Min∧s.Min≤s.U∧s.U≤1048576∧0≤s.E∧s.E≤8:=by
 unfold mayR
 simp only [Bool.and_eq_true,decide_eq_true_eq,ge_iff_le]
theorem least_pos {s:Fu.Spr} (h:0 < s.E):leastR s=s.Min:=by
 unfold leastR
 rw [show (s.E == 0)=false from beq_eq_false_iff_ne.2 (by omega)]
 rfl
theorem least_zero {s:Fu.Spr} (h:s.E=0):leastR s=s.U:=by
 unfold leastR
 rw [h]
 rfl
theorem least_range {s:Fu.Spr} (h:mayR s=true):s.Min≤leastR s∧leastR s≤s.U:=by
 obtain ⟨h1,h2,h3,h4,h5⟩:=mayR_iff.1 h
 by_cases he:s.E=0
 ·rw [least_zero he]; omega
 ·rw [least_pos (by omega)]; omega
theorem cut_sum (a e:Int):∀ P:PS,okP6 P→(e*(ovP P-ovP (cutP a e P))≤a*(enP P-enP (cutP a e P))∧((∃ x ∈ P,belP a e x=true)→e*(ovP P-ovP (cutP a e P)) < a*(enP P-enP (cutP a e P))))∧okP6 (cutP a e P)∧minP (cutP a e P)=minP P
 | [],_=>⟨⟨by simp [ovP,enP,cutP],fun ⟨x,hx,_⟩=>by cases hx⟩,fun x hx=>(by cases hx),rfl⟩
 | x :: P,h=>by
  obtain ⟨⟨h1,h2⟩,h3,h4⟩:=cut_sum a e P fun y hy=>h y (by simp [hy])
  obtain ⟨hm,hl⟩:=h x (by simp)
  obtain ⟨m1,m2,m3,m4,m5⟩:=mayR_iff.1 hm
  have key:e*(ovX x-ovX (x.1,x.2 && !belP a e x))≤a*(enX x-enX (x.1,x.2 && !belP a e x))∧(belP a e x=true→e*(ovX x-ovX (x.1,x.2 && !belP a e x)) < a*(enX x-enX (x.1,x.2 && !belP a e x))):=by
   cases hb:belP a e x with
   | false =>
    have e0:(x.1,x.2 && !false)=x:=by simp
    rw [e0,Int.sub_self,Int.sub_self,Int.mul_zero,Int.mul_zero]
    exact ⟨Int.le_refl _,fun h=>by cases h⟩
   | true =>
    unfold belP at hb
    rw [Bool.and_eq_true,decide_eq_true_eq] at hb
    have hE:=hl hb.1
    have e1:ovX x-ovX (x.1,x.2 && !true)=x.1.U-x.1.Min:=by unfold ovX; rw [hb.1]; simp [least_pos hE]
    have e2:enX x-enX (x.1,x.2 && !true)=x.1.E:=by unfold enX; rw [hb.1]; simp
    rw [e1,e2,Int.mul_comm e]
    exact ⟨by omega,fun _=>by omega⟩
  have s1:e*(ovP (x :: P)-ovP (cutP a e (x :: P)))=e*(ovX x-ovX (x.1,x.2 && !belP a e x))+e*(ovP P-ovP (cutP a e P)):=by
   rw [← Int.mul_add]
   congr 1
   simp only [ovP,cutP,List.map_cons,List.sum_cons]
   omega
  have s2:a*(enP (x :: P)-enP (cutP a e (x :: P)))=a*(enX x-enX (x.1,x.2 && !belP a e x))+a*(enP P-enP (cutP a e P)):=by
   rw [← Int.mul_add]
   congr 1
   simp only [enP,cutP,List.map_cons,List.sum_cons]
   omega
  rw [s1,s2]
  refine ⟨⟨by omega,fun ⟨y,hy,hby⟩=>?_⟩,fun y hy=>?_,?_⟩
  ·rcases List.mem_cons.1 hy with rfl | hy
   ·have:=key.2 hby
    omega
   ·have:=h2 ⟨y,hy,hby⟩
    omega
  ·rcases List.mem_cons.1 hy with rfl | hy
   ·refine ⟨hm,fun hy=>hl ?_⟩
    simp only [Bool.and_eq_true] at hy
    exact hy.1
   ·exact h3 y hy
  ·simp only [minP,cutP,List.map_cons,List.sum_cons] at h4 ⊢
   omega
theorem en_nonneg {P:PS} (h:okP6 P):0≤enP P:=by
 unfold enP
 induction P with
 | nil=>simp
 | cons x P ih =>
  have h1:=ih fun y hy=>h y (by simp [hy])
  have h2:=(mayR_iff.1 (h x (by simp)).1).2.2.2.1
  have h3:0≤enX x:=by unfold enX; cases x.2 with
   | true=>exact h2
   | false=>exact Int.le_refl _
  simp only [List.map_cons,List.sum_cons]
  omega
theorem en_zero {P:PS} (h:okP6 P) (he:enP P=0):ovP P=minP P:=by
 unfold enP ovP minP at *
 induction P with
 | nil=>rfl
 | cons x P ih =>
  have h0:okP6 P:=fun y hy=>h y (by simp [hy])
  have h1:=en_nonneg h0
  have h2:0≤enX x:=by
   have:=(mayR_iff.1 (h x (by simp)).1).2.2.2.1
   unfold enX
   cases x.2 with
   | true=>exact this
   | false=>exact Int.le_refl _
  unfold enP at h1
  simp only [List.map_cons,List.sum_cons] at he ⊢
  have h3:=ih h0 (by omega)
  have h4:x.2=false:=by
   cases hx:x.2 with
   | false=>rfl
   | true =>
    have:=(h x (by simp)).2 hx
    have e:enX x=x.1.E:=by unfold enX; rw [hx]; rfl
    omega
  have h5:ovX x=leastR x.1:=by unfold ovX; rw [h4]; rfl
  omega
theorem cut_inv {n:Int} {P:PS} (h:okP6 P) (hr:minP P≤n) (hi:InvP n P) (ho:0 < ovP P-n) (he:0 < enP P) (hb:∃ x ∈ P,belP (ovP P-n) (enP P) x=true):InvP n (cutP (ovP P-n) (enP P) P):=by
 obtain ⟨⟨_,h2⟩,h3,h4⟩:=cut_sum (ovP P-n) (enP P) P h
 have h2:=h2 hb
 have hn:=en_nonneg h3
 generalize hP:cutP (ovP P-n) (enP P) P=P' at *
 have q1:enP P*(ovP P-ovP P')=enP P*(ovP P-n)-enP P*(ovP P'-n):=by rw [← Int.mul_sub]; congr 1; omega
 have q2:(ovP P-n)*(enP P-enP P')=enP P*(ovP P-n)-(ovP P-n)*enP P':=by rw [Int.mul_sub,Int.mul_comm (ovP P-n) (enP P)]
 have q3:(ovP P-n)*enP P' < enP P*(ovP P'-n):=by omega
 have q4:0≤(ovP P-n)*enP P':=Int.mul_nonneg (by omega) hn
 have q5:0 < ovP P'-n:=by
  rcases Int.lt_or_le 0 (ovP P'-n) with hl | hl
  ·exact hl
  ·have:=Int.mul_nonpos_of_nonneg_of_nonpos (show 0≤enP P by omega) hl
   omega
 have q6:0 < enP P':=by
  rcases Int.lt_or_eq_of_le hn with hl | hl
  ·exact hl
  ·have:=en_zero h3 hl.symm
   omega
 have up:∀ (d E:Int),0≤E→d*enP P≤(ovP P-n)*E→d*enP P'≤(ovP P'-n)*E:=fun d E hE hd=>by
  have r1:=Int.mul_le_mul_of_nonneg_right hd hn
  have r2:=Int.mul_le_mul_of_nonneg_right (Int.le_of_lt q3) hE
  have r3:d*enP P'*enP P≤(ovP P'-n)*E*enP P:=by
   have e1:d*enP P*enP P'=d*enP P'*enP P:=by rw [Int.mul_assoc,Int.mul_comm (enP P),← Int.mul_assoc]
   have e2:(ovP P-n)*E*enP P'=(ovP P-n)*enP P'*E:=by rw [Int.mul_assoc,Int.mul_comm E,← Int.mul_assoc]
   have e3:enP P*(ovP P'-n)*E=(ovP P'-n)*E*enP P:=by rw [Int.mul_comm (enP P),Int.mul_assoc,Int.mul_comm (enP P),← Int.mul_assoc]
   omega
  exact Int.le_of_mul_le_mul_right r3 he
 refine .inr ⟨q5,q6,fun y hy hf=>?_⟩
 rw [← hP] at hy
 obtain ⟨x,hx,rfl⟩:=List.mem_map.1 hy
 obtain ⟨hm,hl⟩:=h x hx
 obtain ⟨m1,m2,m3,m4,m5⟩:=mayR_iff.1 hm
 simp only at hf ⊢
 rw [Bool.and_eq_false_iff,Bool.not_eq_false'] at hf
 refine up _ _ m4 ?_
 rcases hf with hf | hf
 ·rcases hi with hi | ⟨_,_,hi⟩
  ·have:=hi x hx hf
   rw [least_zero this,this,Int.sub_self,Int.zero_mul,Int.mul_zero]
   exact Int.le_refl _
  ·exact hi x hx hf
 ·unfold belP at hf
  rw [Bool.and_eq_true,decide_eq_true_eq] at hf
  rw [least_pos (hl hf.1)]
  omega
theorem ceilV_range (x b:Int):0≤ceilV x b∧ceilV x b≤4611686018427387904:=by
 unfold ceilV
 cases h:ratioOK x b with
 | false=>exact ⟨Int.le_refl _,by show (0:Int)≤_; omega⟩
 | true =>
  obtain ⟨⟨h1,h2⟩,h3,h4⟩:=ratioOK_iff.1 h
  exact ⟨cdiv_nonneg (by omega) h1,Int.le_trans (cdiv_le_self (by omega) h1) h2⟩
theorem max_le6 {x y n:Int}:maxI x y≤n↔x≤n∧y≤n:=by
 unfold maxI
 split <;> omega
theorem le_max6 (x y:Int):x≤maxI x y:=by
 unfold maxI
 split <;> omega
theorem has_range {s:Fu.Spr} (h:mayR s=true) (a b:Int):leastR s≤hasR a b s∧hasR a b s≤s.U:=by
 obtain ⟨m1,m2,m3,m4,m5⟩:=mayR_iff.1 h
 have hl:=least_range h
 have hc:=ceilV_range (IntKind.i64.wrap (a*s.E)) b
 refine ⟨le_max6 _ _,max_le6.2 ⟨hl.2,?_⟩⟩
 rw [wrap_fits (by omega) (by omega)]
 omega
def hasSum (f:Int × Int) (P:PS):Int:=(P.map fun x=>hasR f.1 f.2 x.1).sum
theorem ov_small {P:PS} (h:okP6 P):ovP P≤1048576*P.length∧enP P≤8*P.length∧0≤ovP P:=by
 unfold ovP enP
 induction P with
 | nil=>simp
 | cons x P ih =>
  obtain ⟨h1,h2,h4⟩:=ih fun y hy=>h y (by simp [hy])
  obtain ⟨hm,_⟩:=h x (by simp)
  have hl:=least_range hm
  obtain ⟨m1,m2,m3,m4,m5⟩:=mayR_iff.1 hm
  have h3:ovX x≤1048576∧enX x≤8∧0≤ovX x:=by
   unfold ovX enX
   cases x.2 <;> simp only [cond_true,cond_false] <;> omega
  simp only [List.map_cons,List.sum_cons,List.length_cons]
  omega
theorem press_zero {n:Int} {P:PS} (h:okP6 P) (hr:minP P≤n) (hi:InvP n P) (hz:ovP P-n≤0∨enP P=0):hasSum (0,1) P≤n:=by
 have hi2:∀ x ∈ P,x.2=false→x.1.E=0:=by
  rcases hi with hi | ⟨h1,h2,_⟩
  ·exact hi
  ·omega
 have e:hasSum (0,1) P≤ovP P:=by
  unfold hasSum ovP
  clear hr hz hi
  induction P with
  | nil=>simp
  | cons x P ih =>
   have h1:=ih (fun y hy=>h y (by simp [hy])) fun y hy=>hi2 y (by simp [hy])
   obtain ⟨hm,_⟩:=h x (by simp)
   have h2:=(has_range hm 0 1).2
   have h3:hasR 0 1 x.1≤ovX x:=by
    unfold ovX
    cases hx:x.2 with
    | true=>exact h2
    | false =>
     have:=least_zero (hi2 x (by simp) hx)
     show _≤leastR x.1
     omega
   simp only [List.map_cons,List.sum_cons] at h1 ⊢
   omega
 rcases hz with hz | hz
 ·omega
 ·have:=en_zero h hz
  omega
theorem press_pos {n a b c:Int} {P:PS} (h:okP6 P) (hi:InvP n P) (hc:0 < c) (ha:c*a=ovP P-n) (hb:c*b=enP P) (h0:0 < ovP P-n) (h1:0 < enP P) (hl:P.length≤4) (hn:0≤n) (hd:∀ x ∈ P,belP (ovP P-n) (enP P) x=false):hasSum (a,b) P≤n:=by
 have hs:=ov_small h
 have a0:0 < a:=by
  rcases Int.lt_or_le 0 a with h | h
  ·exact h
  ·have:=Int.mul_nonpos_of_nonneg_of_nonpos (show 0≤c by omega) h; omega
 have b0:0 < b:=by
  rcases Int.lt_or_le 0 b with h | h
  ·exact h
  ·have:=Int.mul_nonpos_of_nonneg_of_nonpos (show 0≤c by omega) h; omega
 have a1:a≤4194304:=by
  have:=Int.mul_le_mul_of_nonneg_right (show 1≤c by omega) (show 0≤a by omega)
  omega
 have b1:b≤32:=by
  have:=Int.mul_le_mul_of_nonneg_right (show 1≤c by omega) (show 0≤b by omega)
  omega
 -- each
 have each:∀ x ∈ P,hasR a b x.1≤ovX x-(bif x.2 then cdiv (a*x.1.E) b else 0)∧a*enX x≤(bif x.2 then cdiv (a*x.1.E) b else 0)*b:=by
  intro x hx
  obtain ⟨hm,hE⟩:=h x hx
  obtain ⟨m1,m2,m3,m4,m5⟩:=mayR_iff.1 hm
  have hlr:=least_range hm
  have p0:0≤a*x.1.E:=Int.mul_nonneg (by omega) m4
  have p1:a*x.1.E≤4194304*8:=Int.le_trans (Int.mul_le_mul_of_nonneg_right a1 m4) (Int.mul_le_mul_of_nonneg_left m5 (by omega))
  have ec:ceilV (IntKind.i64.wrap (a*x.1.E)) b=cdiv (a*x.1.E) b:=by
   rw [wrap_fits (by omega) (by omega)]
   exact ceilV_of p0 (by omega) (by omega) (by omega)
  have c0:=cdiv_nonneg b0 p0
  have c1:=cdiv_le_self b0 p0
  have c2:=(cdiv_spec (a:=a*x.1.E) b0).1
  have eh:hasR a b x.1=maxI (leastR x.1) (x.1.U-cdiv (a*x.1.E) b):=by
   unfold hasR
   rw [ec,wrap_fits (n:=x.1.U-cdiv (a*x.1.E) b) (by omega) (by omega)]
  rw [eh]
  cases hx2:x.2 with
  | true =>
   have hnb:=hd x hx
   unfold belP at hnb
   rw [hx2,Bool.true_and,decide_eq_false_iff_not] at hnb
   have k1:c*(a*x.1.E)≤c*((x.1.U-x.1.Min)*b):=by
    rw [← Int.mul_assoc,ha,Int.mul_comm (x.1.U-x.1.Min),← Int.mul_assoc,hb,Int.mul_comm (enP P)]
    omega
   have k2:=Int.le_of_mul_le_mul_left k1 hc
   have k3:=(cdiv_le_iff b0).2 k2
   have k4:=least_pos (hE hx2)
   have e1:ovX x=x.1.U:=by unfold ovX; rw [hx2]; rfl
   have e2:enX x=x.1.E:=by unfold enX; rw [hx2]; rfl
   rw [e1,e2]
   exact ⟨max_le6.2 ⟨by simp only [cond_true]; omega,Int.le_refl _⟩,c2⟩
  | false =>
   have e1:ovX x=leastR x.1:=by unfold ovX; rw [hx2]; rfl
   have e2:enX x=0:=by unfold enX; rw [hx2]; rfl
   rw [e1,e2]
   refine ⟨max_le6.2 ⟨by simp only [cond_false]; omega,?_⟩,by simp⟩
   rcases hi with hi | ⟨_,_,hi⟩
   ·have:=least_zero (hi x hx hx2)
    simp only [cond_false]
    omega
   ·have hv:=hi x hx hx2
    have k1:c*((x.1.U-leastR x.1)*b)≤c*(a*x.1.E):=by
     rw [← Int.mul_assoc c a,ha,Int.mul_comm (x.1.U-leastR x.1),← Int.mul_assoc,hb,Int.mul_comm (enP P)]
     exact hv
    have k2:=Int.le_of_mul_le_mul_left k1 hc
    have k3:(x.1.U-leastR x.1)*b≤cdiv (a*x.1.E) b*b:=by omega
    have k4:=Int.le_of_mul_le_mul_right k3 b0
    simp only [cond_false]
    omega
 -- all together
 have all:∀ Q:PS,(∀ x ∈ Q,x ∈ P)→∃ C,hasSum (a,b) Q≤ovP Q-C∧a*enP Q≤C*b:=by
  intro Q
  induction Q with
  | nil=>intro _; exact ⟨0,by simp [hasSum,ovP],by simp [enP]⟩
  | cons x Q ih =>
   intro hQ
   obtain ⟨C,k1,k2⟩:=ih fun y hy=>hQ y (by simp [hy])
   obtain ⟨k3,k4⟩:=each x (hQ x (by simp))
   refine ⟨C+(bif x.2 then cdiv (a*x.1.E) b else 0),?_,?_⟩
   ·simp only [hasSum,ovP,List.map_cons,List.sum_cons] at k1 ⊢
    omega
   ·simp only [enP,List.map_cons,List.sum_cons] at k2 ⊢
    rw [Int.mul_add,Int.add_mul]
    omega
 obtain ⟨C,k1,k2⟩:=all P fun _ h=>h
 have k3:c*(a*enP P)≤c*(C*b):=Int.mul_le_mul_of_nonneg_left k2 (by omega)
 have k4:(ovP P-n)*enP P≤C*enP P:=by
  rw [← Int.mul_assoc,ha,Int.mul_comm C,← Int.mul_assoc,hb,Int.mul_comm (enP P) C] at k3
  exact k3
 have k5:=Int.le_of_mul_le_mul_right k4 h1
 omega
theorem shr_small (n:Int):shrI .u64 n 32=n / 4294967296:=by
 unfold shrI
 rw [show min (32:Int).toNat (IntKind.bits .u64)=32 by decide,Int.fdiv_eq_ediv_of_nonneg _ (by decide)]
 rfl
theorem and_small {n:Int} (h0:0≤n) (h1:n < 4294967296):andI .u64 n 4294967295=n:=by
 obtain ⟨m,rfl⟩:∃ m:Nat,n=m:=⟨n.toNat,by omega⟩
 have e1:(BitVec.ofInt 64 (m:Int)).toNat=m:=by rw [BitVec.toNat_ofInt]; omega
 have e2:(BitVec.ofInt 64 (4294967295:Int)).toNat=2 ^ 32-1:=by decide
 unfold andI
 show IntKind.u64.wrap (((BitVec.ofInt 64 (m:Int) &&& BitVec.ofInt 64 (4294967295:Int)).toNat:Nat):Int)=_
 rw [BitVec.toNat_and,e1,e2,Nat.and_two_pow_sub_one_eq_mod]
 show ((m % 4294967296:Nat):Int) % 18446744073709551616=_
 omega
theorem wrap_u {n:Int} (h0:0≤n) (h1:n < 18446744073709551616):IntKind.u64.wrap n=n:=Int.emod_eq_of_lt h0 h1
theorem mul_small {a b:Int} (a0:0≤a) (a1:a < 4294967296) (b0:0≤b) (b1:b < 4294967296):mulHi a b=0∧mulLo a b=a*b:=by
 have p0:0≤a*b:=Int.mul_nonneg a0 b0
 have p1:a*b≤4294967295*4294967295:=Int.le_trans (Int.mul_le_mul_of_nonneg_right (show a≤4294967295 by omega) b0) (Int.mul_le_mul_of_nonneg_left (show b≤4294967295 by omega) (by decide))
 have wa:IntKind.u64.wrap a=a:=wrap_u a0 (by omega)
 have wb:IntKind.u64.wrap b=b:=wrap_u b0 (by omega)
 have wp:IntKind.u64.wrap (a*b)=a*b:=wrap_u p0 (by omega)
 have sa:shrI .u64 a 32=0:=by rw [shr_small]; omega
 have sb:shrI .u64 b 32=0:=by rw [shr_small]; omega
 have aa:=and_small a0 a1
 have ab:=and_small b0 b1
 have w0:IntKind.u64.wrap 0=0:=rfl
 have q0:0≤a*b / 4294967296:=by omega
 have q1:a*b / 4294967296 < 4294967296:=by omega
 have wq:IntKind.u64.wrap (a*b / 4294967296)=a*b / 4294967296:=wrap_u q0 (by omega)
 have sq:shrI .u64 (a*b / 4294967296) 32=0:=by rw [shr_small]; omega
 constructor
 ·unfold mulHi
  rw [wa,wb,sa,sb,aa,ab]
  simp only [Int.zero_mul,Int.mul_zero,w0,Int.zero_add,Int.add_zero,wp,shr_small,wq,sq,and_small q0 q1]
 ·unfold mulLo
  rw [wa,wb,wp]
theorem cmp_small (x y:Int):decide ((cmp2 0 x 0 y).1 > 0)=decide (x > y):=by
 unfold cmp2
 rw [beq_self_eq_true,Bool.true_and]
 cases h1:(x == y) with
 | true =>
  have:=eq_of_beq h1
  subst this
  simp
 | false =>
  have:=beq_eq_false_iff_ne.1 h1
  rw [show decide ((0:Int) < 0)=false from rfl]
  cases h2:decide (x < y) with
  | true =>
   have:=of_decide_eq_true h2
   rw [decide_eq_false (show ¬ x > y by omega)]
   rfl
  | false =>
   have:=of_decide_eq_false h2
   have e:decide (x > y)=true:=decide_eq_true (by omega)
   simp only [cond_false]
   rw [e]
   rfl
theorem below_eq {a b:Int} {s:Fu.Spr} (hm:mayR s=true) (a0:0≤a) (a1:a≤4194304) (b0:1≤b) (b1:b≤32):belowR (a,b) s=decide (a*s.E > (s.U-s.Min)*b):=by
 obtain ⟨m1,m2,m3,m4,m5⟩:=mayR_iff.1 hm
 have p0:0≤a*s.E:=Int.mul_nonneg a0 m4
 have p1:a*s.E≤4194304*8:=Int.le_trans (Int.mul_le_mul_of_nonneg_right a1 m4) (Int.mul_le_mul_of_nonneg_left m5 (by omega))
 unfold belowR cmpQ
 simp only
 rw [wrap_fits (n:=a*s.E) (by omega) (by omega),wrap_fits (n:=s.U-s.Min) (by omega) (by omega)]
 have i1:inZ (a*s.E)=true:=by unfold inZ; rw [decide_eq_true (show a*s.E≥0 by omega),decide_eq_true (show a*s.E≤4611686018427387904 by omega)]; rfl
 have i2:inP b=true:=by unfold inP; rw [decide_eq_true (show b≥1 by omega),decide_eq_true (show b≤4611686018427387904 by omega)]; rfl
 have i3:inZ (s.U-s.Min)=true:=by unfold inZ; rw [decide_eq_true (show s.U-s.Min≥0 by omega),decide_eq_true (show s.U-s.Min≤4611686018427387904 by omega)]; rfl
 have i4:inP 1=true:=by decide
 obtain ⟨k1,k2⟩:=mul_small (a:=a*s.E) (b:=1) p0 (by omega) (by omega) (by omega)
 obtain ⟨k3,k4⟩:=mul_small (a:=s.U-s.Min) (b:=b) (by omega) (by omega) (by omega) (by omega)
 rw [i1,i2,i3,i4,k1,k2,k3,k4,Int.mul_one]
 exact cmp_small _ _
theorem comF_dvd:∀ (n:Nat) (a b:Int),0≤a→0≤b→b < n→comF n a b ∣ a∧comF n a b ∣ b
 | 0,a,b,_,h1,h2=>by omega
 | n+1,a,b,h0,h1,h2=>by
  unfold comF
  cases hb:decide (b > 0) with
  | false =>
   have:b=0:=by have:=of_decide_eq_false hb; omega
   subst this
   exact ⟨Int.dvd_refl a,Int.dvd_zero a⟩
  | true =>
   have hb:=of_decide_eq_true hb
   have e:a.tmod b=a % b:=Int.tmod_eq_emod_of_nonneg h0
   have r0:=Int.emod_nonneg a (show b≠0 by omega)
   have r1:=Int.emod_lt_of_pos a hb
   obtain ⟨k1,k2⟩:=comF_dvd n b (a.tmod b) h1 (by omega) (by omega)
   simp only [cond_true]
   refine ⟨?_,k1⟩
   have:=Int.mul_ediv_add_emod a b
   rw [e] at k1 k2 ⊢
   have k3:comF n b (a % b) ∣ b*(a / b)+a % b:=Int.dvd_add (Int.dvd_trans k1 ⟨a / b,rfl⟩) k2
   rwa [this] at k3
theorem comV_dvd {a b:Int} (h0:0 < a) (h1:0 < b):0 < comV a b∧comV a b ∣ a∧comV a b ∣ b:=⟨comF_pos _ _ _ h0,comF_dvd _ a b (by omega) (by omega) (by omega)⟩
theorem mget_in6 {α:Type} {j:Int}:∀ {m:List (Int × α)},(mget m j).isSome=true↔j ∈ mkeys m
 | []=>by simp [mget,mkeys]
 | (k,x) :: m=>by
  unfold mget
  have ih:=mget_in6 (j:=j) (m:=m)
  by_cases h:k=j
  ·subst h; simp [mkeys]
  ·rw [if_neg h,ih]
   have h':¬ j=k:=fun e=>h e.symm
   simp [mkeys,h']
theorem mdel_keys {α:Type} (k:Int):∀ {m:List (Int × α)},(mkeys m).Nodup→(mkeys (mdel m k)).Nodup∧(∀ j,j ∈ mkeys (mdel m k)↔j ∈ mkeys m∧j≠k)∧(k ∈ mkeys m→(mdel m k).length < m.length)
 | [],_=>⟨by simp [mdel,mkeys],fun j=>by simp [mdel,mkeys],fun h=>by simp [mkeys] at h⟩
 | (i,x) :: m,h=>by
  have h1:i ∉ mkeys m:=(List.nodup_cons.1 h).1
  have h2:(mkeys m).Nodup:=(List.nodup_cons.1 h).2
  obtain ⟨k1,k2,k3⟩:=mdel_keys k h2
  unfold mdel
  by_cases hi:i=k
  ·subst hi
   rw [if_pos rfl]
   refine ⟨h2,fun j=>?_,fun _=>by simp⟩
   show j ∈ mkeys m↔j ∈ i :: mkeys m∧j≠i
   rw [List.mem_cons]
   constructor
   ·intro hj
    exact ⟨.inr hj,fun e=>h1 (e ▸ hj)⟩
   ·rintro ⟨hj | hj,hne⟩
    ·exact absurd hj hne
    ·exact hj
  ·rw [if_neg hi]
   refine ⟨?_,fun j=>?_,fun hk=>?_⟩
   ·show (i :: mkeys (mdel m k)).Nodup
    exact List.nodup_cons.2 ⟨fun h=>h1 ((k2 i).1 h).1,k1⟩
   ·show j ∈ i :: mkeys (mdel m k)↔j ∈ i :: mkeys m∧j≠k
    rw [List.mem_cons,List.mem_cons,k2]
    constructor
    ·rintro (rfl | ⟨h,h'⟩)
     ·exact ⟨.inl rfl,hi⟩
     ·exact ⟨.inr h,h'⟩
    ·rintro ⟨h | h,h'⟩
     ·exact .inl h
     ·exact .inr ⟨h,h'⟩
   ·have:k ∈ mkeys m:=by
     have hk:k ∈ i :: mkeys m:=hk
     rcases List.mem_cons.1 hk with h | h
     ·exact absurd h.symm hi
     ·exact h
    have:=k3 this
    simp only [List.length_cons]
    omega
def prX (l:List Fu.Spr) (m:List (Int × Fu.Spr)) (i:Int):Fu.Spr × Bool:=(rd .spr l i,(mget m i).isSome)
def prs (l:List Fu.Spr) (m:List (Int × Fu.Spr)) (k:Nat) (i:Int):PS:=mapF (prX l m) k i
theorem so_sum {l : List Fu.Spr} {m : List (Int × Fu.Spr)} (hm : ∀ s ∈ l, mayR s = true) : ∀ (k : Nat) (a b i : Int), 0 ≤ i → i + k ≤ l.length → -1099511627776 ≤ a → a + 1048576 * k ≤ 1099511627776 → 0 ≤ b → b + 8 * k ≤ 1099511627776 →
    foldI nxtSo k (l,m,a,b) i=(l,m,a+ovP (prs l m k i),b+enP (prs l m k i))
  | 0,a,b,i,_,_,_,_,_,_=>by simp [foldI,prs,mapF,ovP,enP]
  | k+1,a,b,i,h0,h1,h2,h3,h4,h5=>by
    have hs:=hm _ (rd_mem' (r:=.spr) (xs:=l) h0 (by omega))
    have hlr:=least_range hs
    obtain ⟨m1,m2,m3,m4,m5⟩:=mayR_iff.1 hs
    have o1:0≤ovX (prX l m i)∧ovX (prX l m i)≤1048576∧0≤enX (prX l m i)∧enX (prX l m i)≤8:=by
      unfold ovX enX prX
      simp only
      cases (mget m i).isSome <;> simp only [cond_true,cond_false] <;> omega
    have e:nxtSo (l,m,a,b) i=(l,m,a+ovX (prX l m i),b+enX (prX l m i)):=by
      unfold nxtSo ovX enX prX at *
      simp only at o1 ⊢
      cases hb:(mget m i).isSome with
      | true =>
        simp only [hb,cond_true] at o1 ⊢
        rw [wrap_fits (by omega) (by omega),wrap_fits (by omega) (by omega)]
      | false =>
        simp only [hb,cond_false] at o1 ⊢
        rw [wrap_fits (by omega) (by omega)]
        simp
    unfold foldI
    rw [e,so_sum hm k _ _ (i+1) (by omega) (by omega) (by omega) (by omega) (by omega) (by omega)]
    have s1:ovP (prs l m (k+1) i)=ovX (prX l m i)+ovP (prs l m k (i+1)):=by simp [ovP,prs,mapF]
    have s2:enP (prs l m (k+1) i)=enX (prX l m i)+enP (prs l m k (i+1)):=by simp [enP,prs,mapF]
    rw [s1,s2,Int.add_assoc,Int.add_assoc]
theorem de_fold (c : List Fu.Spr × Int × (Int × Int) × Int) : ∀ (k : Nat) (m : List (Int × Fu.Spr)) (i : Int), (mkeys m).Nodup → (mkeys (foldI nxtDe k (c, m) i).2).Nodup ∧
    (∀ j,j ∈ mkeys (foldI nxtDe k (c,m) i).2↔j ∈ mkeys m∧¬ (i≤j∧j < i+k∧belowR c.2.2.1 (rd .spr c.1 j)=true))∧((foldI nxtDe k (c,m) i).2.length=m.length→∀ j,i≤j→j < i+k→j ∈ mkeys m→belowR c.2.2.1 (rd .spr c.1 j)=false)
  | 0, m, i, h => ⟨h, fun j => by simp only [foldI]; constructor
                                  · intro hj; exact ⟨hj,by omega⟩
                                  · exact fun hj=>hj.1,fun _ j h1 h2=>by omega⟩
  | k+1,m,i,h=>by
    unfold foldI
    have hle:=fun m'=>(foldDe c k m' (i+1)).2
    cases hb:(mget m i).isSome && belowR c.2.2.1 (rd .spr c.1 i) with
    | true =>
      have e:nxtDe (c,m) i=(c,mdel m i):=by
        unfold nxtDe
        simp only
        rw [show ((c.2.2.1.1,c.2.2.1.2):Int × Int)=c.2.2.1 from rfl,hb]
        rfl
      rw [Bool.and_eq_true] at hb
      obtain ⟨d1,d2,d3⟩:=mdel_keys i h
      obtain ⟨k1,k2,k3⟩:=de_fold c k (mdel m i) (i+1) d1
      rw [e]
      refine ⟨k1,fun j=>?_,fun hl=>?_⟩
      · rw [k2,d2]
        constructor
        · rintro ⟨⟨h1,h2⟩,h3⟩
          exact ⟨h1,fun ⟨h4,h5,h6⟩=>h3 ⟨by omega,by omega,h6⟩⟩
        · rintro ⟨h1,h2⟩
          refine ⟨⟨h1,fun e=>h2 ⟨by omega,by omega,e ▸ hb.2⟩⟩,fun ⟨h4,h5,h6⟩=>h2 ⟨by omega,by omega,h6⟩⟩
      · have:=d3 (mget_in6.1 hb.1)
        have:=hle (mdel m i)
        omega
    | false =>
      have e:nxtDe (c,m) i=(c,m):=by
        unfold nxtDe
        simp only
        rw [show ((c.2.2.1.1,c.2.2.1.2):Int × Int)=c.2.2.1 from rfl,hb]
        rfl
      obtain ⟨k1,k2,k3⟩:=de_fold c k m (i+1) h
      have hi:i ∈ mkeys m→belowR c.2.2.1 (rd .spr c.1 i)=false:=fun hk=>by
        rw [mget_in6.2 hk,Bool.true_and] at hb
        exact hb
      rw [e]
      refine ⟨k1,fun j=>?_,fun hl j h1 h2 hj=>?_⟩
      · rw [k2]
        constructor
        · rintro ⟨h1,h3⟩
          refine ⟨h1,fun ⟨h4,h5,h6⟩=>?_⟩
          by_cases hji:j=i
          · subst hji
            rw [hi h1] at h6
            cases h6
          · exact h3 ⟨by omega,by omega,h6⟩
        · rintro ⟨h1,h2⟩
          exact ⟨h1,fun ⟨h4,h5,h6⟩=>h2 ⟨by omega,by omega,h6⟩⟩
      · by_cases hji:j=i
        · subst hji
          exact hi hj
        · exact k3 hl j (by omega) (by omega) hj
theorem mapF_mem {β:Type} {f:Int→β} {x:β}:∀ {k:Nat} {i:Int},x ∈ mapF f k i↔∃ j,(i≤j∧j < i+k)∧x=f j
 | 0,i=>by
  simp only [mapF,List.not_mem_nil,false_iff]
  rintro ⟨j,h,_⟩
  omega
 | k+1,i=>by
  unfold mapF
  rw [List.mem_cons,mapF_mem (k:=k) (i:=i+1)]
  constructor
  ·rintro (h | ⟨j,h1,h2⟩)
   ·exact ⟨i,by omega,h⟩
   ·exact ⟨j,by omega,h2⟩
  ·rintro ⟨j,h1,h2⟩
   by_cases hj:j=i
   ·subst hj; exact .inl h2
   ·exact .inr ⟨j,by omega,h2⟩
theorem mapF_congr {β:Type} {f g:Int→β}:∀ {k:Nat} {i:Int},(∀ j,i≤j→j < i+k→f j=g j)→mapF f k i=mapF g k i
 | 0,_,_=>rfl
 | k+1,i,h=>by
  unfold mapF
  rw [h i (by omega) (by omega),mapF_congr (k:=k) (i:=i+1) fun j h1 h2=>h j (by omega) (by omega)]
theorem mapF_mapE {β γ:Type} {f:Int→β} {g:β→γ}:∀ {k:Nat} {i:Int},(mapF f k i).map g=mapF (fun j=>g (f j)) k i
 | 0,_=>rfl
 | k+1,i=>by
  unfold mapF
  rw [List.map_cons,mapF_mapE]
theorem de_none (c:List Fu.Spr × Int × (Int × Int) × Int):∀ (k:Nat) (m:List (Int × Fu.Spr)) (i:Int),(∀ j,i≤j→j < i+k→j ∈ mkeys m→belowR c.2.2.1 (rd .spr c.1 j)=false)→(foldI nxtDe k (c,m) i).2=m
 | 0,_,_,_=>rfl
 | k+1,m,i,h=>by
  have e:nxtDe (c,m) i=(c,m):=by
   unfold nxtDe
   simp only
   rw [show ((c.2.2.1.1,c.2.2.1.2):Int × Int)=c.2.2.1 from rfl]
   cases hb:(mget m i).isSome with
   | false=>rfl
   | true=>rw [h i (by omega) (by omega) (mget_in6.1 hb)]; rfl
  unfold foldI
  rw [e]
  exact de_none c k m (i+1) fun j h1 h2 h3=>h j (by omega) (by omega) h3
theorem hasSum_cut (f:Int × Int) (a e:Int) (P:PS):hasSum f (cutP a e P)=hasSum f P:=by
 unfold hasSum cutP
 rw [List.map_map]
 rfl
section
variable {l:List Fu.Spr} {n:Int}
theorem prs_mem {m:List (Int × Fu.Spr)} {x:Fu.Spr × Bool} (h:x ∈ prs l m l.length 0):∃ j:Int,(0≤j∧j < l.length)∧x=(rd .spr l j,(mget m j).isSome):=by
 obtain ⟨j,h1,h2⟩:=mapF_mem.1 h
 exact ⟨j,⟨h1.1,by omega⟩,h2⟩
theorem prs_len (m:List (Int × Fu.Spr)):(prs l m l.length 0).length=l.length:=mapF_length _ _ _
theorem ofS_is (hm : ∀ s ∈ l, mayR s = true) (hl : l.length ≤ 4) (hn : 0 ≤ n ∧ n ≤ 1048576) (m : List (Int × Fu.Spr)) (hok : okP6 (prs l m l.length 0)) :
    ((ovP (prs l m l.length 0)-n≤0∨enP (prs l m l.length 0)=0)∧ofS l n m=(0,1)) ∨
    ((0 < ovP (prs l m l.length 0)-n∧0 < enP (prs l m l.length 0))∧∃ a b c,0 < c∧c*a=ovP (prs l m l.length 0)-n∧c*b=enP (prs l m l.length 0)∧ofS l n m=(a,b)∧(0≤a∧a≤4194304)∧1≤b∧b≤32):=by
  have hs:=ov_small hok
  have hen:=en_nonneg hok
  rw [prs_len] at hs
  have e0:oS l n m=(l,m,ovP (prs l m l.length 0)-n,enP (prs l m l.length 0)):=by
    unfold oS
    rw [wrap_fits (n:=0-n) (by omega) (by omega),show ((l.length:Int)-0).toNat=l.length by omega,so_sum hm l.length (0-n) 0 0 (Int.le_refl _) (by omega) (by omega) (by omega) (by omega) (by omega)]
    rw [show 0-n+ovP (prs l m l.length 0)=ovP (prs l m l.length 0)-n by omega,Int.zero_add]
  unfold ofS comO
  rw [e0]
  simp only
  have hA4:ovP (prs l m l.length 0)-n≤4194304:=by omega
  generalize ovP (prs l m l.length 0)-n=A at *
  generalize enP (prs l m l.length 0)=B at *
  by_cases hz:A≤0∨B=0
  · left
    refine ⟨hz,?_⟩
    have:(decide (A≤0) || B == 0)=true:=by
      rw [Bool.or_eq_true,decide_eq_true_eq,beq_iff_eq]
      exact hz
    rw [this]
    rfl
  · right
    have hA:0 < A:=by omega
    have hB:0 < B:=by omega
    have:(decide (A≤0) || B == 0)=false:=by
      rw [Bool.or_eq_false_iff,decide_eq_false_iff_not,beq_eq_false_iff_ne]
      omega
    obtain ⟨c0,⟨a,ha⟩,⟨b,hb⟩⟩:=comV_dvd hA hB
    rw [this]
    generalize comV A B=c at *
    have a0:0 < a:=by
      rcases Int.lt_or_le 0 a with h | h
      · exact h
      · have:=Int.mul_nonpos_of_nonneg_of_nonpos (show 0≤c by omega) h; omega
    have b0:0 < b:=by
      rcases Int.lt_or_le 0 b with h | h
      · exact h
      · have:=Int.mul_nonpos_of_nonneg_of_nonpos (show 0≤c by omega) h; omega
    have a1:=Int.mul_le_mul_of_nonneg_right (show 1≤c by omega) (show 0≤a by omega)
    have b1:=Int.mul_le_mul_of_nonneg_right (show 1≤c by omega) (show 0≤b by omega)
    have ea:A.tdiv c=a:=by rw [ha,Int.mul_comm]; exact Int.mul_tdiv_cancel a (by omega)
    have eb:B.tdiv c=b:=by rw [hb,Int.mul_comm]; exact Int.mul_tdiv_cancel b (by omega)
    refine ⟨⟨hA,hB⟩,a,b,c,c0,ha.symm,hb.symm,?_,⟨by omega,by omega⟩,by omega,by omega⟩
    rw [cond_false,ea,eb,wrap_fits (n:=a) (by omega) (by omega),wrap_fits (n:=b) (by omega) (by omega)]
theorem press_end (hm : ∀ s ∈ l, mayR s = true) (hl : l.length ≤ 4) (hn : 0 ≤ n ∧ n ≤ 1048576) {m : List (Int × Fu.Spr)} (hok : okP6 (prs l m l.length 0)) (hmin : minP (prs l m l.length 0) ≤ n) (hinv : InvP n (prs l m l.length 0))
    (hd:∀ j:Int,0≤j→j < l.length→j ∈ mkeys m→belowR (ofS l n m) (rd .spr l j)=false):hasSum (ofS l n m) (prs l m l.length 0)≤n:=by
  rcases ofS_is hm hl hn m hok with ⟨hz,e⟩ | ⟨⟨h0,h1⟩,a,b,c,c0,ha,hb,e,⟨a0,a1⟩,b0,b1⟩
  · rw [e]
    exact press_zero hok hmin hinv hz
  · rw [e] at hd ⊢
    refine press_pos hok hinv c0 ha hb h0 h1 (by rw [prs_len]; exact hl) hn.1 fun x hx=>?_
    obtain ⟨j,⟨j0,j1⟩,rfl⟩:=prs_mem hx
    unfold belP
    cases hj:(mget m j).isSome with
    | false=>rfl
    | true =>
      have hs:=hm _ (rd_mem' (r:=.spr) j0 j1)
      have:=hd j j0 j1 (mget_in6.1 hj)
      rw [below_eq hs a0 a1 b0 b1,decide_eq_false_iff_not] at this
      simp only [Bool.true_and]
      refine decide_eq_false fun h=>this ?_
      have e1:c*a*(rd .spr l j).E=c*(a*(rd .spr l j).E):=Int.mul_assoc _ _ _
      have e2:((rd .spr l j).U-(rd .spr l j).Min)*(c*b)=c*(((rd .spr l j).U-(rd .spr l j).Min)*b):=by rw [Int.mul_comm c b,← Int.mul_assoc,Int.mul_comm _ c]
      rw [← ha,← hb,e1,e2] at h
      exact Int.lt_of_mul_lt_mul_left h (by omega)
theorem press_find (hm : ∀ s ∈ l, mayR s = true) (hl : l.length ≤ 4) (hn : 0 ≤ n ∧ n ≤ 1048576) : ∀ (k : Nat) (m : List (Int × Fu.Spr)), m.length ≤ k → (mkeys m).Nodup → okP6 (prs l m l.length 0) → minP (prs l m l.length 0) ≤ n → InvP n (prs l m l.length 0) →
    hasSum (findF l n k m) (prs l m l.length 0)≤n:=by
  intro k
  induction k with
  | zero =>
    intro m hk hnd hok hmin hinv
    have hm0:m=[]:=List.length_eq_zero_iff.1 (by omega)
    exact press_end hm hl hn hok hmin hinv fun j _ _ hj=>by rw [hm0] at hj; simp [mkeys] at hj
  | succ k ih =>
    intro m hk hnd hok hmin hinv
    have ek:((l.length:Int)-0).toNat=l.length:=by omega
    obtain ⟨d1,d2,d3⟩:=de_fold (l,n,ofS l n m,(m.length:Int)) l.length m 0 hnd
    have ed:delS l n m=(foldI nxtDe l.length ((l,n,ofS l n m,(m.length:Int)),m) 0).2:=by unfold delS dS; rw [ek]
    rw [← ed] at d1 d2 d3
    have hle:=delS_len l n m
    unfold findF
    cases hb:decide ((delS l n m).length=m.length) with
    | true =>
      have hb:=of_decide_eq_true hb
      rw [cond_true]
      exact press_end hm hl hn hok hmin hinv fun j j0 j1 hj=>d3 hb j j0 (by omega) hj
    | false =>
      have hb:=of_decide_eq_false hb
      rw [cond_false]
      have hex:∃ j:Int,(0≤j∧j < l.length)∧j ∈ mkeys m∧belowR (ofS l n m) (rd .spr l j)=true:=by
        apply Classical.byContradiction
        intro hno
        refine hb ?_
        rw [ed,de_none _ _ _ _ fun j j0 j1 hj=>?_]
        cases hx:belowR (ofS l n m) (rd .spr l j) with
        | false=>rfl
        | true=>exact absurd ⟨j,⟨j0,by omega⟩,hj,hx⟩ hno
      obtain ⟨j,⟨j0,j1⟩,hj,hbj⟩:=hex
      rcases ofS_is hm hl hn m hok with ⟨hz,e⟩ | ⟨⟨h0,h1⟩,a,b,c,c0,ha,hb',e,⟨a0,a1⟩,b0,b1⟩
      · exfalso
        have hs:=hm _ (rd_mem' (r:=.spr) j0 j1)
        obtain ⟨m1,m2,m3,m4,m5⟩:=mayR_iff.1 hs
        rw [e,below_eq hs (by omega) (by omega) (by omega) (by omega),decide_eq_true_eq,Int.zero_mul,Int.mul_one] at hbj
        omega
      · have same:∀ s:Fu.Spr,mayR s=true→belowR (ofS l n m) s=decide ((ovP (prs l m l.length 0)-n)*s.E > (s.U-s.Min)*enP (prs l m l.length 0)):=fun s hs=>by
          rw [e,below_eq hs a0 a1 b0 b1,← ha,← hb']
          congr 1
          apply propext
          have e1:c*a*s.E=c*(a*s.E):=Int.mul_assoc _ _ _
          have e2:(s.U-s.Min)*(c*b)=c*((s.U-s.Min)*b):=by rw [Int.mul_comm c b,← Int.mul_assoc,Int.mul_comm _ c]
          rw [e1,e2]
          constructor
          · intro h; exact Int.mul_lt_mul_of_pos_left h c0
          · intro h; exact Int.lt_of_mul_lt_mul_left h (by omega)
        have hcut:prs l (delS l n m) l.length 0=cutP (ovP (prs l m l.length 0)-n) (enP (prs l m l.length 0)) (prs l m l.length 0):=by
          have e3:cutP (ovP (prs l m l.length 0)-n) (enP (prs l m l.length 0)) (prs l m l.length 0)=mapF (fun j=>((prX l m j).1,(prX l m j).2 && !belP (ovP (prs l m l.length 0)-n) (enP (prs l m l.length 0)) (prX l m j))) l.length 0:=mapF_mapE
          rw [e3]
          refine mapF_congr fun i i0 i1=>?_
          have hs:=hm _ (rd_mem' (r:=.spr) (xs:=l) (i:=i) i0 (by omega))
          unfold prX belP
          simp only
          congr 1
          rw [← same _ hs]
          rw [Bool.eq_iff_iff,mget_in6,d2]
          simp only [Bool.and_eq_true,Bool.not_eq_true',Bool.and_eq_false_iff,mget_in6]
          constructor
          · rintro ⟨q1,q2⟩
            refine ⟨q1,.inr ?_⟩
            cases hx:belowR (ofS l n m) (rd .spr l i) with
            | false=>rfl
            | true=>exact absurd ⟨i0,i1,hx⟩ q2
          · rintro ⟨q1,q2⟩
            refine ⟨q1,fun ⟨_,_,q3⟩=>?_⟩
            rcases q2 with q2 | q2
            · rw [mget_in6.2 q1] at q2; cases q2
            · have q3:belowR (ofS l n m) (rd .spr l i)=true:=q3
              rw [q2] at q3; cases q3
        obtain ⟨_,c3,c4⟩:=cut_sum (ovP (prs l m l.length 0)-n) (enP (prs l m l.length 0)) _ hok
        have hinv':=cut_inv hok hmin hinv h0 h1 ⟨prX l m j,mapF_mem.2 ⟨j,⟨j0,by omega⟩,rfl⟩,by
          have hs:=hm _ (rd_mem' (r:=.spr) j0 j1)
          unfold belP prX
          rw [same _ hs] at hbj
          simp only
          rw [mget_in6.2 hj,Bool.true_and]
          exact hbj⟩
        rw [← hcut] at c3 c4 hinv'
        have:=ih (delS l n m) (by omega) d1 c3 (by omega) hinv'
        rw [hcut,hasSum_cut] at this
        exact this
end
theorem fl_fold (l : List Fu.Spr) (n : Int) : ∀ (k : Nat) (m : List (Int × Fu.Spr)) (i : Int), (mkeys m).Nodup → (mkeys (foldI nxtFl k (l, n, m) i).2.2).Nodup ∧
    (∀ j,j ∈ mkeys (foldI nxtFl k (l,n,m) i).2.2↔j ∈ mkeys m∨(i≤j∧j < i+k∧(rd .spr l j).E > 0))
  | 0,m,i,h=>⟨h,fun j=>⟨fun h=>.inl h,fun h=>h.elim id fun ⟨h1,h2,_⟩=>by omega⟩⟩
  | k+1,m,i,h=>by
    unfold foldI
    cases hb:decide ((rd .spr l i).E > 0) with
    | true =>
      have e:nxtFl (l,n,m) i=(l,n,mput m i (rd .spr l i)):=by unfold nxtFl; simp only [hb]; rfl
      have hk:=mput_keys i (rd .spr l i) m
      have hnd:(mkeys (mput m i (rd .spr l i))).Nodup:=by
        rw [hk]
        split
        · exact h
        · rename_i hi
          rw [List.nodup_append]
          exact ⟨h,by simp,fun x hx y hy=>by
            have:y=i:=by simpa using hy
            rintro rfl
            exact hi (this ▸ hx)⟩
      obtain ⟨k1,k2⟩:=fl_fold l n k (mput m i (rd .spr l i)) (i+1) hnd
      have hb:=of_decide_eq_true hb
      rw [e]
      refine ⟨k1,fun j=>?_⟩
      have hin:j ∈ mkeys (mput m i (rd .spr l i))↔j ∈ mkeys m∨j=i:=by
        rw [hk]
        split
        · rename_i hi
          exact ⟨.inl,fun h=>h.elim id fun e=>e ▸ hi⟩
        · rw [List.mem_append]
          simp
      rw [k2,hin]
      constructor
      · rintro ((h1 | h1) | ⟨h1,h2,h3⟩)
        · exact .inl h1
        · subst h1; exact .inr ⟨by omega,by omega,hb⟩
        · exact .inr ⟨by omega,by omega,h3⟩
      · rintro (h1 | ⟨h1,h2,h3⟩)
        · exact .inl (.inl h1)
        · by_cases hj:j=i
          · exact .inl (.inr hj)
          · exact .inr ⟨by omega,by omega,h3⟩
    | false =>
      have e:nxtFl (l,n,m) i=(l,n,m):=by unfold nxtFl; simp only [hb]; rfl
      obtain ⟨k1,k2⟩:=fl_fold l n k m (i+1) h
      have hb:=of_decide_eq_false hb
      rw [e]
      refine ⟨k1,fun j=>?_⟩
      rw [k2]
      constructor
      · rintro (h1 | ⟨h1,h2,h3⟩)
        · exact .inl h1
        · exact .inr ⟨by omega,by omega,h3⟩
      · rintro (h1 | ⟨h1,h2,h3⟩)
        · exact .inl h1
        · by_cases hj:j=i
          · subst hj; exact absurd h3 hb
          · exact .inr ⟨by omega,by omega,h3⟩
theorem prs_map {β:Type} (g:Fu.Spr→β) (l:List Fu.Spr) (m:List (Int × Fu.Spr)):(prs l m l.length 0).map (fun x=>g x.1)=l.map g:=by
 have e:(prs l m l.length 0).map (fun x=>g x.1)=mapF (fun j=>g (rd .spr l j)) l.length 0:=mapF_mapE
 rw [e,mapF_map (r:=.spr) g l l.length 0 (Int.le_refl _) (by omega)]
 simp
theorem press_law {l : List Fu.Spr} {n : Int} (hm : ∀ s ∈ l, mayR s = true) (hl : l.length ≤ 4) (hn : 0 ≤ n ∧ n ≤ 1048576) :
    (pressR l n).2=decide ((l.map leastR).sum≤n)∧((l.map leastR).sum≤n→∃ f:Int × Int,(pressR l n).1=l.map (hasR f.1 f.2)∧(pressR l n).1.sum≤n):=by
  have hok:sprsOK l=true:=by
    unfold sprsOK
    rw [decide_eq_true (show (l.length:Int)≤4 by omega),Bool.true_and,Bool.not_eq_true']
    cases hf:firstP (pSx l) ((l.length:Int)-0).toNat 0 with
    | none=>rfl
    | some j =>
      obtain ⟨⟨h0,h1⟩,h2,_⟩:=firstP_some hf
      unfold pSx at h2
      rw [hm _ (rd_mem' (r:=.spr) h0 (by omega))] at h2
      cases h2
  have hsum:sumV (l.map leastR)=((l.map leastR).sum,true):=by
    unfold sumV
    have:(decide (((l.map leastR).length:Int) > 1000) || (l.map leastR).any outU)=false:=by
      rw [Bool.or_eq_false_iff,decide_eq_false_iff_not,List.length_map]
      refine ⟨by omega,?_⟩
      cases ha:(l.map leastR).any outU with
      | false=>rfl
      | true =>
        obtain ⟨x,hx,hx2⟩:=List.any_eq_true.1 ha
        obtain ⟨s,hs,rfl⟩:=List.mem_map.1 hx
        have h1:=least_range (hm s hs)
        obtain ⟨m1,m2,m3,m4,m5⟩:=mayR_iff.1 (hm s hs)
        unfold outU at hx2
        simp only [Bool.or_eq_true,decide_eq_true_eq] at hx2
        omega
    rw [this]
    rfl
  have hroom:roomR l n=decide ((l.map leastR).sum≤n):=by
    unfold roomR
    rw [hok,decide_eq_false (show ¬ n < 0 by omega),decide_eq_false (show ¬ n > 1099511627776 by omega),hsum]
    simp
  unfold pressR forceR
  rw [hroom]
  cases hd:decide ((l.map leastR).sum≤n) with
  | false=>exact ⟨rfl,fun h=>absurd h (of_decide_eq_false hd)⟩
  | true =>
    refine ⟨rfl,fun h=>⟨forceV l n,rfl,?_⟩⟩
    obtain ⟨k1,k2⟩:=fl_fold l n l.length [] 0 (by simp [mkeys])
    have ef:(fillS l n).2.2=(foldI nxtFl l.length (l,n,[]) 0).2.2:=by unfold fillS; rw [show ((l.length:Int)-0).toNat=l.length by omega]
    rw [← ef] at k1 k2
    have hx:∀ x ∈ prs l (fillS l n).2.2 l.length 0,mayR x.1=true∧(x.2=true↔0 < x.1.E):=fun x hx=>by
      obtain ⟨j,⟨j0,j1⟩,rfl⟩:=prs_mem hx
      refine ⟨hm _ (rd_mem' (r:=.spr) j0 j1),?_⟩
      show (mget (fillS l n).2.2 j).isSome=true↔_
      rw [mget_in6,k2]
      constructor
      · rintro (h | ⟨_,_,h⟩)
        · simp [mkeys] at h
        · exact h
      · intro h
        exact .inr ⟨j0,by omega,h⟩
    have:=press_find hm hl hn (fillS l n).2.2.length (fillS l n).2.2 (Nat.le_refl _) k1 (fun x h=>⟨(hx x h).1,(hx x h).2.1⟩) (by unfold minP; rw [prs_map leastR]; exact h) (.inl fun x h hf=>by
      have:=(mayR_iff.1 (hx x h).1).2.2.2.1
      have h2:¬ 0 < x.1.E:=fun h3=>by rw [(hx x h).2.2 h3] at hf; cases hf
      omega)
    unfold hasSum at this
    rw [prs_map] at this
    exact this
end Go.Fx
namespace Go.Fx
open Go Go.Proofs
theorem units_le {s:Fu.Spec} {p u:Int} (h:perOK s p=true):unitsV s p≤u↔s.C*s.M*1048576≤u*(s.K*p):=by
 obtain ⟨⟨⟨h1,h2⟩,h3,h4,h5⟩,h6,h7⟩:=perOK_iff.1 h
 have e:unitsV s p=cdiv (s.C*s.M*1048576) (s.K*p):=by unfold unitsV; rw [h]; rfl
 rw [e]
 exact cdiv_le_iff (Int.mul_pos (by omega) (by omega))
theorem per_top {s:Fu.Spec} (h:mayS s=true):perOK s s.T=true∧perOK s s.Max=true:=by
 have hs:=mayS_iff.1 h
 have h3:=hs.2.1
 exact ⟨perOK_iff.2 ⟨hs,Int.le_refl _,h3.2.1⟩,perOK_iff.2 ⟨hs,h3.2.1,Int.le_refl _⟩⟩
theorem spr_may {s:Fu.Spec} (h:mayS s=true):mayR (sprOf s)=true∧leastR (sprOf s)=unitsV s s.Max:=by
 obtain ⟨⟨h1,h2⟩,⟨h3,h4,h5⟩,⟨h6,h7,h8⟩,⟨h9,h10⟩,h11⟩:=mayS_iff.1 h
 obtain ⟨p1,p2⟩:=per_top h
 have u1:=unitsV_pos p2
 have u2:unitsV s s.Max≤unitsV s s.T:=by
  rw [units_le p2]
  have k1:=(units_le p1).1 (Int.le_refl _)
  have k2:s.K*s.T≤s.K*s.Max:=Int.mul_le_mul_of_nonneg_left h4 (by omega)
  have k3:=Int.mul_le_mul_of_nonneg_left k2 (show 0≤unitsV s s.T by have:=unitsV_pos p1; omega)
  omega
 have u3:unitsV s s.T≤1048576:=by
  rw [units_le p1,Int.mul_comm]
  have k1:s.C*s.M≤s.T*s.K:=(mul_le_of (by omega) (by omega) h3 h7).2
  rw [Int.mul_comm s.T] at k1
  exact Int.mul_le_mul_of_nonneg_left k1 (by omega)
 refine ⟨mayR_iff.2 ⟨by show 1≤unitsV s s.Max; omega,u2,u3,h9,h10⟩,?_⟩
 by_cases he:s.E=0
 ·have:s.T=s.Max:=by rcases h11 with h | h <;> omega
  rw [least_zero (s:=sprOf s) he]
  show unitsV s s.T=_
  rw [this]
 ·rw [least_pos (s:=sprOf s) (by show 0 < s.E; omega)]
  rfl
theorem of_law {s:Fu.Spec} {u:Int} (h:mayS s=true) (h0:unitsV s s.Max≤u) (h1:u≤1048576):(s.T≤(ofP s u).1∧(ofP s u).1≤s.Max)∧unitsV s (ofP s u).1≤u∧∀ x,s.T≤x→x < (ofP s u).1→u < unitsV s x:=by
 have hs:=mayS_iff.1 h
 obtain ⟨⟨c1,c2⟩,⟨h3,h4,h5⟩,⟨h6,h7,h8⟩,⟨h9,h10⟩,h11⟩:=mayS_iff.1 h
 obtain ⟨p1,p2⟩:=per_top h
 have u1:=unitsV_pos p2
 have a0:0≤s.C*s.M∧s.C*s.M≤6*6:=mul_le_of (by omega) (by omega) c2 (by omega)
 have k0:0≤u*s.K∧u*s.K≤1048576*6:=mul_le_of (by omega) (by omega) h1 h8
 have k1:1≤u*s.K:=by
  have:=Int.mul_le_mul (show 1≤u by omega) (show 1≤s.K by omega) (by omega) (show 0≤u by omega)
  omega
 have eq:perQ s u=maxI (cdiv (s.C*s.M*1048576) (u*s.K)) s.T:=by
  unfold perQ
  rw [wrap_fits (n:=s.C*s.M) (by omega) (by omega),wrap_fits (n:=s.C*s.M*1048576) (by omega) (by omega),wrap_fits (n:=u*s.K) (by omega) (by omega),ceilV_of (by omega) (by omega) (by omega) (by omega)]
 have sw:∀ p:Int,u*(s.K*p)=p*(u*s.K):=fun p=>by rw [← Int.mul_assoc,Int.mul_comm]
 have m1:cdiv (s.C*s.M*1048576) (u*s.K)≤s.Max:=by
  rw [cdiv_le_iff (by omega),← sw]
  exact (units_le p2).1 h0
 have r1:s.T≤perQ s u∧perQ s u≤s.Max:=by
  rw [eq]
  refine ⟨?_,max_le6.2 ⟨m1,h4⟩⟩
  unfold maxI
  split <;> omega
 have po:perOK s (perQ s u)=true:=perOK_iff.2 ⟨hs,r1.1,r1.2⟩
 have r2:unitsV s (perQ s u)≤u:=by
  rw [units_le po,sw,← cdiv_le_iff (by omega),eq]
  exact le_max6 _ _
 have e:(ofP s u).1=perQ s u:=by
  unfold ofP
  rw [h,decide_eq_false (show ¬ u < 1 by omega),decide_eq_false (show ¬ u > 1048576 by omega),decide_eq_false (show ¬ perQ s u > s.Max by omega),decide_eq_false (show ¬ unitsV s (perQ s u) > u by omega)]
  rfl
 rw [e]
 refine ⟨r1,r2,fun x x0 x1=>?_⟩
 have px:perOK s x=true:=perOK_iff.2 ⟨hs,x0,by omega⟩
 rcases Int.lt_or_le u (unitsV s x) with hl | hl
 ·exact hl
 ·rw [units_le px,sw,← cdiv_le_iff (by omega)] at hl
  rw [eq] at x1
  unfold maxI at x1
  split at x1 <;> omega
theorem sum_le_of {α:Type} {f g:α→Int}:∀ {l:List α},(∀ x ∈ l,f x≤g x)→(l.map f).sum≤(l.map g).sum
 | [],_=>Int.le_refl _
 | a :: l,h=>by
  have h1:=h a (by simp)
  have h2:=sum_le_of (l:=l) fun x hx=>h x (by simp [hx])
  simp only [List.map_cons,List.sum_cons]
  omega
def fixQ (q:Fu.Spec) (u:Int):Fu.Fix:=⟨q,(ofP q u).1⟩
def leastS (L:List Fu.Spec):Int:=(L.map fun q=>unitsV q q.Max).sum
theorem springs_law {L:List Fu.Spec} (hl:L.length≤4):((∀ q ∈ L,mayS q=true)→springsV L=(L.map sprOf,true))∧((∃ q ∈ L,mayS q=false)→(springsV L).2=false):=by
 unfold springsV badV
 rw [decide_eq_false (show ¬ (L.length:Int) > 4 by omega),Bool.false_or]
 constructor
 ·intro h
  cases hf:firstP (pSg L) ((L.length:Int)-0).toNat 0 with
  | none=>rfl
  | some j =>
   obtain ⟨⟨h0,h1⟩,h2,_⟩:=firstP_some hf
   unfold pSg at h2
   rw [h _ (rd_mem' (r:=.spec) h0 (by omega))] at h2
   cases h2
 ·rintro ⟨q,hq,hm⟩
  cases hf:firstP (pSg L) ((L.length:Int)-0).toNat 0 with
  | some j=>rfl
  | none =>
   obtain ⟨i,⟨i0,i1⟩,e⟩:=memRd (r:=.spec) hq
   have:=firstP_none hf i i0 (by omega)
   unfold pSg at this
   rw [e,hm] at this
   cases this
theorem target_law {L : List Fu.Spec} (hl : L.length ≤ 4) (hm : ∀ q ∈ L, mayS q = true) :
    (unitsU L).2=decide (leastS L≤983040)∧(leastS L≤983040→(unitsU L).1.length=L.length∧mayFs (fixesV L (unitsU L).1)=true∧(∀ i:Int,0≤i→i < L.length→unitsV (rd .spec L i) (rd .spec L i).Max≤rd (.int .i64) (unitsU L).1 i∧rd (.int .i64) (unitsU L).1 i≤1048576)):=by
  have hs:∀ s ∈ L.map sprOf,mayR s=true:=fun s hs=>by
    obtain ⟨q,hq,rfl⟩:=List.mem_map.1 hs
    exact (spr_may (hm q hq)).1
  have e1:((L.map sprOf).map leastR).sum=leastS L:=by
    unfold leastS
    rw [List.map_map]
    congr 1
    exact List.map_congr_left fun q hq=>(spr_may (hm q hq)).2
  obtain ⟨k1,k2⟩:=press_law (l:=L.map sprOf) (n:=983040) hs (by rw [List.length_map]; exact hl) ⟨by omega,by omega⟩
  have eu:unitsU L=pressR (L.map sprOf) 983040:=by unfold unitsU; rw [(springs_law hl).1 hm]
  rw [eu]
  rw [e1] at k1 k2
  refine ⟨k1,fun h=>?_⟩
  obtain ⟨f,f1,f2⟩:=k2 h
  rw [f1] at f2 ⊢
  rw [List.map_map] at f2 ⊢
  have each:∀ q ∈ L,unitsV q q.Max≤hasR f.1 f.2 (sprOf q)∧hasR f.1 f.2 (sprOf q)≤1048576:=fun q hq=>by
    obtain ⟨h1,h2⟩:=spr_may (hm q hq)
    have h3:=has_range h1 f.1 f.2
    have h4:=(mayR_iff.1 h1).2.2.1
    omega
  have hrd:∀ i:Int,0≤i→i < L.length→rd (.int .i64) (L.map (hasR f.1 f.2 ∘ sprOf)) i=hasR f.1 f.2 (sprOf (rd .spec L i)):=fun i i0 i1=>rd_map (r:=.spec) (q:=.int .i64) (hasR f.1 f.2 ∘ sprOf) i0 i1
  have hfix:fixesV L (L.map (hasR f.1 f.2 ∘ sprOf))=L.map fun q=>fixQ q (hasR f.1 f.2 (sprOf q)):=by
    have e2:fixesV L (L.map (hasR f.1 f.2 ∘ sprOf))=mapF (fun i=>(fun q=>fixQ q (hasR f.1 f.2 (sprOf q))) (rd .spec L i)) L.length 0:=by
      unfold fixesV
      rw [show ((L.length:Int)-0).toNat=L.length by omega]
      refine mapF_congr fun i i0 i1=>?_
      unfold vEf fixQ
      simp only
      rw [hrd i i0 (by omega)]
    rw [e2,mapF_map (r:=.spec) (fun q=>fixQ q (hasR f.1 f.2 (sprOf q))) L L.length 0 (Int.le_refl _) (by omega)]
    simp
  have hpos:∀ q ∈ L,0 < unitsV q (ofP q (hasR f.1 f.2 (sprOf q))).1∧unitsV q (ofP q (hasR f.1 f.2 (sprOf q))).1≤hasR f.1 f.2 (sprOf q):=fun q hq=>by
    obtain ⟨h1,h2,_⟩:=of_law (hm q hq) (each q hq).1 (each q hq).2
    exact ⟨unitsV_pos (perOK_iff.2 ⟨mayS_iff.1 (hm q hq),h1.1,h1.2⟩),h2⟩
  refine ⟨by rw [List.length_map],?_,fun i i0 i1=>?_⟩
  · rw [hfix]
    unfold mayFs
    rw [List.length_map,decide_eq_true (show (L.length:Int)≤4 by omega),List.all_map,List.map_map]
    have a1:L.all (mayF ∘ fun q=>fixQ q (hasR f.1 f.2 (sprOf q)))=true:=List.all_eq_true.2 fun q hq=>decide_eq_true (hpos q hq).1
    have a2:fitsV (L.map (unitF ∘ fun q=>fixQ q (hasR f.1 f.2 (sprOf q))))=true:=by
      unfold fitsV sumV
      have hle:(L.map (unitF ∘ fun q=>fixQ q (hasR f.1 f.2 (sprOf q)))).sum≤(L.map (hasR f.1 f.2 ∘ sprOf)).sum:=sum_le_of fun q hq=>(hpos q hq).2
      have ha:(L.map (unitF ∘ fun q=>fixQ q (hasR f.1 f.2 (sprOf q)))).any outU=false:=by
        cases ha:(L.map (unitF ∘ fun q=>fixQ q (hasR f.1 f.2 (sprOf q)))).any outU with
        | false=>rfl
        | true =>
          obtain ⟨x,hx,hx2⟩:=List.any_eq_true.1 ha
          obtain ⟨q,hq,rfl⟩:=List.mem_map.1 hx
          have h1:=hpos q hq
          have h2:=each q hq
          have hx3:(decide (unitsV q (ofP q (hasR f.1 f.2 (sprOf q))).1 < 0) || decide (unitsV q (ofP q (hasR f.1 f.2 (sprOf q))).1 > 1099511627776))=true:=hx2
          rw [decide_eq_false (show ¬ unitsV q (ofP q (hasR f.1 f.2 (sprOf q))).1 < 0 by omega),decide_eq_false (show ¬ unitsV q (ofP q (hasR f.1 f.2 (sprOf q))).1 > 1099511627776 by omega)] at hx3
          cases hx3
      rw [ha,List.length_map,decide_eq_false (show ¬ (L.length:Int) > 1000 by omega)]
      show (true && decide ((L.map (unitF ∘ fun q=>fixQ q (hasR f.1 f.2 (sprOf q)))).sum≤(983040:Int)))=true
      rw [decide_eq_true (show (L.map (unitF ∘ fun q=>fixQ q (hasR f.1 f.2 (sprOf q)))).sum≤(983040:Int) by omega)]
      rfl
    rw [a1,a2]
    rfl
  · rw [hrd i i0 i1]
    exact each _ (rd_mem' (r:=.spec) i0 i1)
end Go.Fx
