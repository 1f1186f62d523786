import Derived.Test.YtgefkgmfbmdooaaGreatRN
import Derived.Test.YtgefkgmfbmdooaaGreatPlR
namespace Go.Fx
open Go
theorem ring_B {h:Fu.Ring} (hr:ringOK h = true):(0≤h.N∧h.N≤60)∧0≤h.B∧h.B < 2 ^ h.N.toNat:=by
  have hN:=ringOK_N hr
  unfold ringOK at hr
  simp only [Bool.and_eq_true,beq_iff_eq] at hr
  have h0:=hr.2.2
  unfold shrI at h0
  rw [show min h.N.toNat (IntKind.bits .u64) = h.N.toNat by show min h.N.toNat 64 = _; omega] at h0
  have hp:(0:Int) < 2 ^ h.N.toNat:=Int.pow_pos (by omega)
  rw [Int.fdiv_eq_ediv_of_nonneg _ (Int.le_of_lt hp)] at h0
  refine ⟨hN,?_,?_⟩
  · exact ((Int.ediv_nonneg_iff_of_pos hp).1 (by omega))
  · exact Int.lt_of_ediv_lt_of_pos hp h0
where
  Int.lt_of_ediv_lt_of_pos {a b:Int} (hb:0 < b) (h:a / b = 0):a < b:=by
    have h1:=Int.emod_add_mul_ediv a b
    have h2:=Int.emod_lt_of_pos a hb
    rw [h,Int.mul_zero,Int.add_zero] at h1
    omega
theorem pow60 {n:Nat} (h:n≤60):(2:Int) ^ n≤1152921504606846976:=by
  have:(2:Nat) ^ n≤2 ^ 60:=Nat.pow_le_pow_right (by omega) h
  have h2:((2 ^ n:Nat):Int)≤((2 ^ 60:Nat):Int):=Int.ofNat_le.2 this
  rw [Int.natCast_pow] at h2
  exact Int.le_trans h2 (by decide)
theorem mask60:maskV 60 = 1152921504606846975:=by decide +kernel
theorem and_mask {x:Int} (h0:0≤x) (h1:x < 18446744073709551616):andI .u64 x 1152921504606846975 = x % 1152921504606846976:=by
  obtain ⟨n,rfl⟩:∃ n:Nat,x = n:=⟨x.toNat,by omega⟩
  have e1:(BitVec.ofInt 64 (n:Int)).toNat = n:=by
    rw [BitVec.toNat_ofInt]; omega
  have e2:(BitVec.ofInt 64 (1152921504606846975:Int)).toNat = 2 ^ 60 - 1:=by decide +kernel
  unfold andI
  show IntKind.u64.wrap (((BitVec.ofInt 64 (n:Int) &&& BitVec.ofInt 64 (1152921504606846975:Int)).toNat:Nat):Int) = _
  rw [BitVec.toNat_and,e1,e2,Nat.and_two_pow_sub_one_eq_mod]
  have h3:n % 2 ^ 60 < 2 ^ 60:=Nat.mod_lt _ (by decide)
  have e3:((n % 2 ^ 60:Nat):Int) = (n:Int) % 1152921504606846976:=by
    rw [Int.natCast_emod]; rfl
  rw [e3]
  have h4:=Int.emod_nonneg (n:Int) (show (1152921504606846976:Int)≠0 by decide)
  have h5:=Int.emod_lt_of_pos (n:Int) (show (0:Int) < 1152921504606846976 by decide)
  show ((n:Int) % 1152921504606846976) % 18446744073709551616 = _
  exact Int.emod_eq_of_lt h4 (by omega)
theorem or_one {x:Int} (h0:0≤x) (h1:2 * x + 1 < 18446744073709551616):orI .u64 (2 * x) 1 = 2 * x + 1:=by
  obtain ⟨n,rfl⟩:∃ n:Nat,x = n:=⟨x.toNat,by omega⟩
  have e1:(BitVec.ofInt 64 (2 * (n:Int))).toNat = 2 * n:=by
    rw [BitVec.toNat_ofInt]; omega
  have e2:(BitVec.ofInt 64 (1:Int)).toNat = 1:=by decide +kernel
  unfold orI
  show IntKind.u64.wrap (((BitVec.ofInt 64 (2 * (n:Int)) ||| BitVec.ofInt 64 (1:Int)).toNat:Nat):Int) = _
  rw [BitVec.toNat_or,e1,e2]
  have e3:2 * n ||| 1 = 2 * n + 1:=by
    have:=Nat.two_pow_add_eq_or_of_lt (i:=1) (b:=1) (by decide) n
    rw [Nat.pow_one] at this
    exact this.symm
  rw [e3]
  show ((2 * n + 1:Nat):Int) % 18446744073709551616 = _
  have:((2 * n + 1:Nat):Int) = 2 * (n:Int) + 1:=by omega
  rw [this]
  exact Int.emod_eq_of_lt (by omega) (by omega)
theorem put_eq {h:Fu.Ring} (hr:ringOK h = true) (g:Bool):putRing h g = ⟨min (h.N + 1) 60,(2 * h.B) % 1152921504606846976 + (bif g then 1 else 0)⟩:=by
  obtain ⟨⟨h0,h1⟩,h2,h3⟩:=ring_B hr
  have h4:=pow60 (n:=h.N.toNat) (by omega)
  have e1:shlI .u64 h.B 1 = 2 * h.B:=by
    show (h.B * 2 ^ (min (1:Int).toNat 64)) % 18446744073709551616 = _
    rw [show (2:Int) ^ (min (1:Int).toNat 64) = 2 by decide,Int.mul_comm]
    exact Int.emod_eq_of_lt (by omega) (by omega)
  have e2:putB h = (2 * h.B) % 1152921504606846976:=by
    unfold putB ofRing
    rw [hr,mask60]
    simp only [cond_true]
    rw [e1]
    exact and_mask (by omega) (by omega)
  unfold putRing
  rw [e2]
  unfold ofRing
  rw [hr]
  simp only [cond_true]
  cases g with
  | false=>simp
  | true =>
    simp only [cond_true]
    have e3:(2 * h.B) % 1152921504606846976 = 2 * (h.B % 576460752303423488):=by omega
    rw [e3,or_one (by omega) (by omega)]
theorem overK_eq {t:Fu.Task} (h:0≤t.N∧t.N≤549755813888):overK t = bif t.J.On then t.N - 1 else t.N:=by
  unfold overK
  cases t.J.On with
  | true=>simp only [cond_true]; exact wrap_fits (by omega) (by omega)
  | false=>rfl
def idsA (l:List Fu.Ape):List Int:=l.map (·.ID)
theorem mayA_iff {A:List Fu.Ape} {now:Int}:mayA A now = true↔(∀ a ∈ A,apeOK a = true)∧(idsA A).Nodup∧A.length≤4∧0≤now∧now≤549755813888:=by
  unfold mayA idsA
  simp only [Bool.and_eq_true,decide_eq_true_eq,List.all_eq_true]
  constructor
  · rintro ⟨h1,h2,h3,h4,h5⟩; exact ⟨h1,h2,by omega,h4,h5⟩
  · rintro ⟨h1,h2,h3,h4,h5⟩; exact ⟨h1,h2,by omega,h4,h5⟩
end Go.Fx
namespace Go.Fx
open Go Go.Proofs
def listN:Nat→Int→List Bool→List Bool
  | 0,_,out=>out
  | n + 1,b,out=>listN n (b / 2) ((b % 2 == 1) :: out)
def bitI (b:Bool):Int:=bif b then 1 else 0
def valN (B:Int) (l:List Bool):Int:=l.foldl (fun B b=>2 * B + bitI b) B
theorem listN_len:∀ (n:Nat) (b:Int) (out:List Bool),(listN n b out).length = n + out.length
  | 0,_,out=>(Nat.zero_add _).symm
  | n + 1,b,out=>by
    unfold listN
    rw [listN_len n,List.length_cons]
    omega
theorem listN_app:∀ (n:Nat) (b:Int) (out:List Bool),listN n b out = listN n b [] ++ out
  | 0,_,out=>rfl
  | n + 1,b,out=>by
    unfold listN
    rw [listN_app n (b / 2) (_ :: out),listN_app n (b / 2) [_],List.append_assoc]
    rfl
theorem valN_app (B:Int) (l m:List Bool):valN B (l ++ m) = valN (valN B l) m:=by
  unfold valN
  rw [List.foldl_append]
theorem valN_list:∀ (n:Nat) (b:Int),0≤b→valN 0 (listN n b []) = b % 2 ^ n
  | 0,b,_=>by
    show (0:Int) = b % 1
    omega
  | n + 1,b,h=>by
    unfold listN
    rw [listN_app,valN_app,valN_list n (b / 2) (by omega)]
    show 2 * (b / 2 % 2 ^ n) + bitI (b % 2 == 1) = b % 2 ^ (n + 1)
    have hb:bitI (b % 2 == 1) = b % 2:=by
      have:b % 2 = 0∨b % 2 = 1:=by omega
      rcases this with e | e <;> rw [e] <;> rfl
    have hp:(0:Int) < 2 ^ n:=Int.pow_pos (by decide)
    have e1:(2:Int) ^ (n + 1) = 2 * 2 ^ n:=by rw [Int.pow_succ,Int.mul_comm]
    have e2:=Int.mul_ediv_add_emod b (2 * 2 ^ n)
    have e3:=Int.mul_ediv_add_emod (b / 2) (2 ^ n)
    have e4:b / 2 / 2 ^ n = b / (2 * 2 ^ n):=Int.ediv_ediv_of_nonneg (by decide)
    rw [hb,e1]
    rw [e4] at e3
    have e5:2 * 2 ^ n * (b / (2 * 2 ^ n)) = 2 * (2 ^ n * (b / (2 * 2 ^ n))):=Int.mul_assoc _ _ _
    omega
theorem valN_bound:∀ (l:List Bool) (B:Int),0≤B→0≤valN B l∧valN B l < (B + 1) * 2 ^ l.length
  | [],B,h=>by
    show 0≤B∧B < (B + 1) * 1
    omega
  | b :: l,B,h=>by
    have hb:0≤bitI b∧bitI b≤1:=by cases b <;> exact ⟨by decide,by decide⟩
    obtain ⟨h1,h2⟩:=valN_bound l (2 * B + bitI b) (by omega)
    refine ⟨h1,?_⟩
    have hp:(0:Int) < 2 ^ l.length:=Int.pow_pos (by decide)
    have h3:(2 * B + bitI b + 1) * 2 ^ l.length≤(2 * (B + 1)) * 2 ^ l.length:=Int.mul_le_mul_of_nonneg_right (by omega) (by omega)
    have e:(B + 1) * 2 ^ (b :: l).length = (2 * (B + 1)) * 2 ^ l.length:=by
      rw [List.length_cons,Int.pow_succ,Int.mul_comm (2 ^ l.length) 2,← Int.mul_assoc,Int.mul_comm (B + 1) 2]
    rw [e]
    exact Int.lt_of_lt_of_le h2 h3
def refPut (h:Fu.Ring) (g:Bool):Fu.Ring :=
  let l:=(bif ringOK h then listN h.N.toNat h.B [] else []) ++ [g]
  let l':=bif decide ((l.length:Int) > 60) then l.drop (l.length - 60) else l
  ⟨l'.length,valN 0 l'⟩
theorem refPut_eq (h:Fu.Ring) (g:Bool):refPut h g = putRing h g:=by
  unfold refPut
  cases hr:ringOK h with
  | false =>
    have e:putRing h g = putRing ⟨0,0⟩ g:=by
      have h0:ofRing h = ⟨0,0⟩:=by unfold ofRing; rw [hr]; rfl
      have h1:ofRing ⟨0,0⟩ = ⟨0,0⟩:=by decide +kernel
      unfold putRing putB
      rw [h0,h1]
    rw [e]
    simp only [cond_false,List.nil_append]
    have z:∀ g:Bool,(⟨1,valN 0 [g]⟩:Fu.Ring) = putRing ⟨0,0⟩ g:=by decide +kernel
    rw [decide_eq_false (show ¬ (([g].length:Int) > 60) by simp)]
    exact z g
  | true =>
    obtain ⟨⟨n0,n1⟩,b0,b1⟩:=ring_B hr
    rw [put_eq hr]
    simp only [cond_true]
    have hlen:(listN h.N.toNat h.B [] ++ [g]).length = h.N.toNat + 1:=by
      rw [List.length_append,listN_len,List.length_nil,List.length_singleton]
    have hv:valN 0 (listN h.N.toNat h.B [] ++ [g]) = 2 * h.B + bitI g:=by
      rw [valN_app,valN_list _ _ b0,Int.emod_eq_of_lt b0 b1]
      rfl
    have hg:0≤bitI g∧bitI g≤1:=by cases g <;> exact ⟨by decide,by decide⟩
    have eg:(bif g then (1:Int) else 0) = bitI g:=rfl
    have hp:=pow60 (n:=h.N.toNat) (by omega)
    rw [eg]
    cases hd:decide (((listN h.N.toNat h.B [] ++ [g]).length:Int) > 60) with
    | false =>
      have hd:=of_decide_eq_false hd
      rw [hlen] at hd
      simp only [cond_false]
      have h59:(2:Int) ^ h.N.toNat≤2 ^ 59:=by
        have:(2:Nat) ^ h.N.toNat≤2 ^ 59:=Nat.pow_le_pow_right (by omega) (by omega)
        have h2:((2 ^ h.N.toNat:Nat):Int)≤((2 ^ 59:Nat):Int):=Int.ofNat_le.2 this
        rw [Int.natCast_pow,Int.natCast_pow] at h2
        exact h2
      have e59:(2:Int) ^ 59 = 576460752303423488:=by decide
      rw [hv,hlen,Int.emod_eq_of_lt (by omega) (by omega)]
      congr 1
      omega
    | true =>
      have hd:=of_decide_eq_true hd
      rw [hlen] at hd
      have hN:h.N.toNat = 60:=by omega
      simp only [cond_true]
      have h61:(listN h.N.toNat h.B [] ++ [g]).length = 61:=by omega
      rw [h61]
      replace hlen:=h61
      cases hl:listN h.N.toNat h.B [] ++ [g] with
      | nil=>rw [hl] at hlen; simp at hlen
      | cons x rest =>
        rw [hl] at hlen hv
        have hr60:rest.length = 60:=by simp at hlen; omega
        have hb:=valN_bound rest 0 (Int.le_refl _)
        have hx:0≤bitI x∧bitI x≤1:=by cases x <;> exact ⟨by decide,by decide⟩
        have key:∀ (l:List Bool) (B:Int),valN B l = B * 2 ^ l.length + valN 0 l:=by
          intro l
          induction l with
          | nil=>intro B; show B = B * 1 + 0; omega
          | cons y l ih =>
            intro B
            show valN (2 * B + bitI y) l = B * 2 ^ (l.length + 1) + valN (2 * 0 + bitI y) l
            rw [ih (2 * B + bitI y),ih (2 * 0 + bitI y),Int.pow_succ,Int.add_mul,Int.mul_comm (2 ^ l.length) 2,← Int.mul_assoc,Int.mul_comm B 2,Int.mul_zero,Int.zero_add]
            omega
        have e1:valN 0 (x :: rest) = bitI x * 2 ^ 60 + valN 0 rest:=by
          show valN (2 * 0 + bitI x) rest = _
          rw [Int.mul_zero,Int.zero_add,key rest (bitI x),hr60]
        have e60:(2:Int) ^ 60 = 1152921504606846976:=by decide
        rw [hr60,Int.zero_add,Int.one_mul,e60] at hb
        rw [e1,e60] at hv
        show (⟨(((x :: rest).drop 1).length:Int),valN 0 ((x :: rest).drop 1)⟩:Fu.Ring) = _
        rw [List.drop_succ_cons,List.drop_zero,hr60]
        have em:2 * h.B % 1152921504606846976 + bitI g = valN 0 rest:=by
          have h2:(2 * h.B + bitI g) % 1152921504606846976 = valN 0 rest:=by
            rw [← hv,Int.add_comm,Int.add_mul_emod_self_right]
            exact Int.emod_eq_of_lt hb.1 hb.2
          omega
        rw [em]
        congr 1
        omega
end Go.Fx
namespace Go.Fx
open Go Go.Proofs
theorem refK_iff {t : Fu.Task} {now : Int} : mayK t now = true ↔ (mayS t.S = true ∧ mayJ t.S t.J = true ∧ ringOK t.H = true) ∧ ((0 ≤ t.ID ∧ t.ID ≤ 549755813888) ∧ (t.S.T ≤ t.Next ∧ t.Next ≤ t.S.Max) ∧ (1 ≤ t.P ∧ t.P ≤ 48) ∧ (0 ≤ now ∧ now ≤ 549755813888)) ∧
    ((now≤t.At∧t.At≤now + 48)∧(0≤t.N∧t.N≤549755813888))∧(t.J.On = true→t.J.Rel < now∧t.J.Due = t.At∧t.N = t.J.J + 1)∧t.H.N = min (bif t.J.On then t.N - 1 else t.N) 60:=by
  rw [mayK_iff]
  constructor
  · rintro ⟨h1,h2,h3,⟨h4,⟨p1,p2,p3,p4,p5⟩⟩,h6,h7⟩
    obtain ⟨s1,s2,s3⟩:=perOK_iff.1 p1
    have p3:0≤t.N∧t.N≤549755813888:=p3
    rw [overK_eq p3,minI_eq] at h7
    refine ⟨⟨mayS_iff.2 s1,h6,h3⟩,⟨h1,⟨s2,s3⟩,h2,h4⟩,⟨p2,p3⟩,fun ho=>?_,h7⟩
    unfold liveK lookJ at p5
    rw [ho] at p5
    simp only [cond_true] at p5
    rcases p5 with p5 | p5
    · rw [ho] at p5; cases p5
    · exact p5
  · rintro ⟨⟨h1,h2,h3⟩,⟨h4,h5,h6,h7⟩,⟨h8,h9⟩,h10,h11⟩
    have hs:=mayS_iff.1 h1
    have hj:JobOK t.S t.J:=of_decide_eq_true h2
    refine ⟨h4,h6,h3,⟨h7,perOK_iff.2 ⟨hs,h5.1,h5.2⟩,h8,h9,?_,?_⟩,h2,?_⟩
    · show JobOK t.S (lookJ t)
      unfold lookJ
      cases ho:t.J.On with
      | false=>exact hj
      | true =>
        simp only [cond_true]
        refine ⟨hs,.inr ?_⟩
        rcases hj.2 with ⟨q,_⟩ | ⟨q1,q2,q3,q4,q5,q6,q7⟩
        · rw [ho] at q; cases q
        · obtain ⟨⟨c1,c2⟩,_⟩:=hs
          exact ⟨ho,q2,q3,q4,⟨by simp only; omega,by simp only; omega⟩,⟨q6.1,q6.2.1,by simp only; omega⟩,q7⟩
    · unfold liveK lookJ
      cases ho:t.J.On with
      | false=>exact .inl ho
      | true=>exact .inr (h10 ho)
    · rw [overK_eq h9,minI_eq]
      exact h11
theorem nodup_rd {A:List Fu.Ape}:(A.map (·.ID)).Nodup↔∀ i k:Int,0≤k→k < i→i < A.length→(rd .ape A k).ID≠(rd .ape A i).ID:=by
  constructor
  · intro h i k h0 h1 h2
    obtain ⟨n,rfl⟩:∃ n:Nat,i = n:=⟨i.toNat,by omega⟩
    obtain ⟨m,rfl⟩:∃ m:Nat,k = m:=⟨k.toNat,by omega⟩
    have hn:n < A.length:=by omega
    have hm:m < A.length:=by omega
    have e1:rd .ape A (n:Int) = A[n]:=by unfold rd; simp [hn]
    have e2:rd .ape A (m:Int) = A[m]:=by unfold rd; simp [hm]
    rw [e1,e2]
    have:=List.pairwise_iff_getElem.1 h m n (by simpa using hm) (by simpa using hn) (by omega)
    simpa using this
  · intro h
    refine List.pairwise_iff_getElem.2 fun m n hm hn hmn=>?_
    have hn':n < A.length:=by simpa using hn
    have hm':m < A.length:=by simpa using hm
    have:=h n m (by omega) (by omega) (by omega)
    have e1:rd .ape A (n:Int) = A[n]:=by unfold rd; simp [hn']
    have e2:rd .ape A (m:Int) = A[m]:=by unfold rd; simp [hm']
    rw [e1,e2] at this
    simpa using this
end Go.Fx
namespace Go.Fx
open Go Go.Proofs
def moreO (p:Option Int) (n:Int):Bool:=match p with
  | some m=>decide (m < n)
  | none=>true
def ascW (now:Int):Option Int→List Fu.Task→Bool
  | _,[]=>true
  | p,t :: l=>(tkOK now t && moreO p t.ID) && ascW now (some t.ID) l
theorem ascW_eq (now:Int):∀ (l:List Fu.Task) (p:Option Int),ascW now p l = (l.all (tkOK now) && (ascT l && (match l with | []=>true | t :: _=>moreO p t.ID)))
  | [],p=>rfl
  | [t],p=>by
    simp only [ascW,List.all_cons,List.all_nil,ascT,Bool.and_true,Bool.true_and]
  | t :: u :: l,p=>by
    have ih:=ascW_eq now (u :: l) (some t.ID)
    have e:ascW now p (t :: u :: l) = ((tkOK now t && moreO p t.ID) && ascW now (some t.ID) (u :: l)):=rfl
    rw [e,ih]
    simp only [List.all_cons,ascT,moreO]
    cases tkOK now t <;> cases tkOK now u <;> cases l.all (tkOK now) <;> cases ascT (u :: l) <;> cases decide (t.ID < u.ID) <;> cases (match p with | some m=>decide (m < t.ID) | none=>true) <;> rfl
theorem ascW_none (now:Int) (l:List Fu.Task):ascW now none l = (l.all (tkOK now) && ascT l):=by
  rw [ascW_eq]
  cases l with
  | nil=>rfl
  | cons t l=>simp only [moreO,Bool.and_true]
def ascV:Option Int→List Fu.Ape→Bool
  | _,[]=>true
  | p,a :: l=>moreO p a.ID && ascV (some a.ID) l
theorem ascV_asc:∀ {l:List Fu.Ape} {p:Option Int},(l.map (·.ID)).Nodup→(∀ m,p = some m→m ∉ l.map (·.ID))→ascV p l = (ascA l && (match p,l with | some m,a :: _=>decide (m≤a.ID) | _,_=>true))
  | [],p,_,_=>by cases p <;> rfl
  | [a],p,_,hp=>by
    cases p with
    | none=>rfl
    | some m =>
      have:=hp m rfl
      simp only [List.map_cons,List.map_nil,List.mem_singleton] at this
      simp only [ascV,moreO,ascA,Bool.and_true,Bool.true_and]
      by_cases h:m < a.ID
      · rw [decide_eq_true h,decide_eq_true (show m≤a.ID by omega)]
      · rw [decide_eq_false h,decide_eq_false (show ¬ m≤a.ID by omega)]
  | a :: b :: l,p,hn,hp=>by
    have hn':=List.nodup_cons.1 hn
    have ih:=ascV_asc (l:=b :: l) (p:=some a.ID) hn'.2 fun m hm=>by cases hm; exact hn'.1
    have e:ascV p (a :: b :: l) = (moreO p a.ID && ascV (some a.ID) (b :: l)):=rfl
    rw [e,ih]
    have e2:ascA (a :: b :: l) = (decide (a.ID≤b.ID) && ascA (b :: l)):=rfl
    rw [e2]
    cases p with
    | none=>simp only [moreO]; cases ascA (b :: l) <;> cases decide (a.ID≤b.ID) <;> rfl
    | some m =>
      have:=hp m rfl
      simp only [List.map_cons,List.mem_cons,not_or] at this
      simp only [moreO]
      by_cases h:m < a.ID
      · rw [decide_eq_true h,decide_eq_true (show m≤a.ID by omega)]
        cases ascA (b :: l) <;> cases decide (a.ID≤b.ID) <;> rfl
      · rw [decide_eq_false h,decide_eq_false (show ¬ m≤a.ID by omega)]
        cases ascA (b :: l) <;> cases decide (a.ID≤b.ID) <;> rfl
theorem ascV_none {l:List Fu.Ape} (h:(l.map (·.ID)).Nodup):ascV none l = ascA l:=by
  rw [ascV_asc h fun m hm=>by cases hm]
  simp only [Bool.and_true]
theorem refW (w:Fu.World):mayW w = (!(decide (w.Now < 0) || (decide (w.Now > 274877906944) || (decide ((w.T.length:Int) > 4) || (decide (w.Cur < -1) || (decide (w.Cur > 549755813888) || !mayA w.A w.Now))))) && (ascW w.Now none w.T && ascV none w.A)):=by
  unfold mayW
  rw [ascW_none]
  cases hm:mayA w.A w.Now with
  | false=>simp
  | true =>
    have hn:=(mayA_iff.1 hm).2.1
    unfold idsA at hn
    rw [ascV_none hn]
end Go.Fx
namespace Go.Fx
open Go Go.Proofs
theorem unitF_small {x:Fu.Fix} (h:mayF x = true):0 < unitF x∧unitF x≤1048576:=by
  have hp:=(mayF_C h).1
  refine ⟨unitsV_pos hp,?_⟩
  obtain ⟨⟨⟨c1,c2⟩,⟨h3,h4,h5⟩,⟨h6,h7,h8⟩,h9⟩,p1,p2⟩:=perOK_iff.1 hp
  have e:unitF x = cdiv (x.S.C * x.S.M * 1048576) (x.S.K * x.P):=by unfold unitF unitsV; rw [hp]; rfl
  rw [e,cdiv_le_iff (Int.mul_pos (by omega) (by omega))]
  have k1:x.S.C * x.S.M≤x.P * x.S.K:=(mul_le_of (by omega) (by omega) (by omega) h7).2
  rw [Int.mul_comm x.P] at k1
  have k2:=Int.mul_le_mul_of_nonneg_left k1 (show (0:Int)≤1048576 by decide)
  omega
theorem refFs (l:List Fu.Fix):mayFs l = (l.all mayF && (decide ((l.length:Int)≤4) && decide ((l.map unitF).sum≤983040))):=by
  unfold mayFs
  cases ha:l.all mayF with
  | false=>rfl
  | true =>
    cases hl:decide ((l.length:Int)≤4) with
    | false=>rfl
    | true =>
      have hl:=of_decide_eq_true hl
      have hall:=List.all_eq_true.1 ha
      have hn:(l.map unitF).any outU = false:=by
        cases hx:(l.map unitF).any outU with
        | false=>rfl
        | true =>
          obtain ⟨x,hx1,hx2⟩:=List.any_eq_true.1 hx
          obtain ⟨y,hy,rfl⟩:=List.mem_map.1 hx1
          have h1:=unitF_small (hall y hy)
          unfold outU at hx2
          rw [decide_eq_false (show ¬ unitF y < 0 by omega),decide_eq_false (show ¬ unitF y > 1099511627776 by omega)] at hx2
          cases hx2
      unfold fitsV sumV
      rw [hn,List.length_map,decide_eq_false (show ¬ (l.length:Int) > 1000 by omega)]
      rfl
theorem refTest (l:List Fu.Fix):testV l = true↔mayFs l = true∧∀ d:Int,1≤d→d < hzV l→sumOf l d≤d:=by
  rw [testV_iff]
  constructor
  · rintro ⟨h1,h2⟩
    exact ⟨h1,fun d d0 d1=>h2 d (by omega) d1⟩
  · rintro ⟨h1,h2⟩
    refine ⟨h1,fun d d0 d1=>?_⟩
    by_cases hd:d = 0
    · subst hd
      have hf:=h1
      unfold mayFs at hf
      rw [Bool.and_eq_true,List.all_eq_true] at hf
      rw [sumOf_zero hf.1]
      exact Int.le_refl _
    · exact h2 d (by omega) d1
theorem refHz (c:Int):(c * 1048576 + 65535) / 65536 = 16 * c:=by omega
end Go.Fx
