import Derived.Test.YtdmlnbfejgdhaaaGreatC12
namespace Go.Fx
open Go Go.Proofs
theorem rd_of {r:RTy} {xs:List r.carrier} {i:Nat} (h:i < xs.length):rd r xs i=xs[i]:=by
 obtain ⟨h',e⟩:=rd_eq r xs i (by omega) (by omega)
 rw [e]
 rfl
theorem rd_map {r q:RTy} (f:r.carrier→q.carrier) {xs:List r.carrier} {i:Int} (h0:0≤i) (h1:i < xs.length):rd q (xs.map f) i=f (rd r xs i):=by
 obtain ⟨n,rfl⟩:∃ n:Nat,i=n:=⟨i.toNat,by omega⟩
 have h:n < xs.length:=by omega
 rw [rd_of (xs:=xs.map f) (by rw [List.length_map]; exact h),rd_of (xs:=xs) h,List.getElem_map]
theorem mapF_rd {q:RTy} (f:Int→q.carrier):∀ (k:Nat) (i j:Int),0≤j→j < k→rd q (mapF f k i) j=f (i+j)
 | 0,_,_,h0,h1=>by omega
 | k+1,i,j,h0,h1=>by
  obtain ⟨n,rfl⟩:∃ n:Nat,j=n:=⟨j.toNat,by omega⟩
  cases n with
  | zero =>
   show f i=_
   rw [show i+((0:Nat):Int)=i by simp]
  | succ n =>
   have e:rd q (mapF f (k+1) i) ((n+1:Nat):Int)=rd q (mapF f k (i+1)) (n:Int):=by
    unfold rd
    simp only [Int.toNat_natCast]
    rfl
   rw [e,mapF_rd f k (i+1) n (by omega) (by omega)]
   congr 1
   omega
theorem memRd {r:RTy} {xs:List r.carrier} {x:r.carrier} (h:x ∈ xs):∃ i:Int,(0≤i∧i < xs.length)∧rd r xs i=x:=by
 obtain ⟨n,hn,e⟩:=List.getElem_of_mem h
 exact ⟨n,⟨by omega,by omega⟩,by rw [rd_of hn,e]⟩
theorem rd_mem' {r:RTy} {xs:List r.carrier} {i:Int} (h0:0≤i) (h1:i < xs.length):rd r xs i ∈ xs:=by
 obtain ⟨n,rfl⟩:∃ n:Nat,i=n:=⟨i.toNat,by omega⟩
 rw [rd_of (xs:=xs) (by omega)]
 exact List.getElem_mem _
theorem rd_ext {r:RTy} {xs ys:List r.carrier} (hl:xs.length=ys.length) (h:∀ i:Int,0≤i→i < xs.length→rd r xs i=rd r ys i):xs=ys:=by
 refine List.ext_getElem hl fun n h1 h2=>?_
 have:=h n (by omega) (by omega)
 rwa [rd_of h1,rd_of h2] at this
theorem getD_none {o:Option Int} (h:¬ o.getD (-1)≥0) (hs:∀ j,o=some j→0≤j):o=none:=by
 cases o with
 | none=>rfl
 | some j=>exact absurd (hs j rfl) h
theorem atIm_none {T:List Fu.Task} {s:Fu.Serv}:(¬ atIm T s≥0)↔∀ t ∈ T,t.ID < s.NextID:=by
 unfold atIm
 constructor
 ·intro h t ht
  have hn:=getD_none h fun j hj=>(firstP_some hj).1.1
  obtain ⟨i,⟨h0,h1⟩,e⟩:=memRd (r:=.task) ht
  have:=firstP_none hn i h0 (by omega)
  unfold pIm qIm at this
  simp only [decide_eq_false_iff_not] at this
  rw [e] at this
  omega
 ·intro h
  cases hf:firstP (pIm (T,s)) T.length 0 with
  | none=>simp
  | some j =>
   obtain ⟨⟨h0,h1⟩,h2,_⟩:=firstP_some hf
   unfold pIm qIm at h2
   have:=h _ (rd_mem' (r:=.task) h0 (by omega))
   simp only [decide_eq_true_eq] at h2
   omega
theorem atIv_none {A:List Fu.Ape} {s:Fu.Serv}:(¬ atIv A s≥0)↔∀ a ∈ A,a.ID < s.NextAp:=by
 unfold atIv
 constructor
 ·intro h t ht
  have hn:=getD_none h fun j hj=>(firstP_some hj).1.1
  obtain ⟨i,⟨h0,h1⟩,e⟩:=memRd (r:=.ape) ht
  have:=firstP_none hn i h0 (by omega)
  unfold pIv qIv at this
  simp only [decide_eq_false_iff_not] at this
  rw [e] at this
  omega
 ·intro h
  cases hf:firstP (pIv (A,s)) A.length 0 with
  | none=>simp
  | some j =>
   obtain ⟨⟨h0,h1⟩,h2,_⟩:=firstP_some hf
   unfold pIv qIv at h2
   have:=h _ (rd_mem' (r:=.ape) h0 (by omega))
   simp only [decide_eq_true_eq] at h2
   omega
theorem atIa_some {T:List Fu.Task} {id:Int} (h:atIa T id≠-1):(0≤atIa T id∧atIa T id < T.length)∧(rd .task T (atIa T id)).ID=id:=by
 refine ⟨atIa_range h,?_⟩
 unfold atIa at h ⊢
 cases hf:firstP (pIa (T,id)) T.length 0 with
 | none=>rw [hf] at h; exact absurd rfl h
 | some j =>
  have h2:=(firstP_some hf).2.1
  unfold pIa qIa at h2
  exact eq_of_beq h2
theorem asc_rd {T:List Fu.Task} (h:ascT T=true) {i j:Int} (h0:0≤i) (h1:i < j) (h2:j < T.length):(rd .task T i).ID < (rd .task T j).ID:=by
 obtain ⟨n,rfl⟩:∃ n:Nat,i=n:=⟨i.toNat,by omega⟩
 obtain ⟨m,rfl⟩:∃ m:Nat,j=m:=⟨j.toNat,by omega⟩
 rw [rd_of (r:=.task) (xs:=T) (by omega),rd_of (r:=.task) (xs:=T) (by omega)]
 exact List.pairwise_iff_getElem.1 (ascT_pair.1 h) n m (by omega) (by omega) (by omega)
theorem fixesV_len (l:List Fu.Spec) (u:List Int):(fixesV l u).length=l.length:=by
 unfold fixesV
 rw [mapF_length]
 omega
theorem fixesV_S (l:List Fu.Spec) (u:List Int) {i:Int} (h0:0≤i) (h1:i < l.length):(rd .fix (fixesV l u) i).S=rd .spec l i:=by
 unfold fixesV
 rw [mapF_rd (q:=.fix) (vEf (l,u)) _ 0 i h0 (by omega),Int.zero_add]
 rfl
theorem targetV_ok {l:List Fu.Spec} (h:(targetV l).2=0):l.length≤4∧(targetV l).1=fixesV l (unitsU l).1∧testV (fixesV l (unitsU l).1)=true:=by
 unfold targetV at h ⊢
 cases h1:decide ((l.length:Int) > 4) with
 | true=>rw [h1] at h; exact absurd h (by show ¬ (3:Int)=0; decide)
 | false =>
  rw [h1] at h
  cases h2:(springsV l).2 with
  | false=>rw [h2] at h; exact absurd h (by show ¬ (1:Int)=0; decide)
  | true =>
   rw [h2] at h
   cases h3:(unitsU l).2 with
   | false=>rw [h3] at h; exact absurd h (by show ¬ (5:Int)=0; decide)
   | true =>
    rw [h3] at h
    cases h4:testV (fixesV l (unitsU l).1) with
    | false=>rw [h4] at h; exact absurd h (by show ¬ (6:Int)=0; decide)
    | true =>
     have:=of_decide_eq_false h1
     exact ⟨by omega,rfl,rfl⟩
theorem aimsP_len (T:List Fu.Task) (n:Int) (f:List Fu.Fix):(aimsP T n f).length=f.length:=by
 unfold aimsP
 rw [mapF_length]
 omega
theorem aimsP_rd (T:List Fu.Task) (n:Int) (f:List Fu.Fix) {i:Int} (h0:0≤i) (h1:i < f.length):rd .aim (aimsP T n f) i=aimP T n f i:=by
 unfold aimsP
 rw [mapF_rd (q:=.aim) (aimP T n f) _ 0 i h0 (by omega),Int.zero_add]
theorem aimsP_fix (T:List Fu.Task) (n:Int) (f:List Fu.Fix):(aimsP T n f).map fixA=f:=by
 refine rd_ext (r:=.fix) (by rw [List.length_map,aimsP_len]) fun i h0 h1=>?_
 rw [List.length_map,aimsP_len] at h1
 rw [rd_map (r:=.aim) (q:=.fix) fixA h0 (by rw [aimsP_len]; exact h1),aimsP_rd T n f h0 h1]
 rfl
theorem safe_test {w:Fu.World} (h:safeW w=true):testV (w.T.map fixK)=true:=by
 unfold safeW at h
 rw [Bool.and_eq_true,Bool.and_eq_true] at h
 exact h.2.2
theorem safe_may {w:Fu.World} (h:safeW w=true):mayW w=true:=by
 unfold safeW at h
 rw [Bool.and_eq_true] at h
 exact h.1
theorem leftV_range {s:Fu.Serv} (hm:mayW s.W=true):0≤leftV s∧leftV s≤24:=by
 obtain ⟨_,hT,_⟩:=mayW_iff.1 hm
 have hs:=sum_small (l:=s.W.T) fun t ht=>mandK_small hm ht
 unfold leftV
 omega
theorem planB_pos {l:List Fu.Fix} {r:Int} (hm:mayFs l=true) (h0:0≤r) (h1:r≤24):planB l r=16*(r+2*sumC l)+1:=by
 unfold planB
 rw [hm,decide_eq_false (show ¬ r < 0 by omega),decide_eq_false (show ¬ r > 1048576 by omega)]
 rfl
theorem sumC_nonneg {l:List Fu.Fix} (hm:mayFs l=true):0≤sumC l:=by
 unfold mayFs at hm
 simp only [Bool.and_eq_true,decide_eq_true_eq,List.all_eq_true] at hm
 obtain ⟨h4,_⟩:=hm
 have:∀ l:List Fu.Fix,(∀ x ∈ l,0≤x.S.C∧x.S.C≤6)→0≤sumC l:=by
  intro l
  induction l with
  | nil=>intro _; simp [sumC]
  | cons a l ih =>
   intro h
   have h1:=h a (by simp)
   have h2:=ih fun t ht=>h t (by simp [ht])
   have e:sumC (a :: l)=a.S.C+sumC l:=by simp [sumC]
   omega
 exact this l fun x hx=>(mayF_C (h4 x hx)).2
theorem byV_range {s:Fu.Serv} (hs:safeW s.W=true):s.W.Now≤byV s∧byV s≤s.W.Now+1152:=by
 have hm:=safe_may hs
 have hl:=leftV_range hm
 have hf:=(testV_iff.1 (safe_test hs)).1
 have h1:=planB_pos hf hl.1 hl.2
 have h2:=(planB_range (l:=s.W.T.map fixK) hl.1 hl.2).2
 have h3:=sumC_nonneg hf
 unfold byV
 omega
def newOK (s:Fu.Serv) (n:Int) (f:List Fu.Fix):Prop:=(n = -1∧f.length=s.W.T.length)∨((0≤n∧n < s.NextID)∧f.length=s.W.T.length+1∧∀ t ∈ s.W.T,t.ID < n)
def sameC (s:Fu.Serv) (f:List Fu.Fix):Prop:=∀ i:Int,0≤i→i < s.W.T.length→(rd .fix f i).S.C=(rd .task s.W.T i).S.C∧(rd .fix f i).S.M=(rd .task s.W.T i).S.M∧(rd .fix f i).S.K=(rd .task s.W.T i).S.K
theorem put_aims {s:Fu.Serv} {n:Int} {f:List Fu.Fix} (hf:f.length≤4) (hn:newOK s n f) (hc:sameC s f) (ht:testV f=true):aimsV (putV s n f)=true:=by
 have hlen:(putV s n f).R.L.length=f.length:=aimsP_len _ _ _
 have hmany:manyV (putV s n f)=f.length:=by
  unfold manyV putV
  simp only
  rcases hn with ⟨h1,h2⟩ | ⟨⟨h1,_⟩,h2,_⟩
  ·rw [h1]
   show (s.W.T.length:Int)=_
   omega
  ·rw [show (n != -1)=true from bne_iff_ne.2 (by omega)]
   show (s.W.T.length:Int)+1=_
   omega
 refine aimsV_iff.2 ⟨⟨by rw [hlen,hmany],by rw [hmany]; omega⟩,?_,?_⟩
 ·cases hp:firstP (badA (putV s n f)) (putV s n f).R.L.length 0 with
  | none=>rfl
  | some i =>
   obtain ⟨⟨h0,h1⟩,h2,_⟩:=firstP_some hp
   rw [hlen] at h1
   have hi:i < (f.length:Int):=by omega
   have ea:rd .aim (putV s n f).R.L i=aimP s.W.T n f i:=aimsP_rd _ _ _ h0 hi
   unfold badA at h2
   cases he:(i == (s.W.T.length:Int)) with
   | true =>
    have hei:=eq_of_beq he
    rw [show (i == ((putV s n f).W.T.length:Int))=true from he] at h2
    have h2:badN (putV s n f) i=true:=h2
    unfold badN at h2
    rw [ea] at h2
    have hid:(aimP s.W.T n f i).ID=n:=by
     unfold aimP
     rw [decide_eq_false (show ¬ i < (s.W.T.length:Int) by omega)]
     rfl
    rw [hid] at h2
    rcases hn with ⟨_,h4⟩ | ⟨⟨h3,h4⟩,_,h5⟩
    ·omega
    ·have hsn:(putV s n f).R.New=n:=rfl
     have hsi:(putV s n f).NextID=s.NextID:=rfl
     have hst:(putV s n f).W.T=s.W.T:=rfl
     rw [hsn,hsi,hst] at h2
     rw [bne_self_eq_false,decide_eq_false (show ¬ n≥s.NextID by omega),decide_eq_false (show ¬ n < 0 by omega),Bool.or_false] at h2
     cases hi0:decide (i > 0) with
     | false=>rw [hi0] at h2; cases h2
     | true =>
      have hi0':=of_decide_eq_true hi0
      rw [hi0] at h2
      have h2:decide (n≤(rd .task s.W.T (IntKind.i64.wrap (i-1))).ID)=true:=h2
      have:=of_decide_eq_true h2
      rw [wrap_fits (n:=i-1) (by omega) (by omega)] at this
      have:=h5 _ (rd_mem' (r:=.task) (i:=i-1) (by omega) (by omega))
      omega
   | false =>
    rw [show (i == ((putV s n f).W.T.length:Int))=false from he] at h2
    have hne:=beq_eq_false_iff_ne.1 he
    have hlt:i < (s.W.T.length:Int):=by
     rcases hn with ⟨_,h4⟩ | ⟨_,h4,_⟩ <;> omega
    have h2:badO (putV s n f) i=true:=h2
    unfold badO at h2
    rw [ea] at h2
    have hst:(putV s n f).W.T=s.W.T:=rfl
    rw [hst] at h2
    have hid:(aimP s.W.T n f i).ID=(rd .task s.W.T i).ID:=by
     unfold aimP
     rw [decide_eq_true hlt]
     rfl
    obtain ⟨c1,c2,c3⟩:=hc i h0 hlt
    have e1:(aimP s.W.T n f i).S=(rd .fix f i).S:=rfl
    rw [hid,e1,c1,c2,c3] at h2
    simp at h2
 ·show testV ((aimsP s.W.T n f).map fixA)=true
  rw [aimsP_fix]
  exact ht
theorem put_may {s : Fu.Serv} {n : Int} {f : List Fu.Fix} (hs : safeW s.W = true) (hi : 0 ≤ s.NextID ∧ s.NextID ≤ 65536) (ha : 0 ≤ s.NextAp ∧ s.NextAp ≤ 65536) (hT : ∀ t ∈ s.W.T, t.ID < s.NextID) (hA : ∀ a ∈ s.W.A, a.ID < s.NextAp)
    (hf:f.length≤4) (hn:newOK s n f) (hc:sameC s f) (ht:testV f=true):mayE (putV s n f)=true:=by
  have hb:=byV_range hs
  have hnow:=(mayW_iff.1 (safe_may hs)).1
  refine mayE_iff.2 ⟨⟨hs,hi,ha⟩,⟨atIm_none.2 hT,atIv_none.2 hA⟩,(askE_on rfl).2 ⟨⟨hnow.1,Int.le_refl _⟩,⟨hb.1,?_⟩,?_,put_aims hf hn hc ht⟩⟩
  · show byV s≤1099511627776
    omega
  · show -1≤n
    rcases hn with ⟨h,_⟩ | ⟨⟨h,_⟩,_⟩ <;> omega
end Go.Fx
namespace Go.Fx
open Go Go.Proofs
theorem rd_left {r:RTy} {xs ys:List r.carrier} {i:Int} (h0:0≤i) (h1:i < xs.length):rd r (xs ++ ys) i=rd r xs i:=by
 obtain ⟨n,rfl⟩:∃ n:Nat,i=n:=⟨i.toNat,by omega⟩
 rw [rd_of (xs:=xs ++ ys) (by rw [List.length_append]; omega),rd_of (xs:=xs) (by omega),List.getElem_append_left]
theorem rd_last {r:RTy} {xs:List r.carrier} {x:r.carrier}:rd r (xs ++ [x]) xs.length=x:=by
 rw [rd_of (xs:=xs ++ [x]) (by simp)]
 simp
theorem rd_upd {r:RTy} {xs:List r.carrier} {k i:Int} {x:r.carrier} (k0:0≤k) (k1:k < xs.length) (h0:0≤i) (h1:i < xs.length):rd r (upd r xs k x) i=if i=k then x else rd r xs i:=by
 obtain ⟨n,rfl⟩:∃ n:Nat,i=n:=⟨i.toNat,by omega⟩
 obtain ⟨m,rfl⟩:∃ m:Nat,k=m:=⟨k.toNat,by omega⟩
 rw [rd_of (xs:=upd r xs m x) (by rw [upd_len]; omega),rd_of (xs:=xs) (by omega)]
 unfold upd
 simp only [Int.toNat_natCast]
 rw [List.getElem_set]
 by_cases h:m=n
 ·rw [if_pos h,if_pos (by omega)]
 ·rw [if_neg h,if_neg (by omega)]
theorem rd_succ {r:RTy} {x:r.carrier} {xs:List r.carrier} {n:Nat}:rd r (x :: xs) ((n+1:Nat):Int)=rd r xs n:=by
 unfold rd
 simp only [Int.toNat_natCast]
 rfl
def okA (t:Fu.Task) (a:Fu.Aim):Prop:=a.ID=t.ID∧a.S.C=t.S.C∧a.S.M=t.S.M∧a.S.K=t.S.K
def algn (P:List Fu.Aim→Prop):List Fu.Task→List Fu.Aim→Prop
 | [],L=>P L
 | t :: T,a :: L=>okA t a∧algn P T L
 | _ :: _,[]=>False
theorem algn_iff {P:List Fu.Aim→Prop}:∀ {T:List Fu.Task} {L:List Fu.Aim},algn P T L↔T.length≤L.length∧(∀ n:Nat,n < T.length→okA (rd .task T n) (rd .aim L n))∧P (L.drop T.length)
 | [],L=>⟨fun h=>⟨Nat.zero_le _,fun n h=>absurd h (Nat.not_lt_zero _),h⟩,fun h=>h.2.2⟩
 | t :: T,[]=>⟨fun h=>h.elim,fun h=>absurd h.1 (by simp)⟩
 | t :: T,a :: L=>by
  constructor
  ·rintro ⟨h1,h2⟩
   obtain ⟨k1,k2,k3⟩:=algn_iff.1 h2
   refine ⟨Nat.succ_le_succ k1,fun n hn=>?_,k3⟩
   cases n with
   | zero=>exact h1
   | succ n =>
    rw [rd_succ (r:=.task),rd_succ (r:=.aim)]
    exact k2 n (Nat.lt_of_succ_lt_succ hn)
  ·rintro ⟨h1,h2,h3⟩
   refine ⟨h2 0 (Nat.succ_pos _),algn_iff.2 ⟨Nat.le_of_succ_le_succ h1,fun n hn=>?_,h3⟩⟩
   have:=h2 (n+1) (Nat.succ_lt_succ hn)
   rwa [rd_succ (r:=.task),rd_succ (r:=.aim)] at this
def newP (s:Fu.Serv) (T:List Fu.Task) (L:List Fu.Aim):Prop:=(s.R.New = -1∧L=[])∨((0≤s.R.New∧s.R.New < s.NextID)∧(∀ t ∈ T,t.ID < s.R.New)∧∃ a,L=[a]∧a.ID=s.R.New)
theorem many_of {s:Fu.Serv} (h:newP s s.W.T (s.R.L.drop s.W.T.length)) (hl:s.W.T.length≤s.R.L.length):(s.R.L.length:Int)=manyV s:=by
 have hd:=List.length_drop (i:=s.W.T.length) (l:=s.R.L)
 unfold manyV
 rcases h with ⟨h1,h2⟩ | ⟨⟨h1,_⟩,_,a,h2,_⟩
 ·rw [h1]
  rw [h2] at hd
  show _=(s.W.T.length:Int)
  simp at hd
  omega
 ·rw [show (s.R.New != -1)=true from bne_iff_ne.2 (by omega)]
  rw [h2] at hd
  show _=(s.W.T.length:Int)+1
  simp at hd
  omega
theorem drop_one {L:List Fu.Aim} {k:Nat} (h:L.length=k+1):L.drop k=[rd .aim L k]:=by
 have h1:=drop_rd (r:=.aim) (xs:=L) (i:=(k:Int)) (by omega) (by omega)
 rw [Int.toNat_natCast] at h1
 rw [h1,drop_end (by omega)]
theorem aims_iff {s:Fu.Serv} (ha:ascT s.W.T=true) (hn:-1≤s.R.New):aimsV s=true↔(s.R.L.length≤4∧algn (newP s s.W.T) s.W.T s.R.L)∧testV (s.R.L.map fixA)=true:=by
 rw [aimsV_iff]
 constructor
 ·rintro ⟨⟨h1,h2⟩,h3,h4⟩
  refine ⟨⟨by omega,algn_iff.2 ⟨?_,fun n hn=>?_,?_⟩⟩,h4⟩
  ·unfold manyV at h1
   cases hb:(s.R.New != -1) <;> rw [hb] at h1 <;> simp only [cond_true,cond_false] at h1 <;> omega
  ·have hl:n < s.R.L.length:=by
    unfold manyV at h1
    cases hb:(s.R.New != -1) <;> rw [hb] at h1 <;> simp only [cond_true,cond_false] at h1 <;> omega
   have:=firstP_none h3 n (by omega) (by omega)
   unfold badA at this
   rw [show ((n:Int) == (s.W.T.length:Int))=false from beq_eq_false_iff_ne.2 (by omega)] at this
   have this:badO s n=false:=this
   unfold badO at this
   simp only [Bool.or_eq_false_iff,bne_eq_false_iff_eq] at this
   exact this
  ·by_cases hb:s.R.New = -1
   ·refine .inl ⟨hb,List.drop_eq_nil_of_le ?_⟩
    unfold manyV at h1
    rw [hb] at h1
    have h1:(s.R.L.length:Int)=s.W.T.length:=h1
    omega
   ·have hl:(s.R.L.length:Int)=s.W.T.length+1:=by
     unfold manyV at h1
     rw [show (s.R.New != -1)=true from bne_iff_ne.2 hb] at h1
     exact h1
    have:=firstP_none h3 s.W.T.length (by omega) (by omega)
    unfold badA at this
    rw [show ((s.W.T.length:Int) == (s.W.T.length:Int))=true from beq_self_eq_true _] at this
    have this:badN s s.W.T.length=false:=this
    unfold badN at this
    rw [Bool.or_eq_false_iff,Bool.or_eq_false_iff,bne_eq_false_iff_eq,decide_eq_false_iff_not] at this
    obtain ⟨q1,q2,q3⟩:=this
    refine .inr ⟨⟨by omega,by omega⟩,fun t ht=>?_,_,drop_one (by omega),q1⟩
    obtain ⟨i,⟨i0,i1⟩,e⟩:=memRd (r:=.task) ht
    have hpos:(s.W.T.length:Int) > 0:=by omega
    rw [decide_eq_true hpos,cond_true,Bool.or_eq_false_iff,decide_eq_false_iff_not,wrap_fits (n:=(s.W.T.length:Int)-1) (by omega) (by omega)] at q3
    have hle:(rd .task s.W.T i).ID≤(rd .task s.W.T ((s.W.T.length:Int)-1)).ID:=by
     rcases Int.lt_or_le i ((s.W.T.length:Int)-1) with hl | hl
     ·exact Int.le_of_lt (asc_rd ha i0 hl (by omega))
     ·rw [show i=(s.W.T.length:Int)-1 by omega]
      exact Int.le_refl _
    rw [← e]
    omega
 ·rintro ⟨⟨h1,h2⟩,h4⟩
  obtain ⟨k1,k2,k3⟩:=algn_iff.1 h2
  have hm:=many_of k3 k1
  refine ⟨⟨hm,by omega⟩,?_,h4⟩
  cases hp:firstP (badA s) s.R.L.length 0 with
  | none=>rfl
  | some i =>
   obtain ⟨⟨i0,i1⟩,h2,_⟩:=firstP_some hp
   obtain ⟨n,rfl⟩:∃ n:Nat,i=n:=⟨i.toNat,by omega⟩
   have hd:=List.length_drop (i:=s.W.T.length) (l:=s.R.L)
   unfold badA at h2
   cases he:((n:Int) == (s.W.T.length:Int)) with
   | true =>
    have hei:=eq_of_beq he
    rw [he] at h2
    have h2:badN s n=true:=h2
    rcases k3 with ⟨q1,q2⟩ | ⟨⟨q1,q2⟩,q3,a,q4,q5⟩
    ·rw [q2] at hd; simp at hd; omega
    ·have hdr:=drop_one (L:=s.R.L) (k:=s.W.T.length) (by rw [q4] at hd; simp at hd; omega)
     have hra:rd .aim s.R.L (n:Int)=a:=by
      have:=hdr.symm.trans q4
      rw [hei]
      simpa using this
     unfold badN at h2
     rw [hra,q5,bne_self_eq_false,decide_eq_false (show ¬ s.R.New≥s.NextID by omega),decide_eq_false (show ¬ s.R.New < 0 by omega),Bool.or_false] at h2
     cases hi0:decide ((n:Int) > 0) with
     | false=>rw [hi0] at h2; cases h2
     | true =>
      have hi0':=of_decide_eq_true hi0
      rw [hi0] at h2
      have h2:decide (s.R.New≤(rd .task s.W.T (IntKind.i64.wrap ((n:Int)-1))).ID)=true:=h2
      have:=of_decide_eq_true h2
      have hl4:n≤4:=by omega
      rw [wrap_fits (n:=(n:Int)-1) (by omega) (by omega)] at this
      have:=q3 _ (rd_mem' (r:=.task) (i:=(n:Int)-1) (by omega) (by omega))
      omega
   | false =>
    rw [he] at h2
    have hne:=beq_eq_false_iff_ne.1 he
    have h2:badO s n=true:=h2
    have hlt:n < s.W.T.length:=by
     rcases k3 with ⟨_,q2⟩ | ⟨_,_,a,q4,_⟩
     ·rw [q2] at hd; simp at hd; omega
     ·rw [q4] at hd; simp at hd; omega
    obtain ⟨c0,c1,c2,c3⟩:=k2 n hlt
    unfold badO at h2
    rw [c0,c1,c2,c3] at h2
    simp at h2
theorem algn_filter {P Q:List Fu.Aim→Prop} {id:Int} (hP:∀ L,P L→Q (dropAM id L)):∀ {T:List Fu.Task} {L:List Fu.Aim},algn P T L→algn Q (dropAT id T) (dropAM id L)
 | [],L,h=>hP L h
 | t :: T,[],h=>h.elim
 | t :: T,a :: L,⟨h1,h2⟩=>by
  have ih:=algn_filter hP h2
  unfold dropAT dropAM qIl qIo at ih ⊢
  rw [List.filter_cons,List.filter_cons,h1.1]
  cases hb:(t.ID == id) with
  | true=>exact ih
  | false=>exact ⟨h1,ih⟩
theorem dropAT_sub (id:Int) (T:List Fu.Task):List.Sublist (dropAT id T) T:=List.filter_sublist
theorem dropAM_sub (id:Int) (L:List Fu.Aim):List.Sublist (dropAM id L) L:=List.filter_sublist
theorem newP_T {s:Fu.Serv} (h:mayE s=true):(∀ t ∈ s.W.T,t.ID < s.NextID)∧(∀ a ∈ s.W.A,a.ID < s.NextAp)∧ascT s.W.T=true:=by
 obtain ⟨h1,h2⟩:=mayE_ids h
 exact ⟨atIm_none.1 h1,atIv_none.1 h2,mayW_asc (safeE_may h)⟩
theorem join_no {s:Fu.Serv} {p:Fu.Spec} (h:(joinR s p).2≠0):(joinR s p).1=(s,-1):=by
 unfold joinR at h ⊢
 cases h1:(joinW s != 0) with
 | true=>rfl
 | false =>
  cases h2:((targetV (specsJ s p)).2 != 0) with
  | true=>rfl
  | false=>rw [h1,h2] at h; exact absurd rfl h
theorem join_ok {s:Fu.Serv} {p:Fu.Spec} (h:(joinR s p).2=0):(mayE s=true∧s.R.On=false)∧(s.W.T.length < 4∧s.NextID≠65536)∧(targetV (specsJ s p)).2=0∧(joinR s p).1=(putV { s with NextID:=s.NextID+1 } s.NextID (targetV (specsJ s p)).1,s.NextID):=by
 unfold joinR at h ⊢
 cases h1:(joinW s != 0) with
 | true =>
  rw [h1] at h
  have h:joinW s=0:=h
  rw [h] at h1
  exact absurd h1 (by decide)
 | false =>
  rw [h1] at h
  obtain ⟨hr,hf⟩:=first2_zero h1
  cases h2:((targetV (specsJ s p)).2 != 0) with
  | true =>
   rw [h2] at h
   have h:(targetV (specsJ s p)).2=0:=h
   rw [h] at h2
   exact absurd h2 (by decide)
  | false =>
   have:=fullE_zero hf
   exact ⟨readyE_zero hr,⟨by omega,this.2⟩,bne_eq_false_iff_eq.1 h2,rfl⟩
theorem specs_rd (s:Fu.Serv) {i:Int} (h0:0≤i) (h1:i < s.W.T.length):rd .spec (specsV s) i=(rd .task s.W.T i).S:=rd_map (r:=.task) (q:=.spec) (fun t=>t.S) h0 h1
theorem specsV_len (s:Fu.Serv):(specsV s).length=s.W.T.length:=by simp [specsV]
theorem join_may {s:Fu.Serv} {p:Fu.Spec} (h:mayE s=true):mayE (joinR s p).1.1=true:=by
 by_cases he:(joinR s p).2=0
 ·obtain ⟨⟨hm,hoff⟩,⟨hl,hn⟩,ht,e⟩:=join_ok he
  obtain ⟨hT,hA,hasc⟩:=newP_T h
  obtain ⟨q1,q2,q3⟩:=targetV_ok ht
  obtain ⟨r1,r2,r3⟩:=mayE_safe h
  have hlen:(specsJ s p).length=s.W.T.length+1:=by unfold specsJ; rw [List.length_append,specsV_len]; rfl
  rw [e]
  have hnid:0≤s.NextID:=r2.1
  rw [q2]
  refine put_may (s:={ s with NextID:=s.NextID+1 }) r1 ⟨by simp only; omega,by simp only; omega⟩ r3 (fun t ht=>by have:=hT t ht; simp only; omega) hA (by rw [fixesV_len]; omega) (.inr ⟨⟨hnid,by simp only; omega⟩,by rw [fixesV_len]; exact hlen,hT⟩) (fun i i0 i1=>?_) q3
  have i1:i < (s.W.T.length:Int):=i1
  rw [fixesV_S _ _ i0 (by rw [hlen]; omega)]
  have e2:rd .spec (specsJ s p) i=(rd .task s.W.T i).S:=by
   unfold specsJ
   rw [rd_left i0 (by rw [specsV_len]; exact i1),specs_rd s i0 i1]
  rw [e2]
  exact ⟨rfl,rfl,rfl⟩
 ·rw [join_no he]
  exact h
theorem rate_no {s:Fu.Serv} {id t h:Int} (hn:(rateR s id t h).2≠0):(rateR s id t h).1=s:=by
 unfold rateR at hn ⊢
 cases h1:(rateE s id != 0) with
 | true=>rfl
 | false =>
  cases h2:(rateQ s id t h).2 with
  | false=>rfl
  | true =>
   cases h3:((targetV (rateL s id t h)).2 != 0) with
   | true=>rfl
   | false=>rw [h1,h2,h3] at hn; exact absurd rfl hn
theorem rate_ok {s:Fu.Serv} {id t h:Int} (hz:(rateR s id t h).2=0):(mayE s=true∧s.R.On=false)∧atIa s.W.T id≠-1∧(rateQ s id t h).2=true∧(targetV (rateL s id t h)).2=0∧(rateR s id t h).1=putV s (-1) (targetV (rateL s id t h)).1:=by
 unfold rateR at hz ⊢
 cases h1:(rateE s id != 0) with
 | true =>
  rw [h1] at hz
  have hz:rateE s id=0:=hz
  rw [hz] at h1
  exact absurd h1 (by decide)
 | false =>
  rw [h1] at hz
  obtain ⟨hr,hf⟩:=first2_zero h1
  cases h2:(rateQ s id t h).2 with
  | false=>rw [h2] at hz; exact absurd hz (by show ¬ (1:Int)=0; decide)
  | true =>
   rw [h2] at hz
   cases h3:((targetV (rateL s id t h)).2 != 0) with
   | true =>
    rw [h3] at hz
    have hz:(targetV (rateL s id t h)).2=0:=hz
    rw [hz] at h3
    exact absurd h3 (by decide)
   | false=>exact ⟨readyE_zero hr,beq_eq_false_iff_ne.1 (whenE_zero (by decide) hf),rfl,bne_eq_false_iff_eq.1 h3,rfl⟩
theorem stretch_ok {q:Fu.Spec} {t h:Int} (hs:(stretchV q t h).2=true):(stretchV q t h).1=stSp q t h∧mayS q=true∧mayS (stSp q t h)=true:=by
 unfold stretchV at hs ⊢
 cases hb:(!mayS q || !mayS (stSp q t h)) with
 | true=>rw [hb] at hs; cases hs
 | false =>
  rw [Bool.or_eq_false_iff,Bool.not_eq_false',Bool.not_eq_false'] at hb
  exact ⟨rfl,hb.1,hb.2⟩
theorem rate_may {s:Fu.Serv} {id t h:Int} (hm:mayE s=true):mayE (rateR s id t h).1=true:=by
 by_cases he:(rateR s id t h).2=0
 ·obtain ⟨⟨_,hoff⟩,hat,hq,ht,e⟩:=rate_ok he
  obtain ⟨hT,hA,hasc⟩:=newP_T hm
  obtain ⟨q1,q2,q3⟩:=targetV_ok ht
  obtain ⟨r1,r2,r3⟩:=mayE_safe hm
  obtain ⟨⟨a0,a1⟩,_⟩:=atIa_some hat
  have hlen:(rateL s id t h).length=s.W.T.length:=by unfold rateL; rw [upd_len,specsV_len]
  have hT4:=(mayW_iff.1 (safe_may r1)).2.1
  rw [e,q2]
  refine put_may r1 r2 r3 hT hA (by rw [fixesV_len]; omega) (.inl ⟨rfl,by rw [fixesV_len]; exact hlen⟩) (fun i i0 i1=>?_) q3
  rw [fixesV_S _ _ i0 (by rw [hlen]; exact i1)]
  unfold rateL
  rw [rd_upd a0 (by rw [specsV_len]; exact a1) i0 (by rw [specsV_len]; exact i1)]
  by_cases hi:i=atIa s.W.T id
  ·rw [if_pos hi]
   unfold rateQ at hq ⊢
   rw [(stretch_ok hq).1,hi,specs_rd s a0 a1]
   exact ⟨rfl,rfl,rfl⟩
  ·rw [if_neg hi,specs_rd s i0 i1]
   exact ⟨rfl,rfl,rfl⟩
 ·rw [rate_no he]
  exact hm
theorem clear_may {s:Fu.Serv} (h:mayE s=true) {w:Fu.World} (hw:safeW w=true) (hT:∀ t ∈ w.T,t.ID < s.NextID) (hA:∀ a ∈ w.A,a.ID < s.NextAp):mayE { s with W:=w,R:=clearR }=true:=by
 obtain ⟨_,r2,r3⟩:=mayE_safe h
 exact mayE_iff.2 ⟨⟨hw,r2,r3⟩,⟨atIm_none.2 hT,atIv_none.2 hA⟩,(askE_off rfl).2 ⟨rfl,rfl,rfl,rfl⟩⟩
theorem drop_may {s:Fu.Serv} {id:Int} (h:mayE s=true) (hf:freshE s id=false):mayE (dropS s id)=true:=by
 obtain ⟨r1,r2,r3⟩:=mayE_safe h
 obtain ⟨hT,hA,hasc⟩:=newP_T h
 have hs:safeW { s.W with T:=dropAT id s.W.T }=true:=safe_sub (dropAT_sub id s.W.T) r1
 refine mayE_iff.2 ⟨⟨hs,r2,r3⟩,⟨atIm_none.2 fun t ht=>hT t ((dropAT_sub id s.W.T).subset ht),atIv_none.2 hA⟩,?_⟩
 have ha:=(mayE_iff.1 h).2.2
 cases hon:s.R.On with
 | false =>
  obtain ⟨a1,a2,a3,a4⟩:=(askE_off hon).1 ha
  refine (askE_off (s:=dropS s id) hon).2 ⟨a1,a2,a3,?_⟩
  show dropAM id s.R.L=[]
  rw [a4]
  rfl
 | true =>
  obtain ⟨a1,a2,a3,a4⟩:=(askE_on hon).1 ha
  obtain ⟨⟨b1,b2⟩,b3⟩:=(aims_iff hasc a3).1 a4
  refine (askE_on (s:=dropS s id) hon).2 ⟨a1,a2,a3,(aims_iff (s:=dropS s id) (mayW_asc (safe_may hs)) a3).2 ⟨⟨Nat.le_trans (dropAM_sub id s.R.L).length_le b1,?_⟩,test_sub ((dropAM_sub id s.R.L).map fixA) b3⟩⟩
  refine algn_filter (fun L hL=>?_) b2
  rcases hL with ⟨c1,c2⟩ | ⟨c1,c2,a,c3,c4⟩
  ·exact .inl ⟨c1,by rw [c2]; rfl⟩
  ·refine .inr ⟨c1,fun t ht=>c2 t ((dropAT_sub id s.W.T).subset ht),a,?_,c4⟩
   have hne:(a.ID == id)=false:=by
    unfold freshE at hf
    rw [hon,Bool.true_and] at hf
    rw [c4]
    cases hb:(s.R.New == id) with
    | false=>rfl
    | true =>
     rw [hb,Bool.true_and] at hf
     have h1:=eq_of_beq hb
     have h2:id = -1:=bne_eq_false_iff_eq.1 hf
     omega
   rw [c3]
   unfold dropAM qIo
   rw [List.filter_cons,hne]
   rfl
theorem leave_may {s:Fu.Serv} {id:Int} (h:mayE s=true):mayE (leaveR s id).1=true:=by
 unfold leaveR
 obtain ⟨hT,hA,_⟩:=newP_T h
 cases h1:(leaveE s id != 0) with
 | true=>exact h
 | false =>
  cases h2:freshE s id with
  | true=>exact clear_may (w:=s.W) h (mayE_safe h).1 hT hA
  | false=>exact drop_may h h2
theorem aims_low {s:Fu.Serv} (h:mayE s=true) (hon:s.R.On=true):∀ a ∈ s.R.L,a.ID < s.NextID:=by
 obtain ⟨hT,hA,hasc⟩:=newP_T h
 obtain ⟨_,_,a3,a4⟩:=(askE_on hon).1 (mayE_iff.1 h).2.2
 obtain ⟨⟨_,b2⟩,_⟩:=(aims_iff hasc a3).1 a4
 have:∀ (T:List Fu.Task) (L:List Fu.Aim),(∀ t ∈ T,t.ID < s.NextID)→algn (newP s s.W.T) T L→∀ a ∈ L,a.ID < s.NextID:=by
  intro T
  induction T with
  | nil =>
   intro L _ hP a ha
   rcases hP with ⟨_,c2⟩ | ⟨c1,_,b,c3,c4⟩
   ·rw [c2] at ha; cases ha
   ·rw [c3] at ha
    have:a=b:=by simpa using ha
    rw [this,c4]
    exact c1.2
  | cons t T ih =>
   intro L hT hL a ha
   cases L with
   | nil=>cases ha
   | cons b L =>
    rcases List.mem_cons.1 ha with rfl | ha
    ·have h1:a.ID=t.ID:=hL.1.1
     rw [h1]
     exact hT t (by simp)
    ·exact ih L (fun u hu=>hT u (by simp [hu])) hL.2 a ha
 exact this _ _ hT b2
def keepK (t u:Fu.Task):Prop:=u.J=t.J∧u.At=t.At∧u.H=t.H∧u.P=t.P
def keepT (T T':List Fu.Task):Prop:=T.length≤T'.length∧∀ i:Int,0≤i→i < T.length→keepK (rd .task T i) (rd .task T' i)
theorem keep_turn (t:Fu.Task) (q:Fu.Spec) (p:Int):keepK t (turnK t q p):=by
 unfold turnK
 cases turnOK t q p <;> exact ⟨rfl,rfl,rfl,rfl⟩
theorem newKR_ID {id:Int} {q:Fu.Spec} {p now:Int} (h:mayK (newK id q p now) now=true):newKR id q p now=newK id q p now:=by
 unfold newKR
 rw [h]
 rfl
theorem try_step {s:Fu.Serv} {T T':List Fu.Task} {i:Int} (h0:0≤i) (h1:i < s.R.L.length) (hk:keepT T T') (hid:∀ t ∈ T',t.ID < s.NextID) (ha:∀ a ∈ s.R.L,a.ID < s.NextID):keepT T (nxtTr (s,T') i).2∧∀ t ∈ (nxtTr (s,T') i).2,t.ID < s.NextID:=by
 unfold nxtTr
 simp only
 cases hb:decide (i < (T'.length:Int)) with
 | true =>
  have hi:=of_decide_eq_true hb
  refine ⟨⟨by rw [cond_true,upd_len]; exact hk.1,fun j j0 j1=>?_⟩,fun t ht=>?_⟩
  ·have hl:=hk.1
   rw [cond_true,rd_upd h0 hi j0 (by omega)]
   obtain ⟨q1,q2,q3,q4⟩:=hk.2 j j0 j1
   by_cases hji:j=i
   ·rw [if_pos hji,← hji]
    obtain ⟨p1,p2,p3,p4⟩:=keep_turn (rd .task T' j) (rd .aim s.R.L j).S (rd .aim s.R.L j).P
    exact ⟨p1.trans q1,p2.trans q2,p3.trans q3,p4.trans q4⟩
   ·rw [if_neg hji]
    exact ⟨q1,q2,q3,q4⟩
  ·rw [cond_true] at ht
   obtain ⟨j,⟨j0,j1⟩,e⟩:=memRd (r:=.task) ht
   rw [upd_len] at j1
   rw [rd_upd h0 hi j0 j1] at e
   by_cases hji:j=i
   ·rw [if_pos hji] at e
    rw [← e,(turn_J _ _ _).2]
    exact hid _ (rd_mem' (r:=.task) h0 hi)
   ·rw [if_neg hji] at e
    rw [← e]
    exact hid _ (rd_mem' (r:=.task) j0 j1)
 | false =>
  rw [cond_false]
  cases hm:mayK (newK (rd .aim s.R.L i).ID (rd .aim s.R.L i).S (rd .aim s.R.L i).P s.W.Now) s.W.Now with
  | false=>exact ⟨hk,hid⟩
  | true =>
   rw [cond_true]
   refine ⟨⟨by rw [List.length_append]; have:=hk.1; omega,fun j j0 j1=>?_⟩,fun t ht=>?_⟩
   ·have hl:=hk.1
    rw [rd_left (r:=.task) j0 (by omega)]
    exact hk.2 j j0 j1
   ·rcases List.mem_append.1 ht with ht | ht
    ·exact hid t ht
    ·have:t=newKR (rd .aim s.R.L i).ID (rd .aim s.R.L i).S (rd .aim s.R.L i).P s.W.Now:=by simpa using ht
     rw [this,newKR_ID hm]
     exact ha _ (rd_mem' (r:=.aim) h0 h1)
theorem try_fold {s : Fu.Serv} {T : List Fu.Task} (ha : ∀ a ∈ s.R.L, a.ID < s.NextID) (k : Nat) : ∀ (T' : List Fu.Task) (i : Int), 0 ≤ i → i + k = s.R.L.length → keepT T T' → (∀ t ∈ T', t.ID < s.NextID) →
    keepT T (foldI nxtTr k (s,T') i).2∧∀ t ∈ (foldI nxtTr k (s,T') i).2,t.ID < s.NextID:=by
  induction k with
  | zero=>intro T' i _ _ h1 h2; exact ⟨h1,h2⟩
  | succ k ih =>
    intro T' i h0 h1 h2 h3
    obtain ⟨k1,k2⟩:=try_step h0 (by omega) h2 h3 ha
    exact ih (nxtTr (s,T') i).2 (i+1) (by omega) (by omega) k1 k2
theorem try_keep {s:Fu.Serv} (h:mayE s=true):keepT s.W.T (tryV s).1.T∧(∀ t ∈ (tryV s).1.T,t.ID < s.NextID)∧(tryV s).1.A=s.W.A∧(tryV s).1.Now=s.W.Now∧(tryV s).1.Cur=s.W.Cur:=by
 obtain ⟨hT,hA,hasc⟩:=newP_T h
 have hk:keepT s.W.T s.W.T:=⟨Nat.le_refl _,fun _ _ _=>⟨rfl,rfl,rfl,rfl⟩⟩
 unfold tryV
 rw [h]
 cases hon:s.R.On with
 | false=>exact ⟨hk,hT,rfl,rfl,rfl⟩
 | true =>
  obtain ⟨k1,k2⟩:=try_fold (s:=s) (aims_low h hon) ((s.R.L.length:Int)-0).toNat s.W.T 0 (Int.le_refl _) (by omega) hk hT
  exact ⟨k1,k2,rfl,rfl,rfl⟩
theorem try_safe {s:Fu.Serv} (h:(tryV s).2=true):safeW (tryV s).1=true∧mayE s=true∧s.R.On=true:=by
 unfold tryV at h ⊢
 cases hb:(!mayE s || !s.R.On) with
 | true=>rw [hb] at h; cases h
 | false =>
  rw [hb] at h
  rw [Bool.or_eq_false_iff,Bool.not_eq_false',Bool.not_eq_false'] at hb
  exact ⟨h,hb⟩
theorem move_may {s:Fu.Serv} (h:mayE s=true):mayE (moveV s).1=true:=by
 unfold moveV
 cases hb:(tryV s).2 with
 | false=>exact h
 | true =>
  obtain ⟨_,k2,k3,_⟩:=try_keep h
  exact clear_may h (try_safe hb).1 k2 (by rw [k3]; exact (newP_T h).2.1)
theorem mayW_smallE {w:Fu.World} (h:mayW w=true):smallW w:=by
 have h1:=(mayW_iff.1 h).2.1
 have h2:=(mayA_iff.1 (mayW_iff.1 h).2.2.2.1).2.2.1
 exact ⟨by omega,by omega⟩
theorem mayE_small {s:Fu.Serv} (h:mayE s=true):smallS s:=by
 refine ⟨mayW_smallE (safeE_may h),?_⟩
 have ha:=(mayE_iff.1 h).2.2
 cases hon:s.R.On with
 | false =>
  rw [((askE_off hon).1 ha).2.2.2]
  decide
 | true =>
  have:=aimsV_iff.1 ((askE_on hon).1 ha).2.2.2
  omega
end Go.Fx
