import Derived.Test.YtdmlnbfejgdhaaaGreatC6
import Derived.Test.YtdmlnbfejgdhaaaGreatC7
import Derived.Test.YtdmlnbfejgdhaaaGreatC8
namespace Go.Fx
open Go
theorem mayW_iff {w:Fu.World}:mayW w=true↔(0≤w.Now∧w.Now≤274877906944)∧w.T.length≤4∧(-1≤w.Cur∧w.Cur≤549755813888)∧mayA w.A w.Now=true∧(∀ t ∈ w.T,tkOK w.Now t=true)∧ascT w.T=true∧ascA w.A=true:=by
 unfold mayW
 simp only [Bool.and_eq_true,Bool.not_eq_true',Bool.or_eq_false_iff,decide_eq_false_iff_not,Bool.not_eq_false',List.all_eq_true]
 constructor
 ·rintro ⟨⟨h1,h2,h3,h4,h5,h6⟩,⟨h7,h8⟩,h9⟩
  exact ⟨⟨by omega,by omega⟩,by omega,⟨by omega,by omega⟩,h6,h7,h8,h9⟩
 ·rintro ⟨⟨h1,h2⟩,h3,⟨h4,h5⟩,h6,h7,h8,h9⟩
  exact ⟨⟨by omega,by omega,by omega,by omega,by omega,h6⟩,⟨h7,h8⟩,h9⟩
theorem mayW_T {w:Fu.World} {T:List Fu.Task} (h:mayW w=true) (hl:T.length≤4) (ho:∀ t ∈ T,tkOK w.Now t=true) (ha:ascT T=true):mayW { w with T:=T }=true:=by
 obtain ⟨h1,_,h3,h4,_,_,h7⟩:=mayW_iff.1 h
 exact mayW_iff.2 ⟨h1,hl,h3,h4,ho,ha,h7⟩
theorem ascT_pair:∀ {l:List Fu.Task},ascT l=true↔l.Pairwise fun a b=>a.ID < b.ID
 | []=>by simp [ascT]
 | t :: l=>by
  constructor
  ·intro h
   exact List.pairwise_cons.2 ⟨ascT_lt l t h,ascT_pair.1 (ascT_tail h)⟩
  ·intro h
   obtain ⟨h1,h2⟩:=List.pairwise_cons.1 h
   cases l with
   | nil=>rfl
   | cons u l =>
    show (decide (t.ID < u.ID) && ascT (u :: l))=true
    rw [decide_eq_true (h1 u (by simp)),ascT_pair.2 h2]
    rfl
theorem sumS_sub {l l':List Int} (h:List.Sublist l' l) (hn:∀ x ∈ l,0≤x):0≤l'.sum∧l'.sum≤l.sum:=by
 induction h with
 | slnil=>simp
 | cons a _ ih =>
  have:=ih fun x hx=>hn x (List.mem_cons_of_mem _ hx)
  have:=hn a (by simp)
  rw [List.sum_cons]; omega
 | cons_cons a _ ih =>
  have:=ih fun x hx=>hn x (List.mem_cons_of_mem _ hx)
  have:=hn a (by simp)
  rw [List.sum_cons,List.sum_cons]; omega
theorem mayFs_sub {l l':List Fu.Fix} (h:List.Sublist l' l) (hm:mayFs l=true):mayFs l'=true:=by
 have h1:=mayFs_mem hm
 have h2:=fits_sum hm
 unfold mayFs fitsV sumV at hm ⊢
 simp only [Bool.and_eq_true,decide_eq_true_eq,List.all_eq_true] at hm ⊢
 obtain ⟨_,_,h3,h4⟩:=hm
 refine ⟨fun x hx=>h1.2 x (h.subset hx),?_,?_⟩
 ·have:=h.length_le; omega
 cases hc:(decide (((l.map unitF).length:Int) > 1000) || (l.map unitF).any outU) with
 | true=>rw [hc] at h3; cases h3
 | false =>
  rw [Bool.or_eq_false_iff,List.any_eq_false] at hc
  have hs:=h.map unitF
  have e:(decide (((l'.map unitF).length:Int) > 1000) || (l'.map unitF).any outU)=false:=by
   rw [Bool.or_eq_false_iff,List.any_eq_false]
   refine ⟨decide_eq_false ?_,fun x hx=>hc.2 x (hs.subset hx)⟩
   have:=h.length_le
   rw [List.length_map]; omega
  rw [e]
  have hp:∀ x ∈ l.map unitF,0≤x:=fun x hx=>by
   obtain ⟨y,hy,rfl⟩:=List.mem_map.1 hx
   have:=h1.2 y hy
   unfold mayF at this
   have:=of_decide_eq_true this
   unfold unitF; omega
  have:=sumS_sub hs hp
  exact ⟨rfl,by simp only [cond_false]; omega⟩
theorem test_sub {l l':List Fu.Fix} (h:List.Sublist l' l) (ht:testV l=true):testV l'=true:=by
 obtain ⟨h1,_⟩:=testV_iff.1 ht
 have h2:=mayFs_sub h h1
 have hr:=hzV_range h2
 refine testV_iff.2 ⟨h2,fun d h0 hd=>?_⟩
 have h3:=test_all ht h0 (by omega)
 have hp:∀ x ∈ l.map fun x=>ofV x d,0≤x:=fun x hx=>by
  obtain ⟨y,_,rfl⟩:=List.mem_map.1 hx
  exact (ofV_range y d).1
 have h4:=sumS_sub (h.map fun x=>ofV x d) hp
 unfold sumOf at *
 omega
theorem safe_sub {w:Fu.World} {T:List Fu.Task} (h:List.Sublist T w.T) (hs:safeW w=true):safeW { w with T:=T }=true:=by
 unfold safeW at hs ⊢
 simp only [Bool.and_eq_true] at hs ⊢
 obtain ⟨h1,h2,h3⟩:=hs
 obtain ⟨_,k2,_,_,k5,k6,_⟩:=mayW_iff.1 h1
 refine ⟨mayW_T h1 (by have:=h.length_le; omega) (fun t ht=>k5 t (h.subset ht)) (ascT_pair.2 ((ascT_pair.1 k6).sublist h)),?_,test_sub (h.map fixK) h3⟩
 obtain ⟨m,k1,_⟩:=look_less (n:=(lookL (w.T.map liveK) w.Now).1) (h.map liveK) (by rw [← h2])
 rw [k1]
theorem tkOK_iff {t:Fu.Task} {now:Int}:tkOK now t=true↔mayK t now=true∧(t.J.On=true→now < t.J.Due):=by
 unfold tkOK
 rw [Bool.and_eq_true]
 cases t.J.On <;> simp
theorem mayK_iff {t:Fu.Task} {now:Int}:mayK t now=true↔(0≤t.ID∧t.ID≤549755813888)∧(1≤t.P∧t.P≤48)∧ringOK t.H=true∧((0≤now∧now≤549755813888)∧LiveOK (liveK t) now)∧mayJ t.S t.J=true∧t.H.N=minI (overK t) 60:=by
 unfold mayK
 have e:mayL [liveK t] now=true↔(0≤now∧now≤549755813888)∧LiveOK (liveK t) now:=by
  rw [mayL_iff]; simp
 simp only [Bool.and_eq_true,Bool.not_eq_true',Bool.or_eq_false_iff,decide_eq_false_iff_not,Bool.not_eq_false',e,beq_iff_eq]
 constructor
 ·rintro ⟨⟨h1,h2,h3,h4,h5⟩,h6,h7,h8⟩
  exact ⟨⟨by omega,by omega⟩,⟨by omega,by omega⟩,h5,h6,h7,h8⟩
 ·rintro ⟨⟨h1,h2⟩,⟨h3,h4⟩,h5,h6,h7,h8⟩
  exact ⟨⟨by omega,by omega,by omega,by omega,h5⟩,h6,h7,h8⟩
theorem turn_J (t:Fu.Task) (s:Fu.Spec) (q:Int):(turnK t s q).J=t.J∧(turnK t s q).ID=t.ID:=by
 unfold turnK
 cases turnOK t s q <;> exact ⟨rfl,rfl⟩
theorem mayW_live {w:Fu.World} (h:mayW w=true):mayL (w.T.map liveK) w.Now=true:=by
 obtain ⟨h1,h2,_,_,h5,_⟩:=mayW_iff.1 h
 refine mayL_iff.2 ⟨by rw [List.length_map]; omega,by omega,fun x hx=>?_⟩
 obtain ⟨t,ht,rfl⟩:=List.mem_map.1 hx
 exact (mayK_iff.1 (tkOK_iff.1 (h5 t ht)).1).2.2.2.1.2
theorem ascT_ids {T T':List Fu.Task} (h:T'.map (·.ID)=T.map (·.ID)) (ha:ascT T=true):ascT T'=true:=by
 have h1:∀ l:List Fu.Task,ascT l=true↔(l.map (·.ID)).Pairwise (· < ·):=fun l=>by rw [ascT_pair,List.pairwise_map]
 rw [h1,h]
 exact (h1 T).1 ha
theorem lastD_range {t:Fu.Task} {now:Int} (h:tkOK now t=true) (d:List Int):1≤lastD t d∧lastD t d≤20:=by
 obtain ⟨h1,_⟩:=tkOK_iff.1 h
 obtain ⟨_,_,_,⟨_,k5⟩,_⟩:=mayK_iff.1 h1
 have hp:=perOK_P k5.1
 have hC:(liveK t).S.C=t.S.C:=rfl
 unfold lastD
 cases d with
 | nil=>simp only; omega
 | cons x d =>
  simp only
  cases hc:(decide (x < 1) || decide (x > 20)) with
  | true=>simp only [cond_true]; omega
  | false =>
   simp only [Bool.or_eq_false_iff,decide_eq_false_iff_not] at hc
   simp only [cond_false]; omega
theorem begOK_not {t:Fu.Task} {now:Int} (ha:t.At≠now) (n:Int):begOK t now n=false:=by
 unfold begOK
 have:(now != t.At)=true:=by simp; omega
 rw [this]
 simp
theorem lateM_eq (now:Int) (t:Fu.Task):lateM now t=(overJ t.J now && t.J.Mand):=by
 unfold lateM atF
 cases overJ t.J now <;> rfl
instance (j:Fu.Job):Decidable (smallC j):=by unfold smallC; infer_instance
end Go.Fx
namespace Go.Fx
open Go
theorem mem_rdT {T:List Fu.Task} {t:Fu.Task} (h:t ∈ T):∃ i:Int,0≤i∧i < T.length∧rd .task T i=t:=by
 obtain ⟨n,hn,rfl⟩:=List.mem_iff_getElem.1 h
 exact ⟨n,by omega,by omega,by simp [rd,hn]⟩
theorem rd_inT {T:List Fu.Task} {i:Int} (h0:0≤i) (h1:i < T.length):rd .task T i ∈ T:=by
 have hlt:i.toNat < T.length:=by omega
 have:rd .task T i=T[i.toNat]:=by simp [rd,hlt]
 rw [this]
 exact List.getElem_mem _
theorem rd_lives {T:List Fu.Task} {i:Int} (h0:0≤i) (h1:i < T.length):rd .live (T.map liveK) i=liveK (rd .task T i):=by
 have hlt:i.toNat < T.length:=by omega
 simp [rd,hlt]
theorem must_live (t:Fu.Task):mustJ (liveK t).J=mustJ t.J∧(liveK t).J.Due=t.J.Due:=by
 show mustJ (lookJ t)=_∧(lookJ t).Due=_
 unfold lookJ
 cases h:t.J.On with
 | true=>exact ⟨rfl,rfl⟩
 | false=>exact ⟨rfl,rfl⟩
theorem asc_inj {T:List Fu.Task} (h:ascT T=true) {t u:Fu.Task} (ht:t ∈ T) (hu:u ∈ T) (e:t.ID=u.ID):t=u:=by
 have hp:=ascT_pair.1 h
 induction T with
 | nil=>cases ht
 | cons a T ih =>
  obtain ⟨h1,h2⟩:=List.pairwise_cons.1 hp
  rcases List.mem_cons.1 ht with ht' | ht' <;> rcases List.mem_cons.1 hu with hu' | hu'
  ·rw [ht',hu']
  ·have:=h1 u hu'; rw [ht'] at e; omega
  ·have:=h1 t ht'; rw [hu'] at e; omega
  ·exact ih (ascT_tail h) ht' hu' h2
theorem must_spec (w:Fu.World):((mustW w).2=false∧∀ t ∈ w.T,mustJ t.J=false)∨∃ t ∈ w.T,mustW w=(t.ID,true)∧mustJ t.J=true∧∀ u ∈ w.T,mustJ u.J=true→t.J.Due≤u.J.Due:=by
 have hl:(livesW w).length=w.T.length:=by unfold livesW; simp
 have key:∀ {i:Int},0≤i→i < w.T.length→mustJ (jobAt (livesW w) i)=mustJ (rd .task w.T i).J∧(jobAt (livesW w) i).Due=(rd .task w.T i).J.Due:=fun {i} h0 h1=>by
  have e:jobAt (livesW w) i=(liveK (rd .task w.T i)).J:=by
   show (rd .live (livesW w) i).J=_
   unfold livesW
   rw [rd_lives h0 h1]
  rw [e]
  exact must_live _
 rcases firstL_spec (livesW w) with ⟨h1,h2⟩ | ⟨h1,h2,h3,h4⟩
 ·left
  refine ⟨by unfold mustW; rw [h1]; rfl,fun t ht=>?_⟩
  obtain ⟨i,i0,i1,rfl⟩:=mem_rdT ht
  rw [← (key i0 i1).1]
  exact h2 i i0 (by rw [hl]; exact i1)
 ·right
  rw [hl] at h2
  refine ⟨_,rd_inT h1 h2,?_,by rw [← (key h1 h2).1]; exact h3,fun u hu hm=>?_⟩
  ·unfold mustW
   have:(firstL (livesW w) == -1)=false:=by simp; omega
   rw [this]
   rfl
  ·obtain ⟨i,i0,i1,rfl⟩:=mem_rdT hu
   have:=h4 i i0 (by rw [hl]; exact i1) (by rw [(key i0 i1).1]; exact hm)
   rw [(key h1 h2).2,(key i0 i1).2] at this
   omega
theorem mustJ_iff {j:Fu.Job}:mustJ j=true↔j.On=true∧j.Mand=true∧0 < worst j:=by
 unfold mustJ; simp
theorem job_due {w:Fu.World} (hm:mayW w=true) {t:Fu.Task} (ht:t ∈ w.T):smallC t.J∧(t.J.On=true→1≤t.J.Due):=by
 obtain ⟨_,_,_,_,h5,_⟩:=mayW_iff.1 hm
 obtain ⟨_,_,_,⟨_,k5⟩,k6,_⟩:=mayK_iff.1 (tkOK_iff.1 (h5 t ht)).1
 have hp:=perOK_P k5.1
 have e:(liveK t).S.C=t.S.C:=rfl
 have hJ:JobOK t.S t.J:=of_decide_eq_true k6
 rcases hJ.2 with ⟨a1,a2⟩ | ⟨a1,_,a3,a4,_,a6,_⟩
 ·rw [a1,a2]
  exact ⟨by decide,fun h=>by cases h⟩
 ·exact ⟨⟨by omega,by omega,by omega,by omega⟩,fun _=>by omega⟩
end Go.Fx
namespace Go.Fx
open Go
theorem swp_perm {xs:List Fu.Ape} {k:Nat} (h:k+1 < xs.length):(swpA xs ((k:Int)+1) k).Perm xs:=by
 obtain ⟨pre,a,b,post,e,hl⟩:∃ pre a b post,xs=pre ++ a :: b :: post∧pre.length=k:=⟨xs.take k,xs[k],xs[k+1],xs.drop (k+2),by
  rw [← List.drop_eq_getElem_cons,← List.drop_eq_getElem_cons,List.take_append_drop],by simp; omega⟩
 subst e
 have e1:rd .ape (pre ++ a :: b :: post) (k:Int)=a:=by subst hl; exact rd_mid
 have e2:rd .ape (pre ++ a :: b :: post) ((k:Int)+1)=b:=by
  have:pre ++ a :: b :: post=(pre ++ [a]) ++ b :: post:=by simp
  rw [this,show (k:Int)+1=(((pre ++ [a]).length:Nat):Int) by simp [hl]]
  exact rd_mid
 unfold swpA
 rw [e1,e2]
 have e3:upd .ape (pre ++ a :: b :: post) ((k:Int)+1) a=pre ++ a :: a :: post:=by
  have:pre ++ a :: b :: post=(pre ++ [a]) ++ b :: post:=by simp
  rw [this,show (k:Int)+1=(((pre ++ [a]).length:Nat):Int) by simp [hl]]
  rw [upd_mid]
  simp
 rw [e3]
 have e4:upd .ape (pre ++ a :: a :: post) (k:Int) b=pre ++ b :: a :: post:=by subst hl; exact upd_mid
 rw [e4]
 exact List.Perm.append_left _ (List.Perm.swap _ _ _)
theorem sink_perm:∀ (k:Nat) (xs:List Fu.Ape),k < xs.length→(sinkA k xs).Perm xs
 | 0,xs,_=>.refl _
 | k+1,xs,h=>by
  unfold sinkA
  cases ltA (rd .ape xs ((k:Int)+1)) (rd .ape xs k) with
  | false=>exact .refl _
  | true=>exact (sink_perm k _ (by rw [swpA_len]; omega)).trans (swp_perm h)
theorem fold_perm:∀ (k:Nat) (xs:List Fu.Ape) (i:Int),0≤i→i+k≤xs.length→(foldI nxtOu k xs i).Perm xs
 | 0,_,_,_,_=>.refl _
 | k+1,xs,i,h0,h1=>(fold_perm k (sinkA i.toNat xs) (i+1) (by omega) (by rw [sinkA_len]; omega)).trans (sink_perm i.toNat xs (by omega))
theorem sortA_perm (xs:List Fu.Ape):(sortA xs).Perm xs:=by
 cases xs with
 | nil=>exact .refl _
 | cons a l=>exact fold_perm _ _ 1 (by omega) (by simp only [List.length_cons]; omega)
def idsA (l:List Fu.Ape):List Int:=l.map (·.ID)
def byA (l:List Fu.Ape):List (Int × Fu.Ape):=l.map fun a=>(a.ID,a)
theorem byA_keys (l:List Fu.Ape):mkeys (byA l)=idsA l:=by simp [mkeys,byA,idsA]
theorem mput_new {k:Int} {v:Fu.Ape}:∀ {es:List (Int × Fu.Ape)},k ∉ mkeys es→mput es k v=es ++ [(k,v)]
 | [],_=>rfl
 | (j,x) :: es,h=>by
  have h':k≠j∧k ∉ mkeys es:=by simpa [mkeys] using h
  unfold mput
  rw [if_neg (fun e=>h'.1 e.symm),mput_new h'.2]
  rfl
theorem mdel_last {k:Int} {v:Fu.Ape}:∀ {es:List (Int × Fu.Ape)},k ∉ mkeys es→mdel (es ++ [(k,v)]) k=es
 | [],_=>by simp [mdel]
 | (j,x) :: es,h=>by
  have h':k≠j∧k ∉ mkeys es:=by simpa [mkeys] using h
  show mdel ((j,x) :: (es ++ [(k,v)])) k=_
  unfold mdel
  rw [if_neg (fun e=>h'.1 e.symm),mdel_last h'.2]
theorem mdel_byA {k:Int}:∀ {l:List Fu.Ape},(idsA l).Nodup→mdel (byA l) k=byA (l.filter fun a=>a.ID != k)
 | [],_=>rfl
 | a :: l,h=>by
  have h':a.ID ∉ idsA l∧(idsA l).Nodup:=List.nodup_cons.1 h
  show mdel ((a.ID,a) :: byA l) k=_
  unfold mdel
  by_cases e:a.ID=k
  ·rw [if_pos e,List.filter_cons_of_neg (by simp [e])]
   have:l.filter (fun b=>b.ID != k)=l:=List.filter_eq_self.2 fun b hb=>by
    have:b.ID≠k:=fun e2=>h'.1 (by rw [e,← e2]; exact List.mem_map.2 ⟨b,hb,rfl⟩)
    simpa using this
   rw [this]
  ·rw [if_neg e,List.filter_cons_of_pos (by simp [e]),mdel_byA h'.2]
   rfl
theorem mget_byA {l:List Fu.Ape} (h:(idsA l).Nodup) {a:Fu.Ape} (ha:a ∈ l):mget (byA l) a.ID=some a:=by
 induction l with
 | nil=>cases ha
 | cons b l ih =>
  have h':b.ID ∉ idsA l∧(idsA l).Nodup:=List.nodup_cons.1 h
  show mget ((b.ID,b) :: byA l) a.ID=_
  unfold mget
  rcases List.mem_cons.1 ha with e | ha
  ·rw [e,if_pos rfl]
  ·rw [if_neg (fun e=>h'.1 (by rw [e]; exact List.mem_map.2 ⟨a,ha,rfl⟩))]
   exact ih h'.2 ha
theorem mget_mem {l:List Fu.Ape} {k:Int} {a:Fu.Ape} (h:mget (byA l) k=some a):a ∈ l∧a.ID=k:=by
 induction l with
 | nil=>cases h
 | cons b l ih =>
  have h:mget ((b.ID,b) :: byA l) k=some a:=h
  unfold mget at h
  by_cases e:b.ID=k
  ·rw [if_pos e] at h
   cases h
   exact ⟨by simp,e⟩
  ·rw [if_neg e] at h
   obtain ⟨h1,h2⟩:=ih h
   exact ⟨List.mem_cons_of_mem _ h1,h2⟩
theorem still_iff {l:List Fu.Ape} (h:(idsA l).Nodup) {a:Fu.Ape}:stillA (byA l) a=true↔a ∈ l:=by
 unfold stillA
 rw [Bool.and_eq_true,eqApeB_eq,decide_eq_true_eq]
 constructor
 ·rintro ⟨h1,h2⟩
  cases hg:mget (byA l) a.ID with
  | none=>rw [hg] at h1; cases h1
  | some b =>
   rw [hg] at h2
   have h2:a=b:=h2
   rw [h2]
   exact (mget_mem hg).1
 ·intro ha
  rw [mget_byA h ha]
  exact ⟨rfl,rfl⟩
def lateA (now:Int) (a:Fu.Ape):Bool:=decide (laxA a now < 0)
theorem pick1_fold (now cur : Int) : ∀ (A P : List Fu.Ape) (g : List Int), (idsA (P ++ A)).Nodup →
    A.foldl putA (now,cur,byA P,g)=(now,cur,byA (P ++ A.filter fun a=>!lateA now a),g ++ idsA (A.filter (lateA now)))
  | [],P,g,_=>by simp [idsA]
  | a :: A,P,g,h=>by
    have hk:a.ID ∉ mkeys (byA P):=by
      rw [byA_keys]
      have:(idsA P ++ a.ID :: idsA A).Nodup:=by simpa [idsA] using h
      have:=List.nodup_append.1 this
      exact fun hm=>this.2.2 _ hm _ (by simp) rfl
    rw [List.foldl_cons]
    have e:putA (now,cur,byA P,g) a=bif lateA now a then (now,cur,byA P,g ++ [a.ID]) else (now,cur,byA (P ++ [a]),g):=by
      unfold putA lateA
      simp only
      rw [mput_new hk]
      cases decide (laxA a now < 0) with
      | true=>simp only [cond_true]; rw [mdel_last hk]
      | false=>simp [byA]
    rw [e]
    cases hl:lateA now a with
    | true =>
      simp only [cond_true]
      have h':(idsA (P ++ A)).Nodup:=by
        refine h.sublist ?_
        simp only [idsA,List.map_append,List.map_cons]
        exact List.Sublist.append_left (List.sublist_cons_self _ _) _
      rw [pick1_fold now cur A P _ h',List.filter_cons_of_neg (by simp [hl]),List.filter_cons_of_pos hl]
      simp [idsA]
    | false =>
      simp only [cond_false]
      have h':(idsA ((P ++ [a]) ++ A)).Nodup:=by simpa using h
      rw [pick1_fold now cur A (P ++ [a]) _ h',List.filter_cons_of_pos (by simp [hl]),List.filter_cons_of_neg (by simp [hl])]
      simp
theorem ids_sub {l m:List Fu.Ape} (h:List.Sublist l m) (hn:(idsA m).Nodup):(idsA l).Nodup:=hn.sublist (h.map _)
def liveA (A:List Fu.Ape) (now:Int):List Fu.Ape:=A.filter fun a=>!lateA now a
theorem pick1_eq {A:List Fu.Ape} (h:(idsA A).Nodup) (cur now:Int):pick1 A cur now=(now,cur,byA (liveA A now),idsA (A.filter (lateA now))):=by
 have:=pick1_fold now cur A [] [] (by simpa using h)
 simpa [byA,pick1,liveA] using this
theorem live_nodup {A:List Fu.Ape} (h:(idsA A).Nodup) (now:Int):(idsA (liveA A now)).Nodup:=by
 unfold liveA
 exact h.sublist (List.filter_sublist.map _)
theorem there_mem {A:List Fu.Ape} (h:(idsA A).Nodup) {cur now:Int} {a:Fu.Ape}:a ∈ thereA A cur now↔a ∈ liveA A now:=by
 unfold thereA
 rw [List.mem_filter,pick1_eq h,(sortA_perm A).mem_iff]
 show a ∈ A∧stillA (byA (liveA A now)) a=true↔_
 rw [still_iff (live_nodup h now)]
 exact ⟨fun h=>h.2,fun h=>⟨(List.mem_filter.1 h).1,h⟩⟩
theorem there_nodup {A:List Fu.Ape} (h:(idsA A).Nodup) (cur now:Int):(idsA (thereA A cur now)).Nodup:=by
 refine ids_sub List.filter_sublist ?_
 exact ((sortA_perm A).map _).nodup_iff.2 h
def GoI (L:List Fu.Ape) (g1:List Int) (R:List Fu.Ape) (c:CPk):Prop :=
 ∃ B,c.2.2.1=byA B∧List.Sublist B L∧(∀ a ∈ R,a ∈ B)∧B.length+c.2.2.2.length=L.length+g1.length∧(∀ b ∈ B,b.ID ∉ c.2.2.2)∧(c.2.2.2=g1∧B=L∨(mget c.2.2.1 c.2.1).isSome=true)
theorem goI_fold {L:List Fu.Ape} {g1:List Int} (hL:(idsA L).Nodup):∀ (R:List Fu.Ape) (c:CPk),(idsA R).Nodup→GoI L g1 R c→GoI L g1 [] (R.foldl goA c)
 | [],_,_,h=>h
 | a :: R,c,hn,h=>by
  rw [List.foldl_cons]
  have hn':a.ID ∉ idsA R∧(idsA R).Nodup:=List.nodup_cons.1 hn
  refine goI_fold hL R _ hn'.2 ?_
  obtain ⟨B,h1,h2,h3,h4,h5,h6⟩:=h
  have hB:=ids_sub h2 hL
  have haB:=h3 a (by simp)
  have hR:∀ b ∈ R,b ∈ B:=fun b hb=>h3 b (List.mem_cons_of_mem _ hb)
  unfold goA
  cases hc:(a.ID == c.2.1 || decide (laxA a c.1 > 0)) with
  | true=>exact ⟨B,h1,h2,hR,h4,h5,h6⟩
  | false =>
   simp only [cond_false]
   cases hb:(!(mget c.2.2.1 c.2.1).isSome || beatsV a.V ((mget c.2.2.1 c.2.1).getD ⟨0,0,0,0,0⟩).V 4) with
   | true =>
    simp only [cond_true]
    refine ⟨B,h1,h2,hR,h4,h5,.inr ?_⟩
    show (mget c.2.2.1 a.ID).isSome=true
    rw [h1,mget_byA hB haB]
    rfl
   | false =>
    simp only [cond_false]
    simp only [Bool.or_eq_false_iff,Bool.not_eq_false'] at hb hc
    have hne:a.ID≠c.2.1:=by simpa using hc.1
    have hsome:=hb.1
    rw [h1] at hsome
    have hlen:(B.filter fun b=>b.ID != a.ID).length+1=B.length:=by
     have hd:=mdel_byA (k:=a.ID) hB
     have:∀ {l:List Fu.Ape},(idsA l).Nodup→a ∈ l→(l.filter fun b=>b.ID != a.ID).length+1=l.length:=by
      intro l
      induction l with
      | nil=>intro _ h; cases h
      | cons x l ih =>
       intro hl ha
       have hl':x.ID ∉ idsA l∧(idsA l).Nodup:=List.nodup_cons.1 hl
       rcases List.mem_cons.1 ha with rfl | ha
       ·have:l.filter (fun b=>b.ID != a.ID)=l:=List.filter_eq_self.2 fun b hb=>by
         have:b.ID≠a.ID:=fun e2=>hl'.1 (by rw [← e2]; exact List.mem_map.2 ⟨b,hb,rfl⟩)
         simpa using this
        rw [List.filter_cons_of_neg (by simp),this]
        rfl
       ·have hx:x.ID≠a.ID:=fun e=>hl'.1 (by rw [e]; exact List.mem_map.2 ⟨a,ha,rfl⟩)
        rw [List.filter_cons_of_pos (by simpa using hx),List.length_cons,List.length_cons,ih hl'.2 ha]
     exact this hB haB
    refine ⟨B.filter fun b=>b.ID != a.ID,?_,List.filter_sublist.trans h2,fun b hb=>?_,?_,fun b hb=>?_,.inr ?_⟩
    ·show mdel c.2.2.1 a.ID=_
     rw [h1,mdel_byA hB]
    ·refine List.mem_filter.2 ⟨hR b hb,?_⟩
     have:b.ID≠a.ID:=fun e=>hn'.1 (by rw [← e]; exact List.mem_map.2 ⟨b,hb,rfl⟩)
     simpa using this
    ·show _+(c.2.2.2 ++ [a.ID]).length=_
     rw [List.length_append,List.length_cons,List.length_nil]
     omega
    ·show b.ID ∉ c.2.2.2 ++ [a.ID]
     obtain ⟨k1,k2⟩:=List.mem_filter.1 hb
     have k2:b.ID≠a.ID:=by simpa using k2
     simp only [List.mem_append,List.mem_singleton,not_or]
     exact ⟨h5 b k1,k2⟩
    ·show (mget (mdel c.2.2.1 a.ID) c.2.1).isSome=true
     rw [h1,mdel_byA hB]
     cases hg:mget (byA B) c.2.1 with
     | none=>rw [hg] at hsome; cases hsome
     | some x =>
      obtain ⟨m1,m2⟩:=mget_mem hg
      have hx:x ∈ B.filter fun b=>b.ID != a.ID:=List.mem_filter.2 ⟨m1,by rw [m2]; simpa using fun e=>hne e.symm⟩
      rw [← m2,mget_byA (ids_sub List.filter_sublist hB) hx]
      rfl
theorem firstS_none {by':List (Int × Fu.Ape)}:∀ {l:List Fu.Ape} {i:Int},firstS by' l i=none→∀ a ∈ l,stillA by' a=false
 | [],_,_,_,h=>by cases h
 | b :: l,i,h,a,ha=>by
  unfold firstS at h
  cases hs:stillA by' b with
  | true=>rw [hs] at h; cases h
  | false =>
   rw [hs] at h
   rcases List.mem_cons.1 ha with rfl | ha
   ·exact hs
   ·exact firstS_none h a ha
theorem rd_memP {A:List Fu.Ape} {i:Int} (h0:0≤i) (h1:i < A.length):rd .ape A i ∈ A:=by
 have hlt:i.toNat < A.length:=by omega
 have:rd .ape A i=A[i.toNat]:=by simp [rd,hlt]
 rw [this]
 exact List.getElem_mem _
theorem mayA_iff {A:List Fu.Ape} {now:Int}:mayA A now=true↔(∀ a ∈ A,apeOK a=true)∧(idsA A).Nodup∧A.length≤4∧0≤now∧now≤549755813888:=by
 unfold mayA idsA
 simp only [Bool.and_eq_true,decide_eq_true_eq,List.all_eq_true]
 constructor
 ·rintro ⟨h1,h2,h3,h4,h5⟩; exact ⟨h1,h2,by omega,h4,h5⟩
 ·rintro ⟨h1,h2,h3,h4,h5⟩; exact ⟨h1,h2,by omega,h4,h5⟩
theorem filter_len (p:Fu.Ape→Bool):∀ A:List Fu.Ape,(A.filter fun a=>!p a).length+(A.filter p).length=A.length
 | []=>rfl
 | a :: A=>by
  have ih:=filter_len p A
  rw [List.filter_cons,List.filter_cons]
  cases p a with
  | true=>simp only [Bool.not_true,Bool.false_eq_true,if_false,if_true,List.length_cons]; omega
  | false=>simp only [Bool.not_false,Bool.false_eq_true,if_false,if_true,List.length_cons]; omega
theorem pick_spec {A : List Fu.Ape} {cur now : Int} (hm : mayA A now = true) :
    ((pickA A cur now).1 = -1∧(pickA A cur now).2.length=A.length∧∀ a ∈ A,lateA now a=true)∨(∃ a ∈ A,(pickA A cur now).1=a.ID∧a.ID ∉ (pickA A cur now).2∧lateA now a=false∧0≤a.ID):=by
  obtain ⟨hok,hn,_⟩:=mayA_iff.1 hm
  have hp:=pick1_eq hn cur now
  have hLn:=live_nodup hn now
  have hg:(pick1 A cur now).2.2.2=idsA (A.filter (lateA now)):=by rw [hp]
  have hlen:(liveA A now).length+(idsA (A.filter (lateA now))).length=A.length:=by
    unfold liveA idsA
    rw [List.length_map]
    exact filter_len (lateA now) A
  have hlive:∀ a ∈ liveA A now,a ∈ A∧lateA now a=false:=fun a ha=>by
    obtain ⟨h1,h2⟩:=List.mem_filter.1 ha
    exact ⟨h1,by simpa using h2⟩
  have hpos:∀ a ∈ A,0≤a.ID:=fun a ha=>(apeOK_iff.1 (hok a ha)).1.1
  have hnot:∀ a ∈ liveA A now,a.ID ∉ idsA (A.filter (lateA now)):=fun a ha hm=>by
    obtain ⟨b,hb,e⟩:=List.mem_map.1 hm
    obtain ⟨hb1,hb2⟩:=List.mem_filter.1 hb
    obtain ⟨ha1,ha2⟩:=hlive a ha
    have:mget (byA A) a.ID=some a:=mget_byA hn ha1
    rw [← e,mget_byA hn hb1] at this
    have e2:b=a:=by simpa using this
    rw [e2,ha2] at hb2
    cases hb2
  unfold pickA
  rw [hm]
  simp only [Bool.not_true,cond_false]
  cases h0:(((thereA A cur now).length:Int) == 0) with
  | true =>
    simp only [cond_true]
    have h0 : (thereA A cur now).length = 0 := by have : ((thereA A cur now).length : Int) = 0 := by simpa using h0
                                                  omega
    have hnil:liveA A now=[]:=by
      cases hl:liveA A now with
      | nil=>rfl
      | cons a l =>
        have:a ∈ thereA A cur now:=(there_mem hn).2 (by rw [hl]; simp)
        rw [List.eq_nil_of_length_eq_zero h0] at this
        cases this
    rw [hnil,List.length_nil] at hlen
    refine .inl ⟨trivial,by rw [hg]; omega,fun a ha=>?_⟩
    cases hl:lateA now a with
    | true=>rfl
    | false =>
      have:a ∈ liveA A now:=List.mem_filter.2 ⟨ha,by simp [hl]⟩
      rw [hnil] at this
      cases this
  | false =>
    simp only [cond_false]
    have h0:0 < (thereA A cur now).length:=by
      have:((thereA A cur now).length:Int)≠0:=by simpa using h0
      omega
    right
    cases hf:fitsA (thereA A cur now) now with
    | true =>
      simp only [cond_true]
      have ha:=(there_mem hn).1 (rd_memP (A:=thereA A cur now) (Int.le_refl 0) (by omega))
      exact ⟨_,(hlive _ ha).1,rfl,by rw [hg]; exact hnot _ ha,(hlive _ ha).2,hpos _ (hlive _ ha).1⟩
    | false =>
      simp only [cond_false]
      have hI:GoI (liveA A now) (idsA (A.filter (lateA now))) (thereA A cur now) (pick1 A cur now):=by
        rw [hp]
        exact ⟨liveA A now,rfl,List.Sublist.refl _,fun a ha=>(there_mem hn).1 ha,rfl,hnot,.inl ⟨rfl,rfl⟩⟩
      have hI:=goI_fold hLn (thereA A cur now) _ (there_nodup hn cur now) hI
      have hI:GoI (liveA A now) (idsA (A.filter (lateA now))) [] (pick3 A cur now):=hI
      generalize pick3 A cur now=c at hI ⊢
      obtain ⟨B,b1,b2,_,b4,b5,b6⟩:=hI
      have hBn:=ids_sub b2 hLn
      have hfin:∀ a ∈ B,a ∈ A∧a.ID ∉ c.2.2.2∧lateA now a=false∧0≤a.ID:=fun a ha =>
        ⟨(hlive a (b2.subset ha)).1,b5 a ha,(hlive a (b2.subset ha)).2,hpos a (hlive a (b2.subset ha)).1⟩
      cases hs:(mget c.2.2.1 c.2.1).isSome with
      | true =>
        simp only [cond_true]
        cases hgm:mget c.2.2.1 c.2.1 with
        | none=>rw [hgm] at hs; cases hs
        | some x =>
          rw [b1] at hgm
          obtain ⟨m1,m2⟩:=mget_mem hgm
          obtain ⟨f1,f2,f3,f4⟩:=hfin x m1
          exact ⟨x,f1,m2.symm,f2,f3,f4⟩
      | false =>
        simp only [cond_false]
        have hBL:B=liveA A now:=by
          rcases b6 with b6 | b6
          · exact b6.2
          · rw [b6] at hs; cases hs
        cases hj:firstS c.2.2.1 (thereA A cur now) 0 with
        | some j =>
          obtain ⟨j1,j2,j3⟩:=firstS_spec _ _ _ _ hj
          rw [show j-0=j by omega,b1,still_iff hBn] at j3
          obtain ⟨f1,f2,f3,f4⟩:=hfin _ j3
          exact ⟨_,f1,rfl,f2,f3,f4⟩
        | none =>
          have ha:=rd_memP (A:=thereA A cur now) (Int.le_refl 0) (by omega)
          have h1:=firstS_none hj _ ha
          rw [b1,hBL] at h1
          have h2:=(still_iff hLn).2 ((there_mem hn).1 ha)
          rw [h2] at h1
          cases h1
end Go.Fx
namespace Go.Fx
open Go
theorem begTs_mem (now:Int):∀ (l:List Fu.Task) (d:List Int) (u:Fu.Task),u ∈ (begTs now d l).1→∃ t ∈ l,u=t∨∃ n,begOK t now n=true∧u=begT t now n
 | [],_,_,h=>by simp [begTs] at h
 | y :: l,d,u,h=>by
  unfold begTs at h
  cases hb:begOK y now (lastD y d) with
  | true =>
   rw [hb] at h
   simp only [cond_true,List.mem_cons] at h
   rcases h with rfl | h
   ·exact ⟨y,by simp,.inr ⟨_,hb,rfl⟩⟩
   ·obtain ⟨t,h1,h2⟩:=begTs_mem now l _ u h
    exact ⟨t,List.mem_cons_of_mem _ h1,h2⟩
  | false =>
   rw [hb] at h
   simp only [cond_false,List.mem_cons] at h
   rcases h with rfl | h
   ·exact ⟨u,by simp,.inl rfl⟩
   ·obtain ⟨t,h1,h2⟩:=begTs_mem now l _ u h
    exact ⟨t,List.mem_cons_of_mem _ h1,h2⟩
theorem begTs_keys (now:Int):∀ (l:List Fu.Task) (d:List Int),(begTs now d l).1.map (·.ID)=l.map (·.ID)
 | [],_=>rfl
 | y :: l,d=>by
  unfold begTs
  cases begOK y now (lastD y d) with
  | true=>simp only [cond_true,List.map_cons,begTs_keys now l]; rfl
  | false=>simp only [cond_false,List.map_cons,begTs_keys now l]
theorem begin_T {w:Fu.World} (hm:mayW w=true) (d:List Int):(beginW w d).1.T=(begTs w.Now d w.T).1∧(beginW w d).2=(begTs w.Now d w.T).2:=by
 unfold beginW
 rw [hm]
 exact ⟨rfl,rfl⟩
theorem jobOK_small {s:Fu.Spec} {j:Fu.Job} (h:JobOK s j):smallC j:=by
 obtain ⟨⟨hs,_⟩,h⟩:=h
 unfold smallC
 rcases h with ⟨_,rfl⟩ | ⟨_,_,_,h1,_,h2,_⟩
 ·exact ⟨by decide,by decide,by decide,by decide⟩
 ·omega
theorem start_job {w:Fu.World} (hm:mayW w=true) (d:List Int) {u:Fu.Task} (hu:u ∈ (startW w d).T):JobOK u.S u.J:=by
 have hu:u ∈ (beginW w d).1.T:=hu
 rw [(begin_T hm d).1] at hu
 obtain ⟨t,ht,h⟩:=begTs_mem _ _ _ _ hu
 rcases h with rfl | ⟨n,hb,rfl⟩
 ·exact of_decide_eq_true (mayK_iff.1 (tkOK_iff.1 ((mayW_iff.1 hm).2.2.2.2.1 u ht)).1).2.2.2.2.1
 ·unfold begOK at hb
  simp only [Bool.and_eq_true] at hb
  exact of_decide_eq_true hb.2
theorem start_len {w:Fu.World} (hm:mayW w=true) (d:List Int):(startW w d).T.length=w.T.length:=by
 show (beginW w d).1.T.length=_
 rw [(begin_T hm d).1,begTs_len]
theorem start_small {w:Fu.World} (h:smallW w) (hm:mayW w=true) (d:List Int):smallW (startW w d)∧smallW (leftW w d):=by
 have hl:=start_len hm d
 refine ⟨⟨by rw [hl]; exact h.1,h.2⟩,⟨by show ((beginW w d).1.T.length:Int)*176≤_; have hl':(beginW w d).1.T.length=w.T.length:=hl; rw [hl']; exact h.1,?_⟩⟩
 have h2:=h.2
 have:=List.length_filter_le (fun a:Fu.Ape=>!hasI (pickW (startW w d)).2 a.ID) w.A
 show ((dropA (pickW (startW w d)).2 w.A).length:Int)*40≤_
 unfold dropA
 omega
theorem start_who {w:Fu.World} (h:smallW w) (hm:mayW w=true) (d:List Int):okWho (startW w d):=by
 refine ⟨(start_small h hm d).1,?_,fun x hx=>?_⟩
 ·unfold livesW
  rw [List.length_map,start_len hm d]
  have:=h.1
  omega
 ·unfold livesW at hx
  obtain ⟨u,hu,rfl⟩:=List.mem_map.1 hx
  have:=jobOK_small (start_job hm d hu)
  have e:(liveK u).J.C=u.J.C∧(liveK u).J.Ran=u.J.Ran:=by
   show (lookJ u).C=_∧(lookJ u).Ran=_
   unfold lookJ
   cases u.J.On <;> exact ⟨rfl,rfl⟩
  unfold smallC at this ⊢
  rw [e.1,e.2]
  exact this
theorem rdT_mem {T:List Fu.Task} {i:Int} (h0:0≤i) (h1:i < T.length):rd .task T i ∈ T:=rd_inT h0 h1
theorem idxT_spec {T:List Fu.Task} {id:Int} (h:∃ t ∈ T,t.ID=id):(0≤idxT T id∧idxT T id < T.length)∧(rd .task T (idxT T id)).ID=id:=by
 obtain ⟨t,ht,he⟩:=h
 obtain ⟨k,h0,h1,hk⟩:=mem_rdT ht
 unfold idxT
 cases hf:firstP (fun i=>(rd .task T i).ID == id) T.length 0 with
 | none =>
  have:=firstP_none hf k h0 (by omega)
  simp only [hk,he] at this
  simp at this
 | some j =>
  obtain ⟨⟨h2,h3⟩,h4,_⟩:=firstP_some hf
  exact ⟨⟨h2,by simp only [Option.getD_some]; omega⟩,by simpa using h4⟩
theorem memA_rd {A:List Fu.Ape} {a:Fu.Ape} (h:a ∈ A):∃ i:Int,0≤i∧i < A.length∧rd .ape A i=a:=by
 obtain ⟨n,hn,e⟩:=List.getElem_of_mem h
 exact ⟨n,by omega,by omega,by simp [rd,hn,e]⟩
theorem atA_spec {A:List Fu.Ape} {id:Int} (h:∃ a ∈ A,a.ID=id):(0≤atA A id∧atA A id < A.length)∧(rd .ape A (atA A id)).ID=id:=by
 obtain ⟨a,ha,he⟩:=h
 obtain ⟨k,h0,h1,hk⟩:=memA_rd ha
 unfold atA
 cases hf:firstP (pAt (A,id)) A.length 0 with
 | none =>
  have:=firstP_none hf k h0 (by omega)
  unfold pAt at this
  simp only [hk,he] at this
  simp at this
 | some j =>
  obtain ⟨⟨h2,h3⟩,h4,_⟩:=firstP_some hf
  unfold pAt at h4
  exact ⟨⟨h2,by simp only [Option.getD_some]; omega⟩,by simpa using h4⟩
theorem hasI_iff {g:List Int} {v:Int}:hasI g v=true↔v ∈ g:=by
 unfold hasI
 rw [List.any_eq_true]
 constructor
 ·rintro ⟨x,hx,e⟩
  have:x=v:=by simpa using e
  exact this ▸ hx
 ·intro h
  exact ⟨v,h,by simp⟩
theorem opts_who (w:Fu.World):((mayBand w).2=false∧∀ t ∈ w.T,isOpt t.J=false)∨∃ t ∈ w.T,mayBand w=(t.ID,true)∧isOpt t.J=true:=by
 unfold mayBand
 rcases firstO_spec (optsW w.T) with ⟨h1,h2⟩ | ⟨h1,h2⟩
 ·left
  rw [h1]
  refine ⟨rfl,fun t ht=>?_⟩
  cases ho:isOpt t.J with
  | false=>rfl
  | true =>
   have:optT1 t ∈ optsW w.T:=List.mem_map.2 ⟨t,List.mem_filter.2 ⟨ht,ho⟩,rfl⟩
   rw [h2] at this
   cases this
 ·right
  have hne:(firstO (optsW w.T) == -1)=false:=by simp; omega
  rw [hne]
  have hmem:rd .opt (optsW w.T) (firstO (optsW w.T)) ∈ optsW w.T:=by
   have hlt:(firstO (optsW w.T)).toNat < (optsW w.T).length:=by omega
   have:rd .opt (optsW w.T) (firstO (optsW w.T))=(optsW w.T)[(firstO (optsW w.T)).toNat]:=by simp [rd,hlt]
   rw [this]
   exact List.getElem_mem _
  obtain ⟨t,ht,e⟩:=List.mem_map.1 hmem
  obtain ⟨ht1,ht2⟩:=List.mem_filter.1 ht
  refine ⟨t,ht1,?_,ht2⟩
  rw [← e]
  have:(optT1 t).ID=t.ID:=by unfold optT1 optR; rw [ht2]; rfl
  simp only [cond_false]
  rw [this]
theorem who_spec {x : Fu.World} (hA : mayA x.A x.Now = true) :
    (∃ t ∈ x.T,whoW x=(1,t.ID)∧mustJ t.J=true∧∀ u ∈ x.T,mustJ u.J=true→t.J.Due≤u.J.Due) ∨
    ((∀ t ∈ x.T,mustJ t.J=false) ∧
      ((∃ a ∈ x.A,whoW x=(2,a.ID)∧(pickW x).1=a.ID∧a.ID ∉ (pickW x).2∧lateA x.Now a=false) ∨
       ((pickW x).2.length=x.A.length∧(∀ a ∈ x.A,lateA x.Now a=true)∧((∃ t ∈ x.T,whoW x=(3,t.ID)∧isOpt t.J=true)∨(whoW x=(0,0)∧∀ t ∈ x.T,isOpt t.J=false))))):=by
  unfold whoW
  rcases must_spec x with ⟨h1,h2⟩ | ⟨t,ht,h1,h2,h3⟩
  · right
    refine ⟨h2,?_⟩
    rw [h1]
    simp only [cond_false]
    rcases pick_spec (cur:=x.Cur) hA with ⟨k1,k2,k3⟩ | ⟨a,ha,k1,k2,k3,k4⟩
    · right
      refine ⟨k2,k3,?_⟩
      have e:(onceW x).2=false:=by
        show ((pickW x).1 != -1)=false
        have k1:(pickW x).1 = -1:=k1
        rw [k1]; rfl
      rw [e]
      simp only [cond_false]
      rcases opts_who x with ⟨q1,q2⟩ | ⟨t,ht,q1,q2⟩
      · right
        rw [q1]
        exact ⟨rfl,q2⟩
      · left
        refine ⟨t,ht,?_,q2⟩
        rw [q1]
        rfl
    · left
      refine ⟨a,ha,?_,k1,k2,k3⟩
      have k1:(pickW x).1=a.ID:=k1
      have e:onceW x=(a.ID,true):=by
        unfold onceW
        rw [k1,maxI_eq]
        have:(a.ID != -1)=true:=by simp; omega
        rw [this,Int.max_eq_left k4]
      rw [e]
      rfl
  · left
    refine ⟨t,ht,?_,h2,h3⟩
    rw [h1]
    rfl
theorem goN_fold {A:List Fu.Ape}:∀ (R:List Fu.Ape) (c:CPk),(idsA R).Nodup→(∀ r ∈ R,r.ID ∈ idsA A∧r.ID ∉ c.2.2.2)→c.2.2.2.Nodup→(∀ x ∈ c.2.2.2,x ∈ idsA A)→(R.foldl goA c).2.2.2.Nodup∧∀ x ∈ (R.foldl goA c).2.2.2,x ∈ idsA A
 | [],c,_,_,h3,h4=>⟨h3,h4⟩
 | a :: R,c,h1,h2,h3,h4=>by
  have h1':a.ID ∉ idsA R∧(idsA R).Nodup:=List.nodup_cons.1 h1
  have ha:=h2 a (by simp)
  have hR:∀ r ∈ R,r.ID ∈ idsA A∧r.ID ∉ c.2.2.2:=fun r hr=>h2 r (List.mem_cons_of_mem _ hr)
  rw [List.foldl_cons]
  unfold goA
  cases (a.ID == c.2.1 || decide (laxA a c.1 > 0)) with
  | true=>exact goN_fold R c h1'.2 hR h3 h4
  | false =>
   simp only [cond_false]
   cases (!(mget c.2.2.1 c.2.1).isSome || beatsV a.V ((mget c.2.2.1 c.2.1).getD ⟨0,0,0,0,0⟩).V 4) with
   | true=>exact goN_fold R _ h1'.2 hR h3 h4
   | false =>
    refine goN_fold R _ h1'.2 (fun r hr=>⟨(hR r hr).1,?_⟩) ?_ ?_
    ·simp only [cond_false,List.mem_append,List.mem_singleton,not_or]
     refine ⟨(hR r hr).2,fun e=>h1'.1 (by rw [← e]; exact List.mem_map.2 ⟨r,hr,rfl⟩)⟩
    ·simp only [cond_false]
     rw [List.nodup_append]
     refine ⟨h3,by simp,fun x hx y hy e=>?_⟩
     rw [List.mem_singleton] at hy
     subst hy; subst e
     exact ha.2 hx
    ·intro x hx
     simp only [cond_false,List.mem_append,List.mem_singleton] at hx
     rcases hx with hx | rfl
     ·exact h4 x hx
     ·exact ha.1
theorem gone_nodup {A:List Fu.Ape} {cur now:Int} (hm:mayA A now=true):(pickA A cur now).2.Nodup∧∀ x ∈ (pickA A cur now).2,x ∈ idsA A:=by
 obtain ⟨hok,hn,_⟩:=mayA_iff.1 hm
 have hp:=pick1_eq hn cur now
 have hg:(pick1 A cur now).2.2.2=idsA (A.filter (lateA now)):=by rw [hp]
 have hsub:∀ x ∈ idsA (A.filter (lateA now)),x ∈ idsA A:=fun x hx=>by
  obtain ⟨b,hb,e⟩:=List.mem_map.1 hx
  exact List.mem_map.2 ⟨b,(List.mem_filter.1 hb).1,e⟩
 have h1:(pick1 A cur now).2.2.2.Nodup∧∀ x ∈ (pick1 A cur now).2.2.2,x ∈ idsA A:=by
  rw [hg]
  exact ⟨ids_sub List.filter_sublist hn,hsub⟩
 have h3:=goN_fold (A:=A) (thereA A cur now) (pick1 A cur now) (there_nodup hn cur now) (fun r hr=>by
  have hr:=(there_mem hn).1 hr
  obtain ⟨k1,k2⟩:=List.mem_filter.1 hr
  refine ⟨List.mem_map.2 ⟨r,k1,rfl⟩,fun hx=>?_⟩
  rw [hg] at hx
  obtain ⟨b,hb,e⟩:=List.mem_map.1 hx
  obtain ⟨hb1,hb2⟩:=List.mem_filter.1 hb
  have e1:mget (byA A) r.ID=some r:=mget_byA hn k1
  have e2:mget (byA A) b.ID=some b:=mget_byA hn hb1
  have e:b.ID=r.ID:=e
  rw [e,e1] at e2
  cases e2
  rw [hb2] at k2
  cases k2) h1.1 h1.2
 unfold pickA
 rw [hm]
 simp only [Bool.not_true,cond_false]
 cases (((thereA A cur now).length:Int) == 0) with
 | true=>exact h1
 | false =>
  simp only [cond_false]
  cases fitsA (thereA A cur now) now with
  | true=>exact h1
  | false =>
   simp only [cond_false]
   cases (mget (pick3 A cur now).2.2.1 (pick3 A cur now).2.1).isSome with
   | true=>exact h3
   | false=>exact h3
theorem drop_len {A:List Fu.Ape} (hA:(idsA A).Nodup):∀ {g:List Int},g.Nodup→(∀ x ∈ g,x ∈ idsA A)→(dropA g A).length+g.length=A.length
 | [],_,_=>by
  have:dropA [] A=A:=by unfold dropA; rw [List.filter_eq_self]; intro a _; rfl
  rw [this]; rfl
 | x :: g,hn,h=>by
  rw [List.nodup_cons] at hn
  have ih:=drop_len hA hn.2 fun y hy=>h y (List.mem_cons_of_mem _ hy)
  have key:(dropA (x :: g) A).length+1=(dropA g A).length:=by
   have e:dropA (x :: g) A=(dropA g A).filter fun a=>a.ID != x:=by
    unfold dropA
    rw [List.filter_filter]
    congr 1
    funext a
    unfold hasI
    rw [List.any_cons,Bool.not_or]
    cases hx:(x == a.ID) with
    | true =>
     have hx:x=a.ID:=by simpa using hx
     simp [hx]
    | false =>
     have hx:x≠a.ID:=by simpa using hx
     simp [Ne.symm hx]
   rw [e]
   have hmem:∃ a ∈ dropA g A,a.ID=x:=by
    obtain ⟨a,ha,e2⟩:=List.mem_map.1 (h x (by simp))
    refine ⟨a,List.mem_filter.2 ⟨ha,?_⟩,e2⟩
    have e2:a.ID=x:=e2
    rw [e2]
    have:hasI g x=false:=by
     cases hh:hasI g x with
     | false=>rfl
     | true=>exact absurd (hasI_iff.1 hh) hn.1
    rw [this]; rfl
   have hnd:(idsA (dropA g A)).Nodup:=ids_sub List.filter_sublist hA
   generalize dropA g A=B at hmem hnd
   obtain ⟨a,ha,rfl⟩:=hmem
   induction B with
   | nil=>cases ha
   | cons b B ihB =>
    have hb:b.ID ∉ idsA B∧(idsA B).Nodup:=List.nodup_cons.1 hnd
    rcases List.mem_cons.1 ha with rfl | ha
    ·have:B.filter (fun c=>c.ID != a.ID)=B:=List.filter_eq_self.2 fun c hc=>by
      have:c.ID≠a.ID:=fun e2=>hb.1 (by rw [← e2]; exact List.mem_map.2 ⟨c,hc,rfl⟩)
      simpa using this
     rw [List.filter_cons_of_neg (by simp),this]
     rfl
    ·have hx:b.ID≠a.ID:=fun e2=>hb.1 (by rw [e2]; exact List.mem_map.2 ⟨a,ha,rfl⟩)
     rw [List.filter_cons_of_pos (by simpa using hx),List.length_cons,List.length_cons,ihB hb.2 ha]
  rw [List.length_cons]
  omega
theorem gone_len {x:Fu.World} (hA:mayA x.A x.Now=true):(dropA (pickW x).2 x.A).length+(pickW x).2.length=x.A.length:=by
 obtain ⟨h1,h2⟩:=gone_nodup (cur:=x.Cur) hA
 exact drop_len (mayA_iff.1 hA).2.1 h1 h2
theorem okTick_may {w:Fu.World} (h:smallW w) (hm:mayW w=true) (d:List Int):okTick w d:=by
 have hA:mayA w.A w.Now=true:=(mayW_iff.1 hm).2.2.2.1
 have hX:mayA (startW w d).A (startW w d).Now=true:=hA
 have hl:=(mayA_iff.1 hA).2.2.1
 have hg:=gone_len hX
 have hs:=start_small h hm d
 have hcur:(curW (leftW w d) (whoW (startW w d))).T=(startW w d).T∧(curW (leftW w d) (whoW (startW w d))).A=dropA (pickW (startW w d)).2 w.A:=by
  unfold curW
  cases (!((whoW (startW w d)).1 == 1 || (whoW (startW w d)).1 == 3) && (whoW (startW w d)).1 == 2) <;> exact ⟨rfl,rfl⟩
 have hr:ranOK (curW (leftW w d) (whoW (startW w d))) (whoW (startW w d)):=by
  refine ⟨?_,fun hc=>?_,fun hc=>?_⟩
  ·have:=hs.2
   unfold smallW at this ⊢
   rw [hcur.1,hcur.2]
   exact this
  ·have ht:∃ t ∈ (startW w d).T,t.ID=(whoW (startW w d)).2:=by
    rcases who_spec hX with ⟨t,ht,e,_⟩ | ⟨_,⟨a,_,e,_⟩ | ⟨_,_,⟨t,ht,e,_⟩ | ⟨e,_⟩⟩⟩
    ·exact ⟨t,ht,by rw [e]⟩
    ·rw [e] at hc; simp at hc
    ·exact ⟨t,ht,by rw [e]⟩
    ·rw [e] at hc; simp at hc
   unfold taskAt
   rw [hcur.1]
   have hi:=(idxT_spec ht).1
   exact ⟨hi,jobOK_small (start_job hm d (rdT_mem hi.1 hi.2))⟩
  ·have ha:∃ a ∈ dropA (pickW (startW w d)).2 w.A,a.ID=(whoW (startW w d)).2:=by
    rcases who_spec hX with ⟨t,ht,e,_⟩ | ⟨_,⟨a,ha,e,_,hn,_⟩ | ⟨_,_,⟨t,ht,e,_⟩ | ⟨e,_⟩⟩⟩
    ·rw [e] at hc; simp at hc
    ·refine ⟨a,List.mem_filter.2 ⟨ha,?_⟩,by rw [e]⟩
     cases hh:hasI (pickW (startW w d)).2 a.ID with
     | false=>rfl
     | true=>exact absurd (hasI_iff.1 hh) hn
    ·rw [e] at hc; simp at hc
    ·rw [e] at hc; simp at hc
   unfold apeAt
   rw [hcur.2]
   exact (atA_spec ha).1
 refine ⟨start_who h hm d,?_,hr,hs.2,?_⟩
 ·have:(startW w d).A=w.A:=rfl
  rw [this] at hg
  omega
 ·obtain ⟨⟨r1,r2⟩,_,_⟩:=hr
  have e1:(midW w d).1.T.length=(curW (leftW w d) (whoW (startW w d))).T.length:=by
   unfold midW ranW noCur ranWho
   cases ((whoW (startW w d)).1 == 1 || (whoW (startW w d)).1 == 3) with
   | true =>
    simp only [cond_true]
    cases (atA _ _ == -1) <;> simp [ranTask,upd]
   | false =>
    simp only [cond_false]
    cases ((whoW (startW w d)).1 == 2) with
    | true =>
     simp only [cond_true]
     cases doneB _ _ <;> simp only [cond_true,cond_false] <;> cases (atA _ _ == -1) <;> rfl
    | false =>
     simp only [cond_false]
     cases (atA _ _ == -1) <;> rfl
  have e2:(midW w d).1.A.length≤(curW (leftW w d) (whoW (startW w d))).A.length:=by
   unfold midW ranW noCur ranWho
   cases ((whoW (startW w d)).1 == 1 || (whoW (startW w d)).1 == 3) with
   | true =>
    simp only [cond_true]
    cases (atA _ _ == -1) <;> exact Nat.le_refl _
   | false =>
    simp only [cond_false]
    cases ((whoW (startW w d)).1 == 2) with
    | true =>
     simp only [cond_true]
     cases doneB _ _ with
     | true =>
      simp only [cond_true]
      have:=List.length_eraseIdx_le (ranAs (curW (leftW w d) (whoW (startW w d))).A (whoW (startW w d)).2) (atA (curW (leftW w d) (whoW (startW w d))).A (whoW (startW w d)).2).toNat
      rw [ranAs_len] at this
      cases (atA _ _ == -1) <;> exact this
     | false =>
      simp only [cond_false]
      cases (atA _ _ == -1) <;> exact Nat.le_of_eq (ranAs_len _ _)
    | false =>
     simp only [cond_false]
     cases (atA _ _ == -1) <;> exact Nat.le_refl _
  refine ⟨?_,?_⟩
  ·show ((midW w d).1.T.length:Int)*176≤_
   rw [e1]; exact r1
  ·show ((midW w d).1.A.length:Int)*40≤_
   omega
end Go.Fx
