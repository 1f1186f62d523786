import Derived.Test.YtdmlnbfejgdhaaaGreatC2
import Derived.Test.YtdmlnbfejgdhaaaGreatFx5
namespace Go.Fx
open Go Go.Proofs
theorem oInt:Opens Tryz.prog 3 fun zs=>∃ n,zs=[.int .i64 n]∧wf64 n:=(Opens.int Tryz.underlying3).mono fun _ ⟨n,h1,h2⟩=>⟨n,h1,bounds_i64 h2⟩
theorem oInts:Opens Tryz.prog 52 fun zs=>∃ xs:List Int,zs=[.view (.int .i64) xs]∧(xs.length:Int) < 17592186044416∧∀ x ∈ xs,wf64 x :=
 (Opens.slice (.int .i64) (ok:=fun n:Int=>wf64 n) Tryz.underlying52 oInt (fun zs ⟨n,h,h'⟩=>⟨n,h,h'⟩) (by kernel_rfl) (by decide)).mono fun zs ⟨xs,h1,h2,h3⟩=>⟨xs,h1,by
  have e:Tryz.prog.bytesOf 3=8:=by kernel_rfl
  rw [e] at h2
  unfold reachBytes at h2
  omega,h3⟩
theorem oSpec:Opens Tryz.prog 24 fun zs=>∃ s:Fu.Spec,zs=encSpec s :=
 (Opens.struct Tryz.underlying24 (.cons oInt (by kernel_rfl) (.cons oInt (by kernel_rfl) (.cons oInt (by kernel_rfl) (.cons oInt (by kernel_rfl) (.cons oInt (by kernel_rfl) (.cons oInt (by kernel_rfl) (.nil _))))))) (by kernel_rfl)).mono fun zs h=>by
  obtain ⟨_,_,rfl,⟨a,rfl,_⟩,_,_,rfl,⟨b,rfl,_⟩,_,_,rfl,⟨c,rfl,_⟩,_,_,rfl,⟨d,rfl,_⟩,_,_,rfl,⟨e,rfl,_⟩,_,_,rfl,⟨f,rfl,_⟩,rfl⟩:=h
  exact ⟨⟨a,b,c,d,e,f⟩,rfl⟩
end Go.Fx
namespace Go.Fx
open Go
def leftM (j:Fu.Job):Int:=bif j.On && j.Mand then min j.C j.D-j.Ran else 0
def wk (D:Int) (x:Fu.Live):Int:=bif decide (x.J.Due≤D) then leftM x.J else 0
def W (l:List Fu.Live) (D:Int):Int:=(l.map (wk D)).sum
def JP (j:Fu.Job):Prop:=j=zeroJ∨(j.On=true∧0≤j.Ran∧j.Ran < j.C∧j.Ran < j.D)
theorem JobI.jp {x:Fu.Live} {t:Int} (h:JobI x t):JP x.J:=by
 rcases h with h | ⟨h1,_,_,_,_,_,h2,_⟩
 ·exact .inl h
 ·exact .inr ⟨h1,h2.1,h2.2.1,h2.2.2⟩
theorem leftM_nonneg {j:Fu.Job} (h:JP j):0≤leftM j:=by
 unfold leftM
 rcases h with h | ⟨h1,h2,h3,h4⟩
 ·rw [h]; decide
 ·rw [h1]
  cases j.Mand with
  | false=>simp
  | true=>simp only [Bool.and_self,cond_true]; omega
theorem must_iff {j:Fu.Job} (h:JP j):mustJ j=true↔0 < leftM j:=by
 unfold mustJ leftM worst
 rcases h with h | ⟨h1,h2,h3,h4⟩
 ·rw [h]; decide
 ·rw [h1]
  cases j.Mand with
  | false=>simp
  | true =>
   simp only [Bool.true_and,decide_eq_true_eq,cond_true]
   omega
theorem not_must {j:Fu.Job} (h:JP j) (hm:mustJ j=false):leftM j=0:=by
 have h1:=leftM_nonneg h
 rcases Int.lt_or_eq_of_le h1 with h2 | h2
 ·rw [(must_iff h).2 h2] at hm; cases hm
 ·exact h2.symm
theorem wk_nonneg {x:Fu.Live} (h:JP x.J) (D:Int):0≤wk D x:=by
 unfold wk
 cases decide (x.J.Due≤D) with
 | true=>exact leftM_nonneg h
 | false=>exact Int.le_refl _
theorem W_nonneg {l:List Fu.Live} (h:∀ x ∈ l,JP x.J) (D:Int):0≤W l D:=by
 induction l with
 | nil=>exact Int.le_refl _
 | cons x l ih =>
  have h1:=ih fun y hy=>h y (List.mem_cons_of_mem _ hy)
  have h2:=wk_nonneg (h x (by simp)) D
  simp only [W,List.map_cons,List.sum_cons] at *
  omega
theorem W_ge {l:List Fu.Live} (h:∀ x ∈ l,JP x.J) (D:Int) {x:Fu.Live} (hx:x ∈ l):wk D x≤W l D:=by
 induction l with
 | nil=>cases hx
 | cons y l ih =>
  have h0:∀ x ∈ l,JP x.J:=fun y hy=>h y (List.mem_cons_of_mem _ hy)
  have h2:=wk_nonneg (h y (by simp)) D
  have h3:=W_nonneg h0 D
  simp only [W,List.map_cons,List.sum_cons] at *
  rcases List.mem_cons.1 hx with rfl | hx
  ·omega
  ·have:=ih h0 hx; omega
theorem W_zero {l:List Fu.Live} (D:Int) (h:∀ x ∈ l,wk D x=0):W l D=0:=by
 induction l with
 | nil=>rfl
 | cons y l ih =>
  have:=ih fun y hy=>h y (List.mem_cons_of_mem _ hy)
  have h2:=h y (by simp)
  simp only [W,List.map_cons,List.sum_cons] at *
  omega
theorem W_zero_iff {l:List Fu.Live} (h:∀ x ∈ l,JP x.J) (D:Int):W l D=0↔∀ x ∈ l,mustJ x.J=true→D < x.J.Due:=by
 constructor
 ·intro hw x hx hm
  have h1:=W_ge h D hx
  have h2:=(must_iff (h x hx)).1 hm
  unfold wk at h1
  rcases Int.lt_or_le D x.J.Due with h3 | h3
  ·exact h3
  ·rw [decide_eq_true h3] at h1
   simp only [cond_true] at h1
   omega
 ·intro hm
  refine W_zero D fun x hx=>?_
  unfold wk
  cases hd:decide (x.J.Due≤D) with
  | false=>rfl
  | true =>
   have hd:=of_decide_eq_true hd
   cases hmm:mustJ x.J with
   | false=>exact not_must (h x hx) hmm
   | true=>have:=hm x hx hmm; omega
theorem split_at {l:List Fu.Live} {i:Int} (h0:0≤i) (h1:i < l.length):∃ pre suf,l=pre ++ rd .live l i :: suf∧(pre.length:Int)=i:=by
 have hlt:i.toNat < l.length:=by omega
 refine ⟨l.take i.toNat,l.drop (i.toNat+1),?_,by rw [List.length_take]; omega⟩
 have hr:rd .live l i=l[i.toNat]:=by simp [rd,hlt]
 rw [hr,List.getElem_cons_drop,List.take_append_drop]
theorem W_upd {l:List Fu.Live} {i:Int} (h0:0≤i) (h1:i < l.length) (z:Fu.Live) (D:Int):W (upd .live l i z) D=W l D-wk D (rd .live l i)+wk D z:=by
 obtain ⟨pre,suf,h2,h3⟩:=split_at h0 h1
 generalize rd .live l i=y at h2 ⊢
 subst h3
 rw [h2,upd_mid (r:=.live)]
 simp only [W,List.map_append,List.map_cons,List.sum_append,List.sum_cons]
 omega
theorem left_step {j:Fu.Job} (h:JP j) (hm:mustJ j=true):leftM (stepJ j)=leftM j-1∧(stepJ j=zeroJ∨(stepJ j).Due=j.Due):=by
 rcases h with h | ⟨h1,h2,h3,h4⟩
 ·rw [h] at hm; cases hm
 ·have hMand:j.Mand=true:=by unfold mustJ at hm; rw [h1] at hm; simp at hm; exact hm.1
  unfold stepJ
  rw [h1]
  simp only [cond_true]
  cases hd:(decide (j.Ran+1≥j.D) || decide (j.Ran+1≥j.C)) with
  | true =>
   simp only [Bool.or_eq_true,decide_eq_true_eq] at hd
   refine ⟨?_,.inl rfl⟩
   simp only [cond_true,leftM,h1,hMand,Bool.and_self]
   simp only [zeroJ,Bool.and_self,cond_false]
   omega
  | false =>
   refine ⟨?_,.inr rfl⟩
   simp only [cond_false,leftM,ran1,h1,hMand,Bool.and_self,cond_true]
   omega
theorem jp_step {j:Fu.Job} (h:JP j):JP (stepJ j):=by
 rcases h with h | ⟨h1,h2,h3,h4⟩
 ·rw [h]; left; rfl
 ·unfold stepJ
  rw [h1]
  simp only [cond_true]
  cases hd:(decide (j.Ran+1≥j.D) || decide (j.Ran+1≥j.C)) with
  | true=>exact .inl rfl
  | false =>
   simp only [Bool.or_eq_false_iff,decide_eq_false_iff_not] at hd
   exact .inr ⟨h1,by simp only [cond_false,ran1]; omega,by simp only [cond_false,ran1]; omega,by simp only [cond_false,ran1]; omega⟩
theorem jp_run {l:List Fu.Live} (h:∀ x ∈ l,JP x.J):∀ x ∈ runFirst l,JP x.J:=by
 unfold runFirst
 rcases firstL_range l with hf | ⟨h0,h1⟩
 ·rw [hf]; exact h
 ·rw [show (firstL l == -1)=false by simp; omega]
  simp only [cond_false]
  intro y hy
  rcases mem_updL hy with h2 | h2
  ·exact h y h2
  ·rw [h2]; exact jp_step (h _ (rd_memL h0 h1))
theorem mem_rd {l:List Fu.Live} {x:Fu.Live} (h:x ∈ l):∃ i:Int,0≤i∧i < l.length∧rd .live l i=x:=by
 obtain ⟨n,hn,rfl⟩:=List.mem_iff_getElem.1 h
 exact ⟨n,by omega,by omega,by simp [rd,hn]⟩
theorem W_run {l:List Fu.Live} (h:∀ x ∈ l,JP x.J) (D:Int):W (runFirst l) D=if W l D=0 then 0 else W l D-1:=by
 unfold runFirst
 rcases firstL_spec l with ⟨hf,hn⟩ | ⟨h0,h1,h2,h3⟩
 ·rw [hf]
  have:W l D=0:=(W_zero_iff h D).2 fun x hx hm=>by
   obtain ⟨i,k0,k1,rfl⟩:=mem_rd hx
   have k2:=hn i k0 k1
   unfold jobAt at k2
   rw [k2] at hm; cases hm
  simp [this]
 ·rw [show (firstL l == -1)=false by simp; omega]
  simp only [cond_false]
  rw [W_upd h0 h1]
  have hj:JP (jobAt l (firstL l)):=h _ (rd_memL h0 h1)
  obtain ⟨hl,hd⟩:=left_step hj h2
  have hpos:=(must_iff hj).1 h2
  have e1:wk D (rd .live l (firstL l))=bif decide ((jobAt l (firstL l)).Due≤D) then leftM (jobAt l (firstL l)) else 0:=rfl
  have e2:wk D { (rd .live l (firstL l)) with J:=stepJ (jobAt l (firstL l)) }=bif decide ((stepJ (jobAt l (firstL l))).Due≤D) then leftM (stepJ (jobAt l (firstL l))) else 0:=rfl
  rw [e1,e2]
  have hge:=W_ge h D (rd_memL h0 h1)
  rw [e1] at hge
  have z:stepJ (jobAt l (firstL l))=zeroJ→leftM (stepJ (jobAt l (firstL l)))=0:=fun e=>by rw [e]; rfl
  cases hD:decide ((jobAt l (firstL l)).Due≤D) with
  | true =>
   rw [hD] at hge
   simp only [cond_true] at hge ⊢
   rw [if_neg (by omega)]
   rcases hd with hd | hd
   ·have:=z hd
    cases decide ((stepJ (jobAt l (firstL l))).Due≤D) <;> simp only [cond_true,cond_false] <;> omega
   ·rw [hd,hD]
    simp only [cond_true]
    omega
  | false =>
   have hD':=of_decide_eq_false hD
   have hz:W l D=0:=(W_zero_iff h D).2 fun x hx hm=>by
    obtain ⟨i,k0,k1,rfl⟩:=mem_rd hx
    rcases h3 i k0 k1 hm with h4 | h4
    ·show D < (jobAt l i).Due; omega
    ·show D < (jobAt l i).Due; omega
   rw [if_pos hz,hz]
   simp only [cond_false]
   rcases hd with hd | hd
   ·have:=z hd
    cases decide ((stepJ (jobAt l (firstL l))).Due≤D) <;> simp only [cond_true,cond_false] <;> omega
   ·rw [hd,hD]
    simp
theorem run_mono {l l':List Fu.Live} (h:∀ x ∈ l,JP x.J) (h':∀ x ∈ l',JP x.J) (hw:∀ D,W l' D≤W l D) (D:Int):W (runFirst l') D≤W (runFirst l) D:=by
 rw [W_run h,W_run h']
 have h1:=hw D
 have h2:=W_nonneg h' D
 split <;> split <;> omega
theorem W_end {l:List Fu.Live} {t:Int} (h:∀ x ∈ l,JP x.J) (hm:l.any (missL t)=false) (D:Int):W (l.map (endL t)) D=W l D:=by
 induction l with
 | nil=>rfl
 | cons x l ih =>
  simp only [List.any_cons,Bool.or_eq_false_iff] at hm
  have h1:=ih (fun y hy=>h y (List.mem_cons_of_mem _ hy)) hm.2
  have h2:wk D (endL t x)=wk D x:=by
   have h3:=hm.1
   unfold missL at h3
   unfold wk endL atJ
   simp only
   cases ho:overJ x.J t with
   | false=>rfl
   | true =>
    rw [ho,Bool.true_and] at h3
    have:=not_must (h x (by simp)) h3
    simp only [cond_true]
    rw [this]
    have e:leftM zeroJ=0:=rfl
    rw [e]
    cases decide (zeroJ.Due≤D) <;> cases decide (x.J.Due≤D) <;> rfl
  simp only [W,List.map_cons,List.sum_cons] at *
  rw [h2]
  omega
theorem miss_iff {l:List Fu.Live} {t:Int} (h:∀ x ∈ l,JP x.J):l.any (missL t)=false↔W l t=0:=by
 rw [W_zero_iff h]
 constructor
 ·intro hm x hx hmx
  have:=List.any_eq_false.1 hm x hx
  unfold missL at this
  rw [hmx,Bool.and_true] at this
  have ho:x.J.On=true:=by unfold mustJ at hmx; simp at hmx; exact hmx.1
  unfold overJ at this
  rw [ho] at this
  simp at this
  exact this
 ·intro hm
  refine List.any_eq_false.2 fun x hx hmis=>?_
  unfold missL overJ at hmis
  simp only [Bool.and_eq_true,decide_eq_true_eq] at hmis
  have:=hm x hx hmis.2
  omega
theorem idle_iff {l:List Fu.Live}:idleL l=true↔∀ x ∈ l,mustJ x.J=false:=by
 unfold idleL
 rw [beq_iff_eq]
 rcases firstL_spec l with ⟨hf,hn⟩ | ⟨h0,h1,h2,h3⟩
 ·constructor
  ·intro _ x hx
   obtain ⟨i,k0,k1,rfl⟩:=mem_rd hx
   exact hn i k0 k1
  ·intro _; exact hf
 ·constructor
  ·intro e; omega
  ·intro hn
   have:=hn _ (rd_memL h0 h1)
   unfold jobAt at h2
   rw [this] at h2; cases h2
theorem idle_W {l:List Fu.Live} (h:∀ x ∈ l,JP x.J):idleL l=true↔∀ D,W l D=0:=by
 rw [idle_iff]
 constructor
 ·intro hn D
  exact (W_zero_iff h D).2 fun x hx hm=>by rw [hn x hx] at hm; cases hm
 ·intro hw x hx
  cases hm:mustJ x.J with
  | false=>rfl
  | true=>have:=(W_zero_iff h x.J.Due).1 (hw x.J.Due) x hx hm; omega
end Go.Fx
namespace Go.Fx
open Go
abbrev Stat:=Fu.Spec × Int × Int × Int
def statOf (x:Fu.Live):Stat:=(x.S,x.P,x.At,x.N)
def freshJ (t:Int) (s:Stat):Fu.Job:=newJ s.1 s.2.2.2 t (t+s.2.1) s.1.C
def wkJ (D:Int) (j:Fu.Job):Int:=bif decide (j.Due≤D) then leftM j else 0
theorem wk_J (D:Int) (x:Fu.Live):wk D x=wkJ D x.J:=rfl
theorem wkJ_nonneg {j:Fu.Job} (h:JP j) (D:Int):0≤wkJ D j:=by
 unfold wkJ
 cases decide (j.Due≤D) with
 | true=>exact leftM_nonneg h
 | false=>exact Int.le_refl _
def oldW (D t:Int) (x:Fu.Live):Int:=bif decide (x.At≤t) then 0 else wk D x
def newW (D t:Int) (s:Stat):Int:=bif decide (s.2.2.1≤t) then wkJ D (freshJ t s) else 0
def AW (l:List Fu.Live) (t D:Int):Int:=(l.map (oldW D t)).sum
def BW (l:List Fu.Live) (t D:Int):Int:=((l.map statOf).map (newW D t)).sum
theorem jp_new (s:Fu.Spec) (n r d c:Int):JP (newJ s n r d c):=by
 unfold newJ
 cases hm:mayJ s (jobOf s n r d c) with
 | false=>exact .inl rfl
 | true =>
  have:=of_decide_eq_true hm
  rcases this.2 with h | h
  ·cases h.1
  ·exact .inr ⟨h.1,h.2.2.2.2.2.1⟩
theorem newW_nonneg (D t:Int) (s:Stat):0≤newW D t s:=by
 unfold newW
 cases decide (s.2.2.1≤t) with
 | true=>exact wkJ_nonneg (jp_new _ _ _ _ _) D
 | false=>exact Int.le_refl _
theorem oldW_nonneg {x:Fu.Live} (h:JP x.J) (D t:Int):0≤oldW D t x:=by
 unfold oldW
 cases decide (x.At≤t) with
 | true=>exact Int.le_refl _
 | false=>exact wk_nonneg h D
theorem W_begin (l:List Fu.Live) (t D:Int):W (beginAll l t) D=AW l t D+BW l t D:=by
 induction l with
 | nil=>rfl
 | cons x l ih =>
  have h:wk D (beginL t x)=oldW D t x+newW D t (statOf x):=by
   rw [wk_J]
   unfold beginL oldW newW statOf
   simp only
   cases decide (x.At≤t) with
   | true=>simp only [cond_true]; rw [Int.zero_add]; rfl
   | false=>simp only [cond_false]; rw [Int.add_zero]; rfl
  simp only [W,AW,BW,beginAll,List.map_cons,List.sum_cons] at *
  omega
theorem sum_sub {α:Type} {f:α→Int} {l l':List α} (h:List.Sublist l' l) (hf:∀ x ∈ l,0≤f x):(l'.map f).sum≤(l.map f).sum:=by
 induction h with
 | slnil=>exact Int.le_refl _
 | @cons l1 l2 a _ ih =>
  have h1:=ih fun x hx=>hf x (List.mem_cons_of_mem _ hx)
  have h2:=hf a (by simp)
  simp only [List.map_cons,List.sum_cons]
  omega
 | @cons_cons l1 l2 a _ ih =>
  have h1:=ih fun x hx=>hf x (List.mem_cons_of_mem _ hx)
  simp only [List.map_cons,List.sum_cons]
  omega
def statB (t:Int) (s:Stat):Stat:=bif decide (s.2.2.1≤t) then (s.1,s.2.1,t+s.2.1,s.2.2.2+1) else s
theorem stat_begin (t:Int) (x:Fu.Live):statOf (beginL t x)=statB t (statOf x):=by
 unfold beginL statB statOf
 simp only
 cases decide (x.At≤t) <;> rfl
theorem stat_run (l:List Fu.Live):(runFirst l).map statOf=l.map statOf:=by
 unfold runFirst
 rcases firstL_range l with hf | ⟨h0,h1⟩
 ·rw [hf]; rfl
 ·rw [show (firstL l == -1)=false by simp; omega]
  simp only [cond_false]
  obtain ⟨pre,suf,h2,h3⟩:=split_at h0 h1
  have e:∀ y:Fu.Live,statOf { rd .live l (firstL l) with J:=y.J }=statOf (rd .live l (firstL l)):=fun _=>rfl
  have e2:=e { rd .live l (firstL l) with J:=stepJ (jobAt l (firstL l)) }
  generalize ({ rd .live l (firstL l) with J:=stepJ (jobAt l (firstL l)) }:Fu.Live)=z at e2 ⊢
  generalize rd .live l (firstL l)=y at h2 e2
  rw [← h3]
  conv=>lhs; rw [h2]
  rw [upd_mid (r:=.live)]
  conv=>rhs; rw [h2]
  simp only [List.map_append,List.map_cons]
  rw [show statOf z=statOf y from e2]
theorem stat_end (l:List Fu.Live) (t:Int):(l.map (endL t)).map statOf=l.map statOf:=by
 rw [List.map_map]
 rfl
theorem stat_beginAll (l:List Fu.Live) (t:Int):(beginAll l t).map statOf=(l.map statOf).map (statB t):=by
 unfold beginAll
 rw [List.map_map,List.map_map]
 exact List.map_congr_left fun x _=>stat_begin t x
theorem AW_end {b:Int} {L:List Fu.Live} {t:Int} (h:∀ x ∈ L,LiveB b x t) (D:Int):AW (L.map (endL (t+1))) (t+1) D=W (L.map (endL (t+1))) D:=by
 induction L with
 | nil=>rfl
 | cons x l ih =>
  have h1:=ih fun y hy=>h y (List.mem_cons_of_mem _ hy)
  have h2:oldW D (t+1) (endL (t+1) x)=wk D (endL (t+1) x):=by
   unfold oldW
   cases hd:decide ((endL (t+1) x).At≤t+1) with
   | false=>rfl
   | true =>
    have hd:x.At≤t+1:=of_decide_eq_true hd
    have hz:(endL (t+1) x).J=zeroJ:=by
     obtain ⟨_,_,_,hj⟩:=h x (by simp)
     unfold endL atJ overJ
     simp only
     rcases hj with hj | ⟨k1,_,_,k2,_⟩
     ·rw [hj]; rfl
     ·rw [k1,decide_eq_true (by omega)]; rfl
    rw [wk_J,hz]
    simp only [cond_true]
    unfold wkJ
    rw [show leftM zeroJ=0 from rfl]
    cases decide (zeroJ.Due≤D) <;> rfl
  simp only [W,AW,List.map_cons,List.sum_cons] at *
  omega
theorem AllB.jp {b:Int} {l:List Fu.Live} {t:Int} (h:AllB b l t):∀ x ∈ l,JP x.J:=fun x hx=>(h.2 x hx).2.2.2.jp
theorem AllI.jp {b:Int} {l:List Fu.Live} {t:Int} (h:AllI b l t):∀ x ∈ l,JP x.J:=fun x hx=>(h.2 x hx).2.2.2.jp
theorem dom_step {b b' : Int} {B' l : List Fu.Live} {t : Int} (hB : AllB b (beginAll l t) t) (hB' : AllB b' B' t) (hw : ∀ D, W B' D ≤ W (beginAll l t) D) (hm : missedL l t = false) :
    (runFirst B').any (missL (t+1))=false∧(∀ D,W ((runFirst B').map (endL (t+1))) D≤W (stepL l t) D)∧(∀ D,AW ((runFirst B').map (endL (t+1))) (t+1) D≤AW (stepL l t) (t+1) D):=by
  have hr:=run_mono hB.jp hB'.jp hw
  have j1:=jp_run hB.jp
  have j2:=jp_run hB'.jp
  have hm':(runFirst B').any (missL (t+1))=false:=by
    rw [miss_iff j2]
    have h1:W (runFirst (beginAll l t)) (t+1)=0:=(miss_iff j1).1 hm
    have h2:=hr (t+1)
    have h3:=W_nonneg j2 (t+1)
    omega
  have hW:∀ D,W ((runFirst B').map (endL (t+1))) D≤W (stepL l t) D:=fun D=>by
    unfold stepL
    rw [W_end j2 hm',W_end j1 hm]
    exact hr D
  refine ⟨hm',hW,fun D=>?_⟩
  have:=hW D
  unfold stepL at this ⊢
  rw [AW_end (runFirst_all hB').2,AW_end (runFirst_all hB).2]
  exact this
theorem BW_sub {l l':List Fu.Live} (h:List.Sublist (l'.map statOf) (l.map statOf)) (t D:Int):BW l' t D≤BW l t D:=sum_sub h fun s _=>newW_nonneg D t s
def Less (l' l:List Fu.Live) (t:Int):Prop:=List.Sublist (l'.map statOf) (l.map statOf)∧(∀ D,AW l' t D≤AW l t D)
theorem Less.begin {l' l:List Fu.Live} {t:Int} (h:Less l' l t) (D:Int):W (beginAll l' t) D≤W (beginAll l t) D:=by
 rw [W_begin,W_begin]
 have h1:=h.2 D
 have h2:=BW_sub h.1 t D
 omega
theorem look_le:∀ (k:Nat) (l:List Fu.Live) (t:Int),t≤(lookR k l t).1∧(lookR k l t).1≤t+k
 | 0,_,_=>by simp [lookR]
 | k+1,l,t=>by
  unfold lookR
  have h:=look_le k (stepL l t) (t+1)
  cases idleL l with
  | true=>simp only [cond_true]; omega
  | false =>
   cases missedL l t with
   | true=>simp only [cond_false,cond_true]; omega
   | false=>simp only [cond_false]; omega
theorem less_look : ∀ (k : Nat) (b : Int) (l l' : List Fu.Live) (t n : Int), AllI b l t → AllI b l' t → 0 ≤ t → t + k ≤ 1099511627000 → b + k ≤ 1099511627776 → Less l' l t → (idleL l = true → idleL l' = true) → lookR k l t = (n, true) →
    ∃ m,lookR k l' t=(m,true)∧t≤m∧m≤n
  | 0,_,_,_,_,_,_,_,_,_,_,_,_,h=>by simp [lookR] at h
  | k+1,b,l,l',t,n,hA,hA',h0,h1,hb,hl,hi,h=>by
    have hle:=look_le (k+1) l t
    rw [h] at hle
    simp only at hle
    unfold lookR at h ⊢
    cases hi':idleL l' with
    | true=>exact ⟨t,rfl,Int.le_refl _,hle.1⟩
    | false =>
      cases hi2:idleL l with
      | true=>rw [hi hi2] at hi'; cases hi'
      | false =>
        cases hm:missedL l t with
        | true=>rw [hi2,hm] at h; simp at h
        | false =>
          rw [hi2,hm] at h
          simp only [cond_false] at h
          have hB:=begin_all hA h0 (by omega) (by omega)
          have hB':=begin_all hA' h0 (by omega) (by omega)
          obtain ⟨k1,k2,k3⟩:=dom_step hB hB' hl.begin hm
          have hS:=step_all hA h0 (by omega) (by omega)
          have hS':=step_all hA' h0 (by omega) (by omega)
          have hs:Less (stepL l' t) (stepL l t) (t+1):=by
            refine ⟨?_,k3⟩
            unfold stepL
            rw [stat_end,stat_end,stat_run,stat_run,stat_beginAll,stat_beginAll]
            exact hl.1.map _
          have hid:idleL (stepL l t)=true→idleL (stepL l' t)=true:=fun h5=>(idle_W hS'.jp).2 fun D=>by
            have h6:=(idle_W hS.jp).1 h5 D
            have h7:W (stepL l' t) D≤W (stepL l t) D:=k2 D
            have h8:=W_nonneg hS'.jp D
            omega
          obtain ⟨m,m1,m2,m3⟩:=less_look k (b+1) _ _ (t+1) n hS hS' (by omega) (by omega) (by omega) hs hid h
          refine ⟨m,?_,by omega,m3⟩
          rw [show missedL l' t=false from k1]
          exact m1
theorem less_sub {l l':List Fu.Live} (h:List.Sublist l' l) (hj:∀ x ∈ l,JP x.J) (t:Int):Less l' l t∧(idleL l=true→idleL l'=true) :=
 ⟨⟨h.map _,fun D=>sum_sub h fun x hx=>oldW_nonneg (hj x hx) D t⟩,fun hi=>idle_iff.2 fun x hx=>idle_iff.1 hi x (h.subset hx)⟩
theorem mayL_sub {l l':List Fu.Live} {now:Int} (h:List.Sublist l' l) (hm:mayL l now=true):mayL l' now=true:=by
 obtain ⟨h1,h2,h3⟩:=mayL_iff.1 hm
 exact mayL_iff.2 ⟨Nat.le_trans h.length_le h1,h2,fun x hx=>h3 x (h.subset hx)⟩
theorem look_less {l l':List Fu.Live} {now n:Int} (h:List.Sublist l' l) (hl:lookL l now=(n,true)):∃ m,lookL l' now=(m,true)∧now≤m∧m≤n:=by
 unfold lookL at hl
 cases hm:mayL l now with
 | false=>rw [hm] at hl; cases hl
 | true =>
  rw [hm] at hl
  obtain ⟨h1,h2,h3⟩:=mayL_all hm
  have hm':=mayL_sub h hm
  obtain ⟨h4,h5⟩:=less_sub h h1.jp now
  unfold lookL
  rw [hm']
  exact less_look 2000 _ l l' now n h1 (mayL_all hm').1 h2 (by omega) (by omega) h4 h5 hl
end Go.Fx
namespace Go.Fx
open Go
def ahead (s:Stat):Int:=s.1.C*cdiv (s.2.2.2*s.1.M) s.1.K
def sumI (f:Stat→Int) (l:List Stat):Int:=(l.map f).sum
theorem cdiv_step {a m k:Int} (hm:1≤m) (hk:m≤k):cdiv a k≤cdiv (a+m) k∧cdiv (a+m) k≤cdiv a k+1:=by
 have hk0:0 < k:=by omega
 refine ⟨cdiv_mono hk0 (by omega),?_⟩
 rw [cdiv_le_iff hk0,Int.add_mul]
 have:=(cdiv_spec (a:=a) hk0).1
 omega
theorem fresh_left {s:Stat} {t:Int} (hs:SpecOK s.1) (D:Int):wkJ D (freshJ t s)≤s.1.C*cdiv ((s.2.2.2+1)*s.1.M) s.1.K-s.1.C*cdiv (s.2.2.2*s.1.M) s.1.K:=by
 obtain ⟨h1,h2,h3,_⟩:=hs
 have e:(s.2.2.2+1)*s.1.M=s.2.2.2*s.1.M+s.1.M:=by rw [Int.add_mul,Int.one_mul]
 obtain ⟨k1,k2⟩:=cdiv_step (a:=s.2.2.2*s.1.M) (m:=s.1.M) (k:=s.1.K) (by omega) (by omega)
 rw [← e] at k1 k2
 rw [← Int.mul_sub]
 have hge:0≤s.1.C*(cdiv ((s.2.2.2+1)*s.1.M) s.1.K-cdiv (s.2.2.2*s.1.M) s.1.K):=Int.mul_nonneg (by omega) (by omega)
 have hz:wkJ D zeroJ=0:=by unfold wkJ; rw [show leftM zeroJ=0 from rfl]; cases decide (zeroJ.Due≤D) <;> rfl
 unfold freshJ newJ
 cases hm:mayJ s.1 (jobOf s.1 s.2.2.2 t (t+s.2.1) s.1.C) with
 | false =>
  simp only [cond_false]
  rw [hz]; exact hge
 | true =>
  simp only [cond_true]
  unfold wkJ leftM jobOf
  simp only
  cases decide (t+s.2.1≤D) with
  | false=>exact hge
  | true =>
   simp only [cond_true,Bool.true_and]
   cases ho:onP s.1.M s.1.K s.2.2.2 with
   | false=>exact hge
   | true =>
    unfold onP mandJ at ho
    simp only [Bool.and_eq_true,decide_eq_true_eq] at ho
    have h4:=ho.2.2
    have h5:cdiv ((s.2.2.2+1)*s.1.M) s.1.K-cdiv (s.2.2.2*s.1.M) s.1.K=1:=by omega
    rw [h5]
    simp only [cond_true]
    omega
theorem begin_le {l:List Fu.Live} (h:∀ x ∈ l,SpecOK x.S∧JP x.J) (t D:Int):W (beginAll l t) D≤W l D+(sumI ahead ((l.map statOf).map (statB t))-sumI ahead (l.map statOf)):=by
 induction l with
 | nil=>simp [W,beginAll,sumI]
 | cons x l ih =>
  have h1:=ih fun y hy=>h y (List.mem_cons_of_mem _ hy)
  obtain ⟨h2,h3⟩:=h x (by simp)
  have h4:wk D (beginL t x)≤wk D x+(ahead (statB t (statOf x))-ahead (statOf x)):=by
   have h5:=wk_nonneg h3 D
   unfold beginL statB
   have e:(statOf x).2.2.1=x.At:=rfl
   rw [e]
   cases decide (x.At≤t) with
   | false=>simp only [cond_false]; omega
   | true =>
    have h6:=fresh_left (s:=statOf x) (t:=t) h2 D
    simp only [cond_true]
    show wkJ D (freshJ t (statOf x))≤wk D x+(ahead ((statOf x).1,(statOf x).2.1,t+(statOf x).2.1,(statOf x).2.2.2+1)-ahead (statOf x))
    unfold ahead
    simp only
    omega
  simp only [W,beginAll,sumI,List.map_cons,List.sum_cons] at *
  omega
def Come (t:Int) (s s':Stat):Prop:=s'.1=s.1∧s'.2.1=s.2.1∧s'.2.2.2*s.2.1-s'.2.2.1=s.2.2.2*s.2.1-s.2.2.1∧(s'=s∨(s.2.2.2 < s'.2.2.2∧s'.2.2.1≤t-1+s.2.1))
theorem come_step {t:Int} {s s':Stat} (h:Come t s s') (ht:t≤s'.2.2.1):Come (t+1) s (statB t s'):=by
 obtain ⟨h1,h2,h3,h4⟩:=h
 have hN:s.2.2.2≤s'.2.2.2:=by
  rcases h4 with h4 | h4
  ·rw [h4]; exact Int.le_refl _
  ·omega
 unfold statB
 cases hd:decide (s'.2.2.1≤t) with
 | false =>
  simp only [cond_false]
  exact ⟨h1,h2,h3,h4.imp id fun h=>⟨h.1,by omega⟩⟩
 | true =>
  have hd:=of_decide_eq_true hd
  simp only [cond_true]
  refine ⟨h1,h2,?_,.inr ⟨by simp only; omega,by simp only; omega⟩⟩
  simp only
  rw [Int.add_mul,Int.one_mul,h2]
  omega
theorem come_le {now t:Int} {s s':Stat} (hs:perOK s.1 s.2.1=true) (h:Come t s s') (h0:now≤s.2.2.1) (h1:now < t):1048576*(ahead s'-ahead s)≤unitsV s.1 s.2.1*(t-now-1)+2097152*s.1.C:=by
 obtain ⟨⟨a1,a2,a3,_⟩,a4,a5⟩:=perOK_iff.1 hs
 have hu:=unitsV_pos hs
 obtain ⟨h2,h3,h4,h5⟩:=h
 have hu1:0≤unitsV s.1 s.2.1*(t-now-1):=Int.mul_nonneg (by omega) (by omega)
 rcases h5 with h5 | ⟨h5,h6⟩
 ·rw [h5]; omega
 ·have ek:unitsV s.1 s.2.1=cdiv (s.1.C*s.1.M*1048576) (s.1.K*s.2.1):=by simp [unitsV,hs]
  have hKP:0 < s.1.K*s.2.1:=Int.mul_pos (by omega) (by omega)
  have u1:s.1.C*s.1.M*1048576≤unitsV s.1 s.2.1*(s.1.K*s.2.1):=by rw [ek]; exact (cdiv_spec hKP).1
  unfold ahead
  rw [h2]
  have hK:0 < s.1.K:=by omega
  obtain ⟨c1,c2⟩:=cdiv_spec (a:=s'.2.2.2*s.1.M) hK
  obtain ⟨c3,c4⟩:=cdiv_spec (a:=s.2.2.2*s.1.M) hK
  -- in short names
  generalize hx:cdiv (s'.2.2.2*s.1.M) s.1.K=x at *
  generalize hy:cdiv (s.2.2.2*s.1.M) s.1.K=y at *
  generalize s.1.C=C at *
  generalize s.1.M=M at *
  generalize s.1.K=K at *
  generalize s.2.1=P at *
  generalize unitsV s.1 P=u at *
  generalize s'.2.2.2=n' at *
  generalize s.2.2.2=n at *
  generalize s'.2.2.1=a' at *
  generalize s.2.2.1=a at *
  have e1:x*K-y*K≤(n'-n)*M+K:=by rw [Int.sub_mul]; omega
  have e2:(n'-n)*P≤(t-now-1)+P:=by rw [Int.sub_mul]; omega
  -- times C P
  have hCP:0≤C*P:=Int.mul_nonneg (by omega) (by omega)
  have hCM:0≤C*M:=Int.mul_nonneg (by omega) (by omega)
  have e3:=Int.mul_le_mul_of_nonneg_left e1 hCP
  have e4:=Int.mul_le_mul_of_nonneg_left e2 hCM
  have e5:C*P*((n'-n)*M+K)=C*M*((n'-n)*P)+C*P*K:=by
   rw [Int.mul_add]
   congr 1
   rw [show C*P*((n'-n)*M)=C*M*((n'-n)*P) by
    rw [Int.mul_assoc,Int.mul_assoc C M]
    congr 1
    rw [Int.mul_comm (n'-n) M,Int.mul_comm (n'-n) P,← Int.mul_assoc,← Int.mul_assoc,Int.mul_comm P M]]
  have e6:C*M*(t-now-1+P)=C*M*(t-now-1)+C*M*P:=Int.mul_add _ _ _
  have e7:C*M*P≤C*K*P:=Int.mul_le_mul_of_nonneg_right (Int.mul_le_mul_of_nonneg_left (by omega) (by omega)) (by omega)
  have e8:C*P*K=C*K*P:=by rw [Int.mul_assoc,Int.mul_comm P K,← Int.mul_assoc]
  have e9:C*P*(x*K-y*K)=C*(x-y)*(K*P):=by
   rw [← Int.sub_mul,Int.mul_assoc,Int.mul_assoc,← Int.mul_assoc P,Int.mul_comm P,Int.mul_assoc,Int.mul_comm P K]
  have f1:=Int.mul_le_mul_of_nonneg_right u1 (show 0≤t-now-1 by omega)
  have f2:C*M*1048576*(t-now-1)=1048576*(C*M*(t-now-1)):=by rw [Int.mul_comm (C*M),Int.mul_assoc]
  have f3:u*(K*P)*(t-now-1)=u*(t-now-1)*(K*P):=by rw [Int.mul_assoc,Int.mul_comm (K*P),← Int.mul_assoc]
  have f4:C*K*P=C*(K*P):=Int.mul_assoc _ _ _
  rw [show C*x-C*y=C*(x-y) by rw [Int.mul_sub]]
  have g1:1048576*(C*(x-y))*(K*P)≤(u*(t-now-1)+2097152*C)*(K*P):=by
   rw [Int.add_mul,Int.mul_assoc 1048576,Int.mul_assoc 2097152]
   omega
  exact Int.le_of_mul_le_mul_right g1 hKP
theorem come_sum {now t : Int} {G : Stat → Stat} (h1 : now < t) : ∀ l : List Stat, (∀ s ∈ l, perOK s.1 s.2.1 = true ∧ Come t s (G s) ∧ now ≤ s.2.2.1) →
    1048576*(sumI ahead (l.map G)-sumI ahead l)≤(l.map fun s=>unitsV s.1 s.2.1).sum*(t-now-1)+2097152*(l.map fun s=>s.1.C).sum
  | [],_=>by simp [sumI]
  | s :: l,h=>by
    have ih:=come_sum h1 l fun s hs=>h s (List.mem_cons_of_mem _ hs)
    obtain ⟨h2,h3,h4⟩:=h s (by simp)
    have h5:=come_le h2 h3 h4 h1
    simp only [sumI,List.map_cons,List.sum_cons] at *
    rw [Int.add_mul]
    omega
structure Stand (now r0 D:Int) (l0:List Stat) (b:Int) (l:List Fu.Live) (t:Int):Prop where
 all:AllI b l t
 come:∃ G:Stat→Stat,l.map statOf=l0.map G∧∀ s ∈ l0,Come t s (G s)
 left:W l D+(t-now-1)≤r0+(sumI ahead (l.map statOf)-sumI ahead l0)
 goes:AW l t D=W l D
theorem not_idle_W {b:Int} {l:List Fu.Live} {t D:Int} (h:AllI b l t) (hD:t+48≤D) (hi:idleL l=false):1≤W l D:=by
 have h1:=W_nonneg h.jp D
 rcases Int.lt_or_eq_of_le h1 with h2 | h2
 ·omega
 ·exfalso
  have h3:=(W_zero_iff h.jp D).1 h2.symm
  have:idleL l=true:=idle_iff.2 fun x hx=>by
   cases hm:mustJ x.J with
   | false=>rfl
   | true =>
    have h4:=h3 x hx hm
    obtain ⟨_,h5,_,h6⟩:=h.2 x hx
    rcases h6 with h6 | ⟨_,_,_,h7,_⟩
    ·rw [h6] at hm; cases hm
    ·omega
  rw [this] at hi; cases hi
theorem spec_all {b:Int} {l:List Fu.Live} {t:Int} (h:AllI b l t):∀ x ∈ l,SpecOK x.S∧JP x.J:=fun x hx=>⟨(perOK_iff.1 (h.2 x hx).1).1,h.jp x hx⟩
theorem stat_step (l:List Fu.Live) (t:Int):(stepL l t).map statOf=(l.map statOf).map (statB t):=by
 unfold stepL
 rw [stat_end,stat_run,stat_beginAll]
theorem stand_step {now r0 D : Int} {l0 : List Stat} {b : Int} {l : List Fu.Live} {t : Int} (h : Stand now r0 D l0 b l t) (h0 : 0 ≤ t) (h1 : t ≤ 1099511627000) (hb : b ≤ 1099511627776) (hD : t + 49 ≤ D) (hi : idleL l = false) (hm : missedL l t = false) :
    Stand now r0 D l0 (b+1) (stepL l t) (t+1):=by
  have hB:=begin_all h.all h0 h1 hb
  have hR:=runFirst_all hB
  have hw:=not_idle_W h.all (D:=D) (by omega) hi
  refine ⟨step_all h.all h0 h1 hb,?_,?_,?_⟩
  · obtain ⟨G,g1,g2⟩:=h.come
    refine ⟨fun s=>statB t (G s),?_,fun s hs=>come_step (g2 s hs) ?_⟩
    · rw [stat_step,g1,List.map_map]
      rfl
    · have:G s ∈ l.map statOf:=by rw [g1]; exact List.mem_map_of_mem hs
      obtain ⟨x,hx,hxs⟩:=List.mem_map.1 this
      rw [← hxs]
      exact (h.all.2 x hx).2.1.1
  · have e1:W (stepL l t) D=W (runFirst (beginAll l t)) D:=W_end (jp_run hB.jp) hm D
    have e2:=W_run hB.jp D
    have e3:W (beginAll l t) D=AW l t D+BW l t D:=W_begin l t D
    have e4:0≤BW l t D:=by
      have:=sum_sub (f:=newW D t) (l:=l.map statOf) (l':=[]) (List.nil_sublist _) fun s _=>newW_nonneg D t s
      simpa [BW] using this
    have e5:=h.goes
    have e6:=begin_le (spec_all h.all) t D
    have e7:=h.left
    rw [stat_step]
    rw [if_neg (by omega)] at e2
    omega
  · exact AW_end hR.2 D
theorem stand_end {now r0 D : Int} {l0 : List Stat} {b : Int} {l : List Fu.Live} {t : Int} (h : Stand now r0 D l0 b l t) (ht : now < t) (hl0 : ∀ s ∈ l0, perOK s.1 s.2.1 = true ∧ now ≤ s.2.2.1) (hU : (l0.map fun s => unitsV s.1 s.2.1).sum ≤ 983040) (hw : 1 ≤ W l D) :
    65536*(t-now)+983040≤1048576*(r0+2*(l0.map fun s=>s.1.C).sum):=by
  obtain ⟨G,g1,g2⟩:=h.come
  have h1:=come_sum (now:=now) (t:=t) (G:=G) ht l0 fun s hs=>⟨(hl0 s hs).1,g2 s hs,(hl0 s hs).2⟩
  have h2:=h.left
  rw [g1] at h2
  have h3:=Int.mul_le_mul_of_nonneg_right hU (show 0≤t-now-1 by omega)
  omega
theorem soon_run {now r0 D : Int} {l0 : List Stat} (hl0 : ∀ s ∈ l0, perOK s.1 s.2.1 = true ∧ now ≤ s.2.2.1) (hU : (l0.map fun s => unitsV s.1 s.2.1).sum ≤ 983040) (k : Nat) : ∀ (b : Int) (l : List Fu.Live) (t : Int), Stand now r0 D l0 b l t → 0 ≤ t → now < t → t + k ≤ 1099511627000 → b + k ≤ 1099511627776 → t + k + 49 ≤ D →
    (t=now+1∨65536*(t-1-now)+983040≤1048576*(r0+2*(l0.map fun s=>s.1.C).sum)) →
    ((lookR k l t).1=now+1∨65536*((lookR k l t).1-1-now)+983040≤1048576*(r0+2*(l0.map fun s=>s.1.C).sum)):=by
  induction k with
  | zero=>intro b l t _ _ _ _ _ _ h; exact h
  | succ k ih =>
    intro b l t hs h0 ht h1 hb hD h
    unfold lookR
    cases hi:idleL l with
    | true=>exact h
    | false =>
      cases hm:missedL l t with
      | true=>exact h
      | false =>
        simp only [cond_false]
        have hw:=not_idle_W hs.all (D:=D) (by omega) hi
        have he:=stand_end hs ht hl0 hU hw
        refine ih (b+1) _ (t+1) (stand_step hs h0 (by omega) (by omega) (by omega) hi hm) (by omega) (by omega) (by omega) (by omega) (by omega) (.inr ?_)
        rw [show t+1-1-now=t-now by omega]
        exact he
theorem soon_look (k n : Nat) (hn : n = k + 1) (hk : k ≤ 1999) {b : Int} {l : List Fu.Live} {now : Int} (hA : AllI b l now) (h0 : 0 ≤ now) (h1 : now ≤ 549755813888) (hb : b ≤ 549755813888) (hU : (l.map fun x => unitsV x.S x.P).sum ≤ 983040) :
    now≤(lookR n l now).1∧((lookR n l now).1≤now+1∨65536*((lookR n l now).1-1-now)+983040≤1048576*(W l (now+3000)+2*(l.map fun x=>x.S.C).sum)):=by
  refine ⟨(look_le n l now).1,?_⟩
  subst hn
  unfold lookR
  cases hi:idleL l with
  | true=>left; simp only [cond_true]; omega
  | false =>
    cases hm:missedL l now with
    | true=>left; simp only [cond_true,cond_false]; omega
    | false =>
      simp only [cond_false]
      have hB:=begin_all hA h0 (by omega) (by omega)
      have hR:=runFirst_all hB
      have hs:Stand now (W l (now+3000)) (now+3000) (l.map statOf) (b+1) (stepL l now) (now+1):=by
        refine ⟨step_all hA h0 (by omega) (by omega),⟨statB now,stat_step l now,fun s hs=>?_⟩,?_,AW_end hR.2 _⟩
        · obtain ⟨x,hx,hxs⟩:=List.mem_map.1 hs
          refine come_step (s:=s) (s':=s) ⟨rfl,rfl,rfl,.inl rfl⟩ ?_
          rw [← hxs]
          exact (hA.2 x hx).2.1.1
        · have e1:W (stepL l now) (now+3000)=W (runFirst (beginAll l now)) (now+3000):=W_end (jp_run hB.jp) hm _
          have e2:=W_run hB.jp (now+3000)
          have e3:=W_nonneg hB.jp (now+3000)
          have e6:=begin_le (spec_all hA) now (now+3000)
          rw [stat_step]
          split at e2 <;> omega
      have := soon_run (now := now) (r0 := W l (now + 3000)) (D := now + 3000) (l0 := l.map statOf) (fun s hs => by
          obtain ⟨x,hx,rfl⟩:=List.mem_map.1 hs
          exact ⟨(hA.2 x hx).1,(hA.2 x hx).2.1.1⟩) (by rw [List.map_map]; exact hU) k (b+1) _ (now+1) hs (by omega) (by omega) (by omega) (by omega) (by omega) (.inl rfl)
      rw [List.map_map] at this
      rcases this with h | h
      · left; omega
      · right; exact h
end Go.Fx
namespace Go.Fx
open Go Go.Proofs
theorem fLimits:callC c33 60 197 []=.ret (.agg [.lit .i64 0,.lit .i64 1099511627776],[]):=by kernel_rfl
def conLimits:Con:=plainCon Ds.none fun _=>.agg [.lit .i64 0,.lit .i64 1099511627776]
theorem conLimits_valid:ValidCon c33.P 197 conLimits:=plainCon_valid c33_good 60 (by kernel_rfl) fun _=>⟨_,fLimits,.ret (.refl _) rfl⟩
noncomputable def c34:Cfg:=c33.addQuiet 197 conLimits
theorem c34_good:GoodCfg c34:=c33_good.addQuiet conLimits_valid plainCon_quiet
def litAt (d:Nat) (σ:St):Bool:=match nth σ.tmps d with | .lit _ _=>true | .blit _=>true | _=>false
def outE (n0 d:Nat) (h1 h2:List Nat) (s1 s2:List Sh) (σ:St):St:=bif litAt d σ then norm2 n0 [] h1 s1 σ else norm2 n0 [] h2 s2 σ
theorem weak_outE (n0 d:Nat) (h1 h2:List Nat) (s1 s2:List Sh) (σ:St):Weak n0 σ (outE n0 d h1 h2 s1 s2 σ):=by
 unfold outE
 cases litAt d σ with
 | true=>exact Weak.norm2 n0 [] h1 s1 σ
 | false=>exact Weak.norm2 n0 [] h2 s2 σ
def outU (x:Int):Bool:=decide (x < 0) || decide (x > 1099511627776)
abbrev AU1:=List Int × Int × List Int × Int
def TU1 (x:AU1 × Int):St:=⟨puts (J 48) [(4,.ptr 0 0),(5,.int .i64 x.1.2.1),(6,.view (.int .i64) x.1.2.2.1),(7,.int .i64 x.1.2.2.2),(24,.view (.int .i64) x.1.1),(25,.int .i64 x.1.1.length),(26,.int .i64 x.2)],[(0,.cells [.lit .i64 0,.lit .i64 1099511627776])],1⟩
def sU1:List Sh:=sets (Js 48) [(4,.keep),(5,.int),(6,.keep),(7,.keep),(24,.keep),(25,.int),(26,.int)]
def xU1:List Sh:=sets (Js 48) [(4,.keep),(5,.int),(6,.keep),(7,.keep)]
def rU1:List Sh:=sets (Js 48) [(2,.keep),(3,.keep)]
def eU1 (σ:St):St:=outE 1 2 [] [0] rU1 xU1 σ
def RU1:Ex × St:=(.ret,⟨puts (J 48) [(2,.lit .i64 0),(3,.blit false)],[],1⟩)
def EU1 (x:AU1):Ex × St:=(.exit 2,⟨puts (J 48) [(4,.ptr 0 0),(5,.int .i64 x.2.1),(6,.view (.int .i64) x.2.2.1),(7,.int .i64 x.2.2.2)],[(0,.cells [.lit .i64 0,.lit .i64 1099511627776])],1⟩)
theorem bU1 (x : AU1) (i : Int) : roundN c34 60 164 (loopAt c34.P 164 8) (norm2 1 [] [0] sU1) eU1 (TU1 (x, i)) =
    .ite (decide (i < x.1.length)) (.asrt (0≤i∧i < x.1.length) (.ite (outU (rd (.int .i64) x.1 i)) (.ret RU1) (.ret (.normal,TU1 ((x.1,IntKind.i64.wrap (x.2.1+rd (.int .i64) x.1 i),x.2.2),IntKind.i64.wrap (i+1)))))) (.ret (EU1 x)):=by kernel_rfl
def gU1 (σ:St):Option (AU1 × Int) :=
 match nth σ.tmps 24,nth σ.tmps 5,nth σ.tmps 6,nth σ.tmps 7,nth σ.tmps 26 with
 | .view (.int .i64) xs,.int .i64 n,.view (.int .i64) rest,.int .i64 k,.int .i64 i=>some ((xs,n,rest,k),i)
 | _,_,_,_,_=>none
def nxtU1 (x:AU1) (i:Int):AU1:=(x.1,x.2.1+rd (.int .i64) x.1 i,x.2.2)
def brkU1 (x:AU1) (i:Int):Option Unit:=bif outU (rd (.int .i64) x.1 i) then some () else none
def okU1 (x:AU1) (_:Int):Prop:=-1152921504606846976≤x.2.1∧x.2.1≤1152921504606846976
def LU1:LoopCon:=boundB 1 (norm2 1 [] [0] sU1) TU1 gU1 (fun x=>x.1.length) okU1 nxtU1 brkU1 () (fun _=>RU1) EU1
theorem lU1 (hs:SubOf c34.P 164 (.loop (loopAt c34.P 164 8))):SoundLoop c34 (loopAt c34.P 164 8) LU1 :=
 bound_loop (C:=c34) (g:=164) (l:=8) c34_good 60 1 _ _ (Weak.norm2 1 [] [0] sU1) (weak_outE 1 2 [] [0] rU1 xU1) hs TU1 gU1 (fun x=>x.1.length) okU1 nxtU1 brkU1 () (fun _=>RU1) EU1
  (fun _=>by intro h; cases h) (fun _=>by intro h; cases h) (fun _ _=>rfl)
  (fun x i h0 hi hm hok=>.of_eq (bU1 x i) (by
   unfold maxI64 at hm
   obtain ⟨h1,h2⟩:=hok
   rw [wrap_fits (n:=i+1) (by omega) (by omega)]
   refine (Tree.out_ite_true (decide_eq_true hi)).2 ⟨⟨h0,hi⟩,?_⟩
   unfold brkU1
   cases h:outU (rd (.int .i64) x.1 i) with
   | true=>exact (Tree.out_ite_true rfl).2 rfl
   | false =>
    unfold outU at h
    simp only [Bool.or_eq_false_iff,decide_eq_false_iff_not] at h
    rw [wrap_fits (by omega) (by omega)]
    exact (Tree.out_ite_false rfl).2 rfl))
  (fun x i hi=>.of_eq (bU1 x i) ((Tree.out_ite_false (decide_eq_false (by omega))).2 rfl))
noncomputable def c35:Cfg:=c34.addLoop 164 8 LU1
theorem c35_good:GoodCfg c35:=c34_good.addLoop (by unfold OneLoop; kernel_rfl) lU1
def TU2 (x:List Int × Int):St:=⟨puts (J 48) [(4,.ptr 0 0),(5,.int .i64 x.2),(6,.view (.int .i64) x.1)],[(0,.cells [.lit .i64 0,.lit .i64 1099511627776])],1⟩
def sU2:List Sh:=sets (Js 48) [(4,.keep),(5,.int),(6,.keep)]
def xU2:List Sh:=sets (Js 48) [(5,.int)]
def eU2 (σ:St):St:=outE 1 2 [] [] rU1 xU2 σ
def EU2 (n:Int):Ex × St:=(.exit 0,⟨puts (J 48) [(5,.int .i64 n)],[],1⟩)
def minL (l:List Int):Int:=minI 4 l.length
def cutU (l:List Int):List Int:=(l.take (minL l).toNat).drop (0:Int).toNat
def inU (l:List Int) (n:Int):AU1:=(cutU l,n,l,minL l)
def endU (l:List Int) (n:Int):AU1:=foldI nxtU1 (((cutU l).length:Int)-0).toNat (inU l n) 0
theorem bU2 (l : List Int) (n : Int) : roundN c35 60 164 (loopAt c35.P 164 5) (norm2 1 [] [0] sU2) eU2 (TU2 (l, n)) =
    .ite (decide ((l.length:Int) > 0)) (.asrt (0≤(0:Int)∧(0:Int)≤minL l∧minL l≤minL l∧minL l≤l.length) (.asrt (1=1∧TU1 (inU l n,0)=TU1 (inU l n,0)) (.asrt (0≤(0:Int)∧((cutU l).length:Int)≤maxI64∧okI nxtU1 brkU1 okU1 (((cutU l).length:Int)-0).toNat (inU l n) 0)
      (optT () (brkI nxtU1 brkU1 (((cutU l).length:Int)-0).toNat (inU l n) 0) (fun _=>.ret RU1)
        (.asrt (0≤(endU l n).2.2.2∧(endU l n).2.2.2≤((endU l n).2.2.1.length:Int)∧((endU l n).2.2.1.length:Int)≤((endU l n).2.2.1.length:Int))
          (.ret (.normal,TU2 (((endU l n).2.2.1.take ((endU l n).2.2.1.length:Int).toNat).drop (endU l n).2.2.2.toNat,(endU l n).2.1)))))))) (.ret (EU2 n)):=by kernel_rfl
theorem foldU1 {xs : List Int} {r : List Int × Int} (k : Nat) : ∀ (acc i : Int), 0 ≤ i → i + k = xs.length → 0 ≤ acc → acc + k * 1099511627776 ≤ 1152921504606846976 →
    okI nxtU1 brkU1 okU1 k (xs,acc,r) i∧(brkI nxtU1 brkU1 k (xs,acc,r) i).isSome=(xs.drop i.toNat).any outU∧((xs.drop i.toNat).any outU=false→foldI nxtU1 k (xs,acc,r) i=(xs,acc+(xs.drop i.toNat).sum,r)):=by
  induction k with
  | zero =>
    intro acc i h0 h1 h2 h3
    rw [drop_end (by omega)]
    exact ⟨trivial,rfl,fun _=>by simp [foldI]⟩
  | succ k ih =>
    intro acc i h0 h1 h2 h3
    have hd:=drop_rd (r:=.int .i64) (xs:=xs) h0 (by omega)
    have hok:okU1 (xs,acc,r) i:=⟨by show -1152921504606846976≤acc; omega,by show acc≤1152921504606846976; omega⟩
    rw [hd,List.any_cons]
    cases ho:outU (rd (.int .i64) xs i) with
    | true =>
      have e:brkU1 (xs,acc,r) i=some ():=by unfold brkU1; simp only; rw [ho]; rfl
      refine ⟨⟨hok,fun hn=>by rw [e] at hn; cases hn⟩,?_,fun h=>by simp at h⟩
      unfold brkI
      rw [e]
      rfl
    | false =>
      have e:brkU1 (xs,acc,r) i=none:=by unfold brkU1; simp only; rw [ho]; rfl
      have ho':=ho
      unfold outU at ho'
      simp only [Bool.or_eq_false_iff,decide_eq_false_iff_not] at ho'
      obtain ⟨k1,k2,k3⟩:=ih (acc+rd (.int .i64) xs i) (i+1) (by omega) (by omega) (by omega) (by omega)
      refine ⟨⟨hok,fun _=>k1⟩,?_,fun h=>?_⟩
      · unfold brkI
        rw [e]
        exact k2
      · rw [Bool.false_or] at h
        unfold foldI
        refine (k3 h).trans ?_
        rw [List.sum_cons,Int.add_assoc]
def okU2 (l:List Int) (n:Int):Prop:=l.length≤1000∧0≤n∧n+l.length*1099511627776≤1152921504606846976
def LxU2 (x:List Int × Int):Tree (Ex × St):=.asrt (okU2 x.1 x.2) (.ite (x.1.any outU) (.ret RU1) (.ret (EU2 (x.2+x.1.sum))))
def gU2 (σ:St):Option (List Int × Int) :=
 match nth σ.tmps 5,nth σ.tmps 6 with
 | .int .i64 n,.view (.int .i64) l=>some (l,n)
 | _,_=>none
def LU2:LoopCon:=entry 1 (norm2 1 [] [0] sU2) TU2 gU2 LxU2
theorem cut_res {l:List Int} (h:l.length≤1000):cutU l=l.take (minL l).toNat∧(l.take (l.length:Int).toNat).drop (minL l).toNat=l.drop (minL l).toNat:=by
 unfold cutU
 rw [show (0:Int).toNat=0 from rfl,List.drop_zero,show (l.length:Int).toNat=l.length by omega,List.take_length]
 exact ⟨rfl,rfl⟩
theorem sumU {l:List Int} (h:l.any outU=false):0≤l.sum∧l.sum≤l.length*1099511627776:=by
 induction l with
 | nil=>simp
 | cons x l ih =>
  rw [List.any_cons,Bool.or_eq_false_iff] at h
  have h1:=ih h.2
  have h2:=h.1
  unfold outU at h2
  simp only [Bool.or_eq_false_iff,decide_eq_false_iff_not] at h2
  rw [List.sum_cons,List.length_cons]
  omega
theorem lU2 (hs:SubOf c35.P 164 (.loop (loopAt c35.P 164 5))):SoundLoop c35 (loopAt c35.P 164 5) LU2:=by
 refine loop_rule3 (C:=c35) (g:=164) (l:=5) c35_good 60 1 _ _ (Weak.norm2 1 [] [0] sU2) (weak_outE 1 2 [] [] rU1 xU2) hs TU2 LxU2 (fun x=>x.1.length) (fun x q h=>?_) entry_out
 obtain ⟨l,n⟩:=x
 obtain ⟨⟨h1,h2,h3⟩,h⟩:=Tree.out_asrt.1 h
 simp only at h1 h2 h3 h
 refine .of_eq (bU2 l n) ?_
 obtain ⟨e1,e2⟩:=cut_res h1
 rcases Nat.eq_zero_or_pos l.length with hz | hz
 ·have hl:l=[]:=List.eq_nil_of_length_eq_zero hz
  subst hl
  refine Tree.wp_ite.2 ⟨fun hn=>by simp at hn,fun _=>?_⟩
  have h':=(Tree.out_ite_false (c:=([]:List Int).any outU) rfl).1 h
  have h'':EU2 (n+([]:List Int).sum)=q:=h'
  rw [show n+([]:List Int).sum=n by simp] at h''
  exact Rnd.out h''
 ·have hm:minL l=4∧4≤l.length∨minL l=l.length∧l.length≤4:=by unfold minL minI; split <;> omega
  have hc:(cutU l).length=(minL l).toNat:=by rw [e1,List.length_take]; omega
  have hlen:(cutU l).length≤l.length:=by omega
  have hb1:n+((((cutU l).length:Int)-0).toNat:Int)*1099511627776≤1152921504606846976:=by
   generalize (cutU l).length=c at hlen
   generalize l.length=a at hlen h3
   have:(((c:Int)-0).toNat:Int)=c:=by omega
   rw [this]
   omega
  obtain ⟨k1,k2,k3⟩:=foldU1 (xs:=cutU l) (r:=(l,minL l)) (((cutU l).length:Int)-0).toNat n 0 (Int.le_refl _) (by omega) h2 hb1
  rw [show (0:Int).toNat=0 from rfl,List.drop_zero] at k2 k3
  have hany:l.any outU=((cutU l).any outU || (l.drop (minL l).toNat).any outU):=by
   rw [e1,← List.any_append,List.take_append_drop]
  have hsum:l.sum=(cutU l).sum+(l.drop (minL l).toNat).sum:=by
   rw [e1,← List.sum_append,List.take_append_drop]
  refine Tree.wp_ite.2 ⟨fun _=>⟨⟨by omega,by omega,by omega,by omega⟩,⟨rfl,rfl⟩,⟨Int.le_refl _,by unfold maxI64; omega,k1⟩,?_⟩,fun hn=>by have:=of_decide_eq_false hn; omega⟩
  cases hb:(cutU l).any outU with
  | true =>
   rw [hb] at k2
   rw [hany,hb,Bool.true_or] at h
   have h':=(Tree.out_ite_true rfl).1 h
   cases hk:brkI nxtU1 brkU1 (((cutU l).length:Int)-0).toNat (inU l n) 0 with
   | none=>rw [show brkI nxtU1 brkU1 (((cutU l).length:Int)-0).toNat (cutU l,n,l,minL l) 0=none from hk] at k2; cases k2
   | some b=>exact Tree.wp_ite.2 ⟨fun _=>Rnd.ret h',fun hn=>by cases hn⟩
  | false =>
   rw [hb] at k2
   have hk:brkI nxtU1 brkU1 (((cutU l).length:Int)-0).toNat (inU l n) 0=none:=by
    cases hk:brkI nxtU1 brkU1 (((cutU l).length:Int)-0).toNat (inU l n) 0 with
    | none=>rfl
    | some b=>rw [show brkI nxtU1 brkU1 (((cutU l).length:Int)-0).toNat (cutU l,n,l,minL l) 0=some b from hk] at k2; cases k2
   have hf:endU l n=(cutU l,n+(cutU l).sum,l,minL l):=k3 hb
   rw [hk,hf]
   refine Tree.wp_ite.2 ⟨fun hn=>(by cases hn),fun _=>⟨⟨by simp only; omega,by simp only; omega,Int.le_refl _⟩,?_⟩⟩
   rw [e2]
   have hs1:=sumU hb
   have hl2:(l.drop (minL l).toNat).length+(cutU l).length=l.length:=by rw [List.length_drop]; omega
   refine Rnd.go (m:=fun x:List Int × Int=>x.1.length) (x:=(l,n)) (l.drop (minL l).toNat,n+(cutU l).sum) (by simp only; omega) ?_
   rw [hany,hb,Bool.false_or,hsum,← Int.add_assoc] at h
   refine Tree.out_asrt.2 ⟨⟨by simp only; omega,by simp only; omega,?_⟩,h⟩
   simp only
   generalize (l.drop (minL l).toNat).length=a at hl2 ⊢
   generalize (cutU l).length=c at hl2 hs1
   generalize l.length=d at hl2 h3
   omega
noncomputable def c36:Cfg:=c35.addLoop 164 5 LU2
theorem c36_good:GoodCfg c36:=c35_good.addLoop (by unfold OneLoop; kernel_rfl) lU2
end Go.Fx
namespace Go.Fx
open Go Go.Proofs
def sumV (l:List Int):Int × Bool:=bif decide ((l.length:Int) > 1000) || l.any outU then (0,false) else (l.sum,true)
def sumT (l:List Int):Tree (AV × List Blk) :=
 .ite (decide ((l.length:Int) > 1000)) (.ret (.tup [.lit .i64 0,.blit false],[])) (.asrt (1=1∧TU2 (l,0)=TU2 (l,0)) (.asrt (okU2 l 0) (.ite (l.any outU) (.ret (.tup [.lit .i64 0,.blit false],[])) (.ret (.tup [.int .i64 (0+l.sum),.blit true],[])))))
theorem fSumU (l:List Int):callC c36 60 164 [.view (.int .i64) l]=sumT l:=by kernel_rfl
theorem sumT_rez (l:List Int):Rez (sumT l) (.tup [.int .i64 (sumV l).1,.bool (sumV l).2],[]):=by
 unfold sumT sumV
 cases h1:decide ((l.length:Int) > 1000) with
 | true=>exact .itet rfl (.ret (.tup (.cons (.lit rfl) (.cons (.blit rfl) .nil))) rfl)
 | false =>
  have h1:=of_decide_eq_false h1
  refine .itee rfl (.asrt ⟨rfl,rfl⟩ (.asrt ⟨by omega,Int.le_refl _,by omega⟩ ?_))
  cases h2:l.any outU with
  | true=>exact .itet rfl (.ret (.tup (.cons (.lit rfl) (.cons (.blit rfl) .nil))) rfl)
  | false=>exact .itee rfl (.ret (.tup (.cons (.eq (by rw [Int.zero_add]; rfl)) (.cons (.blit rfl) .nil))) rfl)
def conSumU:Con:=plainCon (d1 (dView (.int .i64))) fun l=>.tup [.int .i64 (sumV l).1,.bool (sumV l).2]
theorem conSumU_valid:ValidCon c36.P 164 conSumU:=plainCon_valid c36_good 60 (by kernel_rfl) fun l=>⟨_,fSumU l,sumT_rez l⟩
noncomputable def c37:Cfg:=c36.addQuiet 164 conSumU
theorem c37_good:GoodCfg c37:=c36_good.addQuiet conSumU_valid plainCon_quiet
def fitsV (l:List Int):Bool:=(sumV l).2 && decide ((sumV l).1≤983040)
theorem fFits (l:List Int):callC c37 60 113 [.view (.int .i64) l]=.ret (.bool (fitsV l),[]):=by kernel_rfl
def conFits:Con:=plainCon (d1 (dView (.int .i64))) fun l=>.bool (fitsV l)
theorem conFits_valid:ValidCon c37.P 113 conFits:=plainCon_valid c37_good 60 (by kernel_rfl) fun l=>⟨_,fFits l,.ret (.refl _) rfl⟩
noncomputable def c38:Cfg:=c37.addQuiet 113 conFits
theorem c38_good:GoodCfg c38:=c37_good.addQuiet conFits_valid plainCon_quiet
end Go.Fx
namespace Go.Fx
open Go Go.Proofs
def dFix:Dc Fu.Fix:=dRow .fix
def mayF (x:Fu.Fix):Bool:=decide (unitsV x.S x.P > 0)
theorem fMayF (x:Fu.Fix):callC c38 60 112 [.agg (RTy.fix.enc x)]=.ret (.bool (mayF x),[]):=by kernel_rfl
def sumC (l:List Fu.Fix):Int:=(l.map fun x=>x.S.C).sum
theorem mayF_C {x:Fu.Fix} (h:mayF x=true):perOK x.S x.P=true∧0≤x.S.C∧x.S.C≤6:=by
 have h1:=of_decide_eq_true h
 cases hp:perOK x.S x.P with
 | false=>rw [unitsV_zero.2 hp] at h1; omega
 | true =>
  have:=(perOK_iff.1 hp).1.1
  exact ⟨rfl,by omega,by omega⟩
def conMayF:Con:=plainCon (d1 dFix) fun x=>.bool (mayF x)
theorem conMayF_valid:ValidCon c38.P 112 conMayF:=plainCon_valid c38_good 60 (by kernel_rfl) fun x=>⟨_,fMayF x,.ret (.refl _) rfl⟩
noncomputable def c39:Cfg:=c38.addQuiet 112 conMayF
theorem c39_good:GoodCfg c39:=c38_good.addQuiet conMayF_valid plainCon_quiet
abbrev AM:=List Fu.Fix × List Int
def TM (x:AM × Int):St:=⟨puts (J 31) [(0,.view .fix x.1.1),(3,.own 0),(6,.view .fix x.1.1),(7,.int .i64 x.1.1.length),(8,.int .i64 x.2)],[(0,.rows (.int .i64) 3 x.1.2)],1⟩
def sM:List Sh:=sets (Js 31) [(0,.keep),(3,.keep),(6,.keep),(7,.int),(8,.int)]
def xM:List Sh:=sets (Js 31) [(0,.keep),(3,.keep)]
def rM:List Sh:=sets (Js 31) [(2,.keep)]
def fM1 (σ:St):St:=norm2 0 [.tmp 3] [0] sM (ownSlot 3 (.int .i64) 3 σ)
def eM1 (σ:St):St:=bif litAt 2 σ then norm2 0 [] [] rM σ else norm2 0 [.tmp 3] [0] xM (ownSlot 3 (.int .i64) 3 σ)
theorem weak_fM1 (σ:St):Weak 0 σ (fM1 σ):=(Weak.ownSlot 0 3 (.int .i64) 3 σ).trans (Weak.norm2 0 [.tmp 3] [0] sM _)
theorem weak_eM1 (σ:St):Weak 0 σ (eM1 σ):=by
 unfold eM1
 cases litAt 2 σ with
 | true=>exact Weak.norm2 0 [] [] rM σ
 | false=>exact (Weak.ownSlot 0 3 (.int .i64) 3 σ).trans (Weak.norm2 0 [.tmp 3] [0] xM _)
def RM:Ex × St:=(.ret,(⟨puts (J 31) [(2,.blit false)],[],0⟩:St))
def EM (x:AM):Ex × St:=(.exit 0,⟨puts (J 31) [(0,.view .fix x.1),(3,.own 0)],[(0,.rows (.int .i64) 3 x.2)],1⟩)
theorem bM (x : AM) (i : Int) : roundN c39 60 55 (loopAt c39.P 55 3) fM1 eM1 (TM (x, i)) =
    .ite (decide (i < x.1.length)) (.asrt (0≤i∧i < x.1.length) (.ite (!mayF (rd .fix x.1 i)) (.ret RM) (.asrt ((x.2 ++ [unitsV (rd .fix x.1 i).S (rd .fix x.1 i).P]).length*8≤140737488355328) (.ret (.normal,TM ((x.1,x.2 ++ [unitsV (rd .fix x.1 i).S (rd .fix x.1 i).P]),IntKind.i64.wrap (i+1))))))) (.ret (EM x)):=by kernel_rfl
def gM1 (σ:St):Option (AM × Int) :=
 match nth σ.tmps 0,nth σ.tmps 8,σ.heap with
 | .view .fix l,.int .i64 i,[(_,.rows (.int .i64) _ o)]=>some ((l,o),i)
 | _,_,_=>none
def nxtMa (x:AM) (i:Int):AM:=(x.1,x.2 ++ [unitsV (rd .fix x.1 i).S (rd .fix x.1 i).P])
def brkM1 (x:AM) (i:Int):Option Unit:=bif !mayF (rd .fix x.1 i) then some () else none
def okM1 (x:AM) (_:Int):Prop:=(x.2.length+1)*8≤140737488355328
def LM:LoopCon:=boundB 0 fM1 TM gM1 (fun x=>x.1.length) okM1 nxtMa brkM1 () (fun _=>RM) EM
theorem lM (hs:SubOf c39.P 55 (.loop (loopAt c39.P 55 3))):SoundLoop c39 (loopAt c39.P 55 3) LM :=
 bound_loop (C:=c39) (g:=55) (l:=3) c39_good 60 0 _ _ weak_fM1 weak_eM1 hs TM gM1 (fun x=>x.1.length) okM1 nxtMa brkM1 () (fun _=>RM) EM
  (fun _=>by intro h; cases h) (fun _=>by intro h; cases h) (fun _ _=>rfl)
  (fun x i h0 hi hm hok=>.of_eq (bM x i) (by
   unfold maxI64 at hm
   rw [wrap_fits (n:=i+1) (by omega) (by omega)]
   refine (Tree.out_ite_true (decide_eq_true hi)).2 ⟨⟨h0,hi⟩,?_⟩
   unfold brkM1
   cases h:(!mayF (rd .fix x.1 i)) with
   | true=>exact (Tree.out_ite_true rfl).2 rfl
   | false=>exact (Tree.out_ite_false rfl).2 ⟨by rw [List.length_append]; exact hok,rfl⟩))
  (fun x i hi=>.of_eq (bM x i) ((Tree.out_ite_false (decide_eq_false (by omega))).2 rfl))
noncomputable def c40:Cfg:=c39.addLoop 55 3 LM
theorem c40_good:GoodCfg c40:=c39_good.addLoop (by unfold OneLoop; kernel_rfl) lM
def fixT (l:List Fu.Fix):Tree (AV × List Blk) :=
 .asrt (0=0∧TM ((l,[]),0)=TM ((l,[]),0)) (.asrt (0≤(0:Int)∧(l.length:Int)≤maxI64∧okI nxtMa brkM1 okM1 ((l.length:Int)-0).toNat (l,[]) 0)
  (optT () (brkI nxtMa brkM1 ((l.length:Int)-0).toNat (l,[]) 0) (fun _=>.ret (.blit false,[]))
   (.ret (.bool (decide (((foldI nxtMa ((l.length:Int)-0).toNat (l,[]) 0).1.length:Int)≤4) && fitsV (foldI nxtMa ((l.length:Int)-0).toNat (l,[]) 0).2),[]))))
theorem fMayFs (l:List Fu.Fix):callC c40 60 55 [.view .fix l]=fixT l:=by kernel_rfl
def unitF (x:Fu.Fix):Int:=unitsV x.S x.P
theorem foldMa {l : List Fu.Fix} (hl : (l.length : Int) < 17592186044416) (k : Nat) : ∀ (out : List Int) (i : Int), 0 ≤ i → i + k = l.length → out.length + k = l.length →
    okI nxtMa brkM1 okM1 k (l,out) i∧(brkI nxtMa brkM1 k (l,out) i).isSome=!((l.drop i.toNat).all mayF)∧((l.drop i.toNat).all mayF=true→foldI nxtMa k (l,out) i=(l,out ++ (l.drop i.toNat).map unitF)):=by
  induction k with
  | zero =>
    intro out i h0 h1 h2
    rw [drop_end (by omega)]
    exact ⟨trivial,rfl,fun _=>by simp [foldI]⟩
  | succ k ih =>
    intro out i h0 h1 h2
    have hd:=drop_rd (r:=.fix) (xs:=l) h0 (by omega)
    have hok:okM1 (l,out) i:=by show (out.length+1)*8≤140737488355328; omega
    rw [hd,List.all_cons]
    cases ho:mayF (rd .fix l i) with
    | false =>
      have e:brkM1 (l,out) i=some ():=by unfold brkM1; simp only; rw [ho]; rfl
      refine ⟨⟨hok,fun hn=>by rw [e] at hn; cases hn⟩,?_,fun h=>by simp at h⟩
      unfold brkI
      rw [e]
      rfl
    | true =>
      have e:brkM1 (l,out) i=none:=by unfold brkM1; simp only; rw [ho]; rfl
      obtain ⟨k1,k2,k3⟩:=ih (out ++ [unitF (rd .fix l i)]) (i+1) (by omega) (by omega) (by rw [List.length_append]; simp only [List.length_cons,List.length_nil]; omega)
      refine ⟨⟨hok,fun _=>k1⟩,?_,fun h=>?_⟩
      · unfold brkI
        rw [e]
        exact k2
      · rw [Bool.true_and] at h
        unfold foldI
        refine (k3 h).trans ?_
        rw [List.map_cons,List.append_assoc]
        rfl
def mayFs (l:List Fu.Fix):Bool:=l.all mayF && (decide ((l.length:Int)≤4) && fitsV (l.map unitF))
theorem fixT_rez {l:List Fu.Fix} (hl:(l.length:Int) < 17592186044416):Rez (fixT l) (.bool (mayFs l),[]):=by
 obtain ⟨k1,k2,k3⟩:=foldMa hl ((l.length:Int)-0).toNat [] 0 (Int.le_refl _) (by omega) (by simp)
 rw [show (0:Int).toNat=0 from rfl,List.drop_zero] at k2 k3
 refine .asrt ⟨rfl,rfl⟩ (.asrt ⟨Int.le_refl _,by unfold maxI64; omega,k1⟩ ?_)
 unfold mayFs
 cases ha:l.all mayF with
 | true =>
  rw [ha] at k2
  have hn:brkI nxtMa brkM1 ((l.length:Int)-0).toNat (l,[]) 0=none:=by
   cases hb:brkI nxtMa brkM1 ((l.length:Int)-0).toNat (l,[]) 0 with
   | none=>rfl
   | some b=>rw [hb] at k2; cases k2
  rw [hn,k3 ha]
  exact .itee rfl (.ret (.refl _) rfl)
 | false =>
  rw [ha] at k2
  cases hb:brkI nxtMa brkM1 ((l.length:Int)-0).toNat (l,[]) 0 with
  | none=>rw [hb] at k2; cases k2
  | some b=>exact .itet rfl (.ret (.blit rfl) rfl)
def conMayFs:Con:=flatCon (d1 (dView .fix)) (fun l=>(l.length:Int) < 17592186044416) fun l=>.bool (mayFs l)
theorem conMayFs_valid:ValidCon c40.P 55 conMayFs:=flatCon_valid c40_good 60 (by kernel_rfl) fun l h=>⟨_,fMayFs l,fixT_rez h⟩
noncomputable def c41:Cfg:=c40.addQuiet 55 conMayFs
theorem c41_good:GoodCfg c41:=c40_good.addQuiet conMayFs_valid flatCon_quiet
end Go.Fx
namespace Go.Fx
open Go Go.Proofs
abbrev AQ:=List Fu.Fix × Int
def TQ (x:AQ × Int):St:=⟨puts (J 41) [(1,.int .i64 x.1.2),(20,.view .fix x.1.1),(21,.int .i64 x.1.1.length),(22,.int .i64 x.2)],[],0⟩
def sQ:List Sh:=sets (Js 41) [(1,.int),(20,.keep),(21,.int),(22,.int)]
def eQ:List Sh:=sets (Js 41) [(1,.int)]
def EQ (x:AQ):Ex × St:=(.exit 0,⟨puts (J 41) [(1,.int .i64 x.2)],[],0⟩)
theorem bQ (x : AQ) (i : Int) : roundN c41 60 97 (loopAt c41.P 97 4) (norm2 0 [] [] sQ) (norm2 0 [] [] eQ) (TQ (x, i)) =
    .ite (decide (i < x.1.length)) (.asrt (0≤i∧i < x.1.length) (.ret (.normal,TQ ((x.1,IntKind.i64.wrap (x.2+IntKind.i64.wrap (2*(rd .fix x.1 i).S.C))),IntKind.i64.wrap (i+1))))) (.ret (EQ x)):=by kernel_rfl
def gQ (σ:St):Option (AQ × Int) :=
 match nth σ.tmps 1,nth σ.tmps 20,nth σ.tmps 22 with
 | .int .i64 r,.view .fix l,.int .i64 i=>some ((l,r),i)
 | _,_,_=>none
def nxtQ (x:AQ) (i:Int):AQ:=(x.1,x.2+2*(rd .fix x.1 i).S.C)
def okQ (x:AQ) (i:Int):Prop:=(0≤x.2∧x.2≤1099511627776)∧(0≤(rd .fix x.1 i).S.C∧(rd .fix x.1 i).S.C≤6)
def LQ:LoopCon:=boundF 0 (norm2 0 [] [] sQ) TQ gQ (fun x=>x.1.length) okQ nxtQ EQ
theorem lQ (hs:SubOf c41.P 97 (.loop (loopAt c41.P 97 4))):SoundLoop c41 (loopAt c41.P 97 4) LQ :=
 bound_fold (C:=c41) (g:=97) (l:=4) c41_good 60 0 _ _ (Weak.norm2 0 [] [] sQ) (Weak.norm2 0 [] [] eQ) hs TQ gQ (fun x=>x.1.length) okQ nxtQ EQ
  (fun _=>by intro h; cases h) (fun _ _=>rfl)
  (fun x i h0 hi hm hok=>.of_eq (bQ x i) (by
   unfold maxI64 at hm
   obtain ⟨⟨h1,h2⟩,h3,h4⟩:=hok
   rw [wrap_fits (n:=i+1) (by omega) (by omega),wrap_fits (n:=2*(rd .fix x.1 i).S.C) (by omega) (by omega),wrap_fits (by omega) (by omega)]
   exact (Tree.out_ite_true (decide_eq_true hi)).2 ⟨⟨h0,hi⟩,rfl⟩))
  (fun x i hi=>.of_eq (bQ x i) ((Tree.out_ite_false (decide_eq_false (by omega))).2 rfl))
noncomputable def c42:Cfg:=c41.addLoop 97 4 LQ
theorem c42_good:GoodCfg c42:=c41_good.addLoop (by unfold OneLoop; kernel_rfl) lQ
def boundT (l:List Fu.Fix) (r:Int):Tree (AV × List Blk) :=
 .asrt ((l.length:Int) < 17592186044416) (.ite (!mayFs l || (decide (r < 0) || decide (r > 1048576))) (.ret (.lit .i64 0,[])) (.asrt (0=0∧TQ ((l,r),0)=TQ ((l,r),0)) (.asrt (0≤(0:Int)∧(l.length:Int)≤maxI64∧okI nxtQ (fun _ _=>(none:Option Unit)) okQ ((l.length:Int)-0).toNat (l,r) 0)
  (.ret (.int .i64 (IntKind.i64.wrap (ceilV (IntKind.i64.wrap ((foldI nxtQ ((l.length:Int)-0).toNat (l,r) 0).2*1048576)) 65536+1)),[])))))
theorem fBound (l:List Fu.Fix) (r:Int):callC c42 60 97 [.view .fix l,.int .i64 r]=boundT l r:=by kernel_rfl
def planB (l:List Fu.Fix) (r:Int):Int:=bif !mayFs l || (decide (r < 0) || decide (r > 1048576)) then 0 else 16*(r+2*sumC l)+1
theorem foldQ {l : List Fu.Fix} (h : ∀ x ∈ l, 0 ≤ x.S.C ∧ x.S.C ≤ 6) (k : Nat) : ∀ (r i : Int), 0 ≤ i → i + k = l.length → 0 ≤ r → r + k * 12 ≤ 1099511627776 →
    okI nxtQ (fun _ _=>(none:Option Unit)) okQ k (l,r) i∧(foldI nxtQ k (l,r) i).2=r+2*sumC (l.drop i.toNat)∧0≤sumC (l.drop i.toNat)∧sumC (l.drop i.toNat)≤6*k:=by
  induction k with
  | zero =>
    intro r i h0 h1 h2 h3
    rw [drop_end (by omega)]
    exact ⟨trivial,by simp [foldI,sumC],by simp [sumC],by simp [sumC]⟩
  | succ k ih =>
    intro r i h0 h1 h2 h3
    have hd:=drop_rd (r:=.fix) (xs:=l) h0 (by omega)
    have hx:=h (rd .fix l i) (by
      have:rd .fix l i ∈ l.drop i.toNat:=by rw [hd]; simp
      exact List.mem_of_mem_drop this)
    have hok:okQ (l,r) i:=⟨⟨h2,by show r≤1099511627776; omega⟩,hx⟩
    obtain ⟨k1,k2,k3,k4⟩:=ih (r+2*(rd .fix l i).S.C) (i+1) (by omega) (by omega) (by omega) (by omega)
    have e:sumC (l.drop i.toNat)=(rd .fix l i).S.C+sumC (l.drop (i+1).toNat):=by rw [hd]; simp [sumC]
    refine ⟨⟨hok,fun _=>k1⟩,?_,by omega,by omega⟩
    unfold foldI
    refine k2.trans ?_
    omega
theorem boundT_rez {l:List Fu.Fix} {r:Int} (hl:(l.length:Int) < 17592186044416):Rez (boundT l r) (.int .i64 (planB l r),[]):=by
 refine .asrt hl ?_
 unfold planB
 cases hc:(!mayFs l || (decide (r < 0) || decide (r > 1048576))) with
 | true=>exact .itet rfl (.ret (.lit rfl) rfl)
 | false =>
  refine .itee rfl ?_
  simp only [Bool.or_eq_false_iff,decide_eq_false_iff_not,Bool.not_eq_false'] at hc
  obtain ⟨h1,h2,h3⟩:=hc
  unfold mayFs at h1
  simp only [Bool.and_eq_true,decide_eq_true_eq,List.all_eq_true] at h1
  obtain ⟨h4,h5,_⟩:=h1
  obtain ⟨k1,k2,k3,k4⟩:=foldQ (l:=l) (fun x hx=>(mayF_C (h4 x hx)).2) ((l.length:Int)-0).toNat r 0 (Int.le_refl _) (by omega) (by omega) (by omega)
  rw [show (0:Int).toNat=0 from rfl,List.drop_zero] at k2 k3 k4
  refine .asrt ⟨rfl,rfl⟩ (.asrt ⟨Int.le_refl _,by unfold maxI64; omega,k1⟩ (.ret (.eq ?_) rfl))
  rw [k2,wrap_fits (n:=(r+2*sumC l)*1048576) (by omega) (by omega),ceilV_of (by omega) (by omega) (by omega) (by omega)]
  have e:cdiv ((r+2*sumC l)*1048576) 65536=16*(r+2*sumC l):=cdiv_unique (by omega) (by omega) (by omega)
  rw [e,wrap_fits (by omega) (by omega)]
  rfl
def conBound:Con:=flatCon (d2 (dView .fix) dInt) (fun x=>(x.1.length:Int) < 17592186044416) fun x=>.int .i64 (planB x.1 x.2)
theorem conBound_valid:ValidCon c42.P 97 conBound:=flatCon_valid c42_good 60 (by kernel_rfl) fun x h=>⟨_,fBound x.1 x.2,boundT_rez h⟩
noncomputable def c43:Cfg:=c42.addQuiet 97 conBound
theorem c43_good:GoodCfg c43:=c42_good.addQuiet conBound_valid flatCon_quiet
end Go.Fx
