import Derived.Test.YtgefkgmfbmdooaaGreatFx3
import Derived.Orders
import Derived.Scope
import Derived.ScopeJumps
namespace Go.Fx
open Go Go.RowKit
section
variable {C:Cfg} {w0 w:World} {S:Nat→Prop} {φ:Env}
theorem nth_some {ts:List AV} {n:Nat} {a:AV} (h:nth ts n = a) (ha:a≠.any):ts[n]? = some a:=by
  induction ts generalizing n with
  | nil=>simp [nth] at h; exact absurd h.symm ha
  | cons b ts ih =>
    cases n with
    | zero=>simp only [nth] at h; simp [h]
    | succ n=>simpa using ih (by simpa [nth] using h)
theorem wantedV_inv {ops:Array Oper} {o:Oper} {ts:List AV} {tmps:Array Value} (ht:Reps w S φ ts tmps.toList) {b:Bool} (h:wantedV ops o ts = some b):Region.wanted o (yielded ops tmps) = b:=by
  unfold wantedV at h
  unfold Region.wanted
  split at h
  · rename_i hg
    cases h
    simp [hg]
  · rename_i j want hg
    simp only [hg]
    split at h
    · cases h
    · rename_i oj hj
      split at h
      · cases h
      · rename_i d hd
        split at h
        · rename_i b' hn
          obtain ⟨v,hv,hr⟩:=ht.get (nth_some hn (by simp))
          cases hr
          have hy:yielded ops tmps j = some b':=by
            have:tmps[d]? = some (.bool b'):=by simpa using hv
            simp [yielded,hj,hd,this]
          rw [hy]
          cases h
          cases want <;> cases b' <;> rfl
        · rename_i hn
          obtain ⟨v,hv,hr⟩:=ht.get (nth_some hn (by simp))
          cases hr with
          | tup hr =>
            cases hr.nil_inv
            have hy:yielded ops tmps j = none:=by
              have:tmps[d]? = some (.tuple #[]):=by simpa using hv
              simp [yielded,hj,hd,this]
            rw [hy]
            cases h
            rfl
        · cases h
theorem putT_reps {ts:List AV} {a:Act} (ht:Reps w S φ ts a.tmps.toList) (dst:Option Nat) {v:AV} {x:Value} (hv:Reps w S φ [v] [x]):Reps w S φ (putT dst v ts) (a.put dst x).tmps.toList:=by
  cases dst with
  | none=>exact ht
  | some d=>simpa [putT,Act.put,Array.toList_setIfInBounds] using ht.setNth d hv
theorem put_defers {a:Act} (h:a.defers = []) (dst:Option Nat) (x:Value):(a.put dst x).defers = []:=by cases dst <;> exact h
theorem stepW_sound {ops : Array Oper} {i : Nat} {o : Oper} {σ : St} {t : Tree (AV × Heap × Nat)} {a : Act} {K : Act → World → Prop} {Q : Exit → Act → World → Prop}
    (EP:AV × Heap × Nat→Value→World→Env→Prop) (R:Heap × Nat→World→Env→Prop)
    (hEP:∀ r x w' φ',EP r x w' φ'→Reps w' S φ' [r.1] [x]∧Mono w S φ w' S φ'∧R r.2 w' φ') (h0:R (σ.heap,σ.next) w φ)
    (hi:ops[i]? = some o) (ht:Reps w S φ σ.tmps a.tmps.toList) (hd:a.defers = [])
    (hstep:t.wp (fun r=>∀ x w' φ',EP r x w' φ'→K (a.put o.dst x) w')→o.wp C.P a w K Q)
    (h:(stepW ops i o σ t).wp fun σ'=>∀ a' w' φ',Reps w' S φ' σ'.tmps a'.tmps.toList→a'.defers = []→R (σ'.heap,σ'.next) w' φ'→K a' w'):wpOp C.P ops Q i K a w:=by
  unfold stepW at h
  unfold wpOp
  simp only [hi]
  split at h
  · exact h.elim
  · rename_i hw
    rw [wantedV_inv ht hw]
    simp only [Bool.false_eq_true,if_false]
    exact h _ w φ (putT_reps ht _ (.tup .nil .nil)) (put_defers hd _ _) h0
  · rename_i hw
    rw [wantedV_inv ht hw]
    simp only [if_true]
    refine .inl (hstep ?_)
    rw [Tree.wp_bind] at h
    refine Tree.wp_mono h fun r hr x w' φ' hp=>?_
    obtain ⟨h1,h2,h3⟩:=hEP _ _ _ _ hp
    unfold putG at hr
    split at hr
    · rename_i b _ hb
      rw [hb] at h1
      cases h1
      cases b with
      | true=>exact hr.1 rfl _ w' φ' (putT_reps (ht.mono h2) _ (.blit true .nil)) (put_defers hd _ _) h3
      | false=>exact hr.2 rfl _ w' φ' (putT_reps (ht.mono h2) _ (.blit false .nil)) (put_defers hd _ _) h3
    · exact hr _ w' φ' (putT_reps (ht.mono h2) _ h1) (put_defers hd _ _) h3
theorem stepX_sound (OK : CfgOK C) (EK : EatOK C) {self : Run} (hself : SoundRun C self) {ops : Array Oper} {i : Nat} {o : Oper} {σ : St} {a : Act} {K : Act → World → Prop} {Q : Exit → Act → World → Prop}
    (RS:RepS w0 S φ σ a w) (hi:ops[i]? = some o) (h:(stepX C self ops i o σ).wp fun σ'=>∀ a' w' φ',RepS w0 S φ' σ' a' w'→After w S φ σ.next σ'.next w' φ'→K a' w'):wpOp C.P ops Q i K a w:=by
  unfold stepX at h
  refine stepW_sound (EffPost w0 w S φ σ.next) (fun r w' φ'=>RepH w0 S φ' r.1 w'∧(∀ id,r.2≤id→φ' id = none)∧After w S φ σ.next r.2 w' φ') ?_ ⟨RS.mem,RS.fresh,After.refl _ _ _ _⟩ hi RS.tmps RS.defers ?_
    (Tree.wp_mono h fun σ' hσ a' w' φ' h1 h2 h3=>hσ a' w' φ' ⟨h1,h3.1,h3.2.1,h2⟩ h3.2.2)
  · intro r x w' φ' hp
    exact ⟨hp.val,hp.after.mono,hp.mem,hp.fresh,hp.after⟩
  · intro ht
    split at ht
    · exact cutR_sound EK RS.mem RS.fresh (fun x _=>evO_reps RS.tmps x) ht
    split at ht
    · exact effR_sound hself RS.mem RS.fresh (fun x _=>evO_reps RS.tmps x) ht
    · exact resR_sound OK RS.mem RS.fresh (fun x _=>evO_reps RS.tmps x) ht
theorem runOps_sound (OK : CfgOK C) (EK : EatOK C) {self : Run} (hself : SoundRun C self) {ops : Array Oper} {Q : Exit → Act → World → Prop} : ∀ (l : List Oper) (i : Nat) {w : World} {φ : Env} {σ : St} {a : Act}, ops.toList.drop i = l → RepS w0 S φ σ a w →
    (runOps C self ops i l σ).wp (fun σ'=>∀ a' w' φ',RepS w0 S φ' σ' a' w'→After w S φ σ.next σ'.next w' φ'→Q .normal a' w')→wpOps C.P ops Q (List.range' i l.length) a w
  | [],i,w,φ,σ,a,_,RS,h=>h a w φ RS (After.refl _ _ _ _)
  | o :: l,i,w,φ,σ,a,hl,RS,h=>by
    have hi:ops[i]? = some o:=by
      rw [← Array.getElem?_toList]
      have:(ops.toList.drop i)[0]? = some o:=by rw [hl]; rfl
      simpa using this
    have hl':ops.toList.drop (i + 1) = l:=by
      have:(ops.toList.drop i).drop 1 = l:=by rw [hl]; rfl
      rwa [List.drop_drop] at this
    show wpOps C.P ops Q (i :: List.range' (i + 1) l.length) a w
    rw [wpOps_cons]
    unfold runOps at h
    rw [Tree.wp_bind] at h
    refine stepX_sound OK EK hself RS hi (Tree.wp_mono h fun σ1 h1 a1 w1 φ1 RS1 A1=>?_)
    exact runOps_sound OK EK hself l (i + 1) hl' RS1 (Tree.wp_mono h1 fun σ2 h2 a2 w2 φ2 RS2 A2=>h2 a2 w2 φ2 RS2 (A1.trans A2))
theorem region_sound (OK : CfgOK C) (EK : EatOK C) {self : Run} (hself : SoundRun C self) {id : Nat} {ops : Array Oper} {σ : St} {a : Act} {Q : Exit → Act → World → Prop} (RS : RepS w0 S φ σ a w)
    (h:(regionX C self ops false σ).wp fun σ'=>∀ a' w' φ',RepS w0 S φ' σ' a' w'→After w S φ σ.next σ'.next w' φ'→Q .normal a' w'):(Code.region id ops false).wp C.P Q a w:=by
  refine wp_region ?_
  have:=runOps_sound OK EK hself ops.toList 0 (by simp) RS h
  rwa [Array.length_toList,← List.range_eq_range'] at this
end
end Go.Fx
namespace Go.Fx
open Go
theorem blt_iff (a b:Nat):Nat.blt a b = decide (a < b):=by
  by_cases h:a < b
  · simp [h,Nat.blt]; omega
  · simp only [h,decide_false]
    cases hb:Nat.blt a b with
    | false=>rfl
    | true=>rw [Nat.blt,Nat.ble_eq] at hb; omega
theorem ins_cons (c n:Nat) (y x:Blk) (h:Heap):Heap.ins ((c,y) :: h) n x = if n < c then (n,x) :: (c,y) :: h else (c,y) :: Heap.ins h n x:=by
  unfold Heap.ins
  rw [blt_iff]
  by_cases hn:n < c <;> simp [hn]
  cases h <;> rfl
theorem put_cons (c n:Nat) (y x:Blk) (h:Heap):Heap.put ((c,y) :: h) n x = if c = n then (c,x) :: h else (c,y) :: Heap.put h n x:=by
  unfold Heap.put
  by_cases hn:c = n
  · subst hn; simp
  · rw [beq_false hn]; simp [hn]
    cases h <;> rfl
theorem del_cons (c n:Nat) (y:Blk) (h:Heap):Heap.del ((c,y) :: h) n = if c = n then Heap.del h n else (c,y) :: Heap.del h n:=by
  conv=>lhs; unfold Heap.del
  by_cases hn:c = n
  · subst hn; simp
  · rw [beq_false hn]; simp [hn]
theorem get_cons (c n:Nat) (y:Blk) (h:Heap):Heap.get ((c,y) :: h) n = if c = n then some y else Heap.get h n:=by
  conv=>lhs; unfold Heap.get
  by_cases hn:c = n
  · subst hn; simp
  · rw [beq_false hn]; simp [hn]
theorem asc_cons (m c:Nat) (y:Blk) (h:Heap):ascH m ((c,y) :: h) = true↔m≤c∧ascH c h = true:=by
  simp [ascH]
theorem ins_ins {n m:Nat} (hne:n≠m) (x y:Blk):∀ h:Heap,(h.ins n x).ins m y = (h.ins m y).ins n x
  | []=>by
    show Heap.ins [(n,x)] m y = Heap.ins [(m,y)] n x
    rw [ins_cons,ins_cons]
    by_cases h:m < n
    · have:¬ n < m:=by omega
      simp [h,this,Heap.ins]
    · have:n < m:=by omega
      simp [h,this,Heap.ins]
  | (c,z) :: h=>by
    rw [ins_cons c n,ins_cons c m]
    by_cases h1:n < c <;> by_cases h2:m < c <;> simp only [h1,h2,if_true,if_false,ins_cons]
    · by_cases h3:m < n
      · have:¬ n < m:=by omega
        simp [h3,this]
      · have:n < m:=by omega
        simp [h3,this]
    · have:¬ m < n:=by omega
      simp [this]
    · have:¬ n < m:=by omega
      simp [this]
    · rw [ins_ins hne x y h]
theorem put_ins {n b:Nat} (hne:n≠b) (x z:Blk):∀ h:Heap,(h.get b).isSome = true→(h.ins n x).put b z = (h.put b z).ins n x
  | [],hb=>by simp [Heap.get] at hb
  | (c,y) :: h,hb=>by
    rw [get_cons] at hb
    by_cases h2:c = b
    · subst h2
      by_cases h1:n < c
      · rw [ins_cons,put_cons,if_pos h1,if_pos rfl,put_cons,if_neg hne,put_cons,if_pos rfl,ins_cons,if_pos h1]
      · rw [ins_cons,put_cons,if_neg h1,if_pos rfl,put_cons,if_pos rfl,ins_cons,if_neg h1]
    · rw [if_neg h2] at hb
      by_cases h1:n < c
      · rw [ins_cons,put_cons,if_pos h1,if_neg h2,put_cons,if_neg hne,put_cons,if_neg h2,ins_cons,if_pos h1]
      · rw [ins_cons,put_cons,if_neg h1,if_neg h2,put_cons,if_neg h2,ins_cons,if_neg h1,put_ins hne x z h hb]
theorem asc_ins (n:Nat) (x:Blk):∀ (h:Heap) (m:Nat),ascH m (h.ins n x) = true↔m≤n∧ascH m h = true
  | [],m=>by simp [Heap.ins,ascH]
  | (c,y) :: h,m=>by
    rw [ins_cons,asc_cons]
    by_cases h1:n < c
    · rw [if_pos h1,asc_cons,asc_cons]
      exact ⟨fun h=>⟨h.1,by omega,h.2.2⟩,fun h=>⟨h.1,by omega,h.2.2⟩⟩
    · rw [if_neg h1,asc_cons,asc_ins n x h c]
      exact ⟨fun h=>⟨by omega,h.1,h.2.2⟩,fun h=>⟨h.2.1,by omega,h.2.2⟩⟩
theorem asc_le {h:Heap} {m n:Nat} (hm:m≤n) (hh:ascH n h = true):ascH m h = true:=by
  cases h with
  | nil=>rfl
  | cons p h =>
    obtain ⟨c,y⟩:=p
    rw [asc_cons] at hh ⊢
    exact ⟨by omega,hh.2⟩
theorem asc_del (b:Nat):∀ (h:Heap) (m:Nat),ascH m h = true→ascH m (h.del b) = true
  | [],_,_=>rfl
  | (c,y) :: h,m,hh=>by
    rw [asc_cons] at hh
    rw [del_cons]
    split
    · exact asc_le hh.1 (asc_del b h c hh.2)
    · rw [asc_cons]; exact ⟨hh.1,asc_del b h c hh.2⟩
theorem ins_front {h:Heap} {n c:Nat} (x:Blk) (hn:n < c) (hh:ascH c h = true):h.ins n x = (n,x) :: h:=by
  cases h with
  | nil=>rfl
  | cons p h =>
    obtain ⟨d,y⟩:=p
    rw [asc_cons] at hh
    rw [ins_cons,if_pos (by omega)]
theorem del_ins {n b:Nat} (hne:n≠b) (x:Blk):∀ (h:Heap) (m:Nat),ascH m h = true→(h.ins n x).del b = (h.del b).ins n x
  | [],_,_=>by
    show Heap.del [(n,x)] b = _
    rw [del_cons,if_neg hne]
    rfl
  | (c,y) :: h,m,hh=>by
    rw [asc_cons] at hh
    by_cases h2:c = b
    · subst h2
      by_cases h1:n < c
      · rw [ins_cons,if_pos h1,del_cons,if_neg hne,del_cons,if_pos rfl]
        exact (ins_front x h1 (asc_del c h c hh.2)).symm
      · rw [ins_cons,if_neg h1,del_cons,if_pos rfl,del_cons,if_pos rfl]
        exact del_ins hne x h c hh.2
    · by_cases h1:n < c
      · rw [ins_cons,if_pos h1,del_cons,if_neg hne,del_cons,if_neg h2,ins_cons,if_pos h1]
      · rw [ins_cons,if_neg h1,del_cons,if_neg h2,del_cons,if_neg h2,ins_cons,if_neg h1,del_ins hne x h c hh.2]
theorem insBlks_get:∀ (l:List Blk) {b n:Nat} (h:Heap),¬ (b≤n∧n < b + l.length)→(insBlks b l h).get n = h.get n
  | [],_,_,_,_=>rfl
  | x :: l,b,n,h,hn=>by
    simp only [List.length_cons] at hn
    unfold insBlks
    rw [insBlks_get l _ (by omega),Heap.get_ins_ne x (by omega)]
theorem insBlks_ins {n:Nat} (x:Blk):∀ (l:List Blk) {b:Nat} (h:Heap),¬ (b≤n∧n < b + l.length)→(insBlks b l h).ins n x = insBlks b l (h.ins n x)
  | [],_,_,_=>rfl
  | y :: l,b,h,hn=>by
    simp only [List.length_cons] at hn
    unfold insBlks
    rw [insBlks_ins x l _ (by omega),ins_ins (by omega)]
theorem insBlks_insBlks:∀ (l:List Blk) {l':List Blk} {b b':Nat} (h:Heap),(b + l.length≤b'∨b' + l'.length≤b)→insBlks b l (insBlks b' l' h) = insBlks b' l' (insBlks b l h)
  | [],_,_,_,_,_=>rfl
  | x :: l,l',b,b',h,hd=>by
    simp only [List.length_cons] at hd
    show insBlks (b + 1) l ((insBlks b' l' h).ins b x) = insBlks b' l' (insBlks (b + 1) l (h.ins b x))
    rw [insBlks_ins x l' h (by omega),insBlks_insBlks l _ (by omega)]
theorem insBlks_put {n:Nat} (z:Blk):∀ (l:List Blk) {b:Nat} (h:Heap),¬ (b≤n∧n < b + l.length)→(h.get n).isSome = true→(insBlks b l h).put n z = insBlks b l (h.put n z)
  | [],_,_,_,_=>rfl
  | y :: l,b,h,hn,hs=>by
    simp only [List.length_cons] at hn
    unfold insBlks
    rw [insBlks_put z l _ (by omega) (by rw [Heap.get_ins_ne y (by omega)]; exact hs),put_ins (by omega) y z h hs]
theorem insBlks_asc:∀ (l:List Blk) {b m:Nat} (h:Heap),m≤b→(ascH m (insBlks b l h) = true↔ascH m h = true)
  | [],_,_,_,_=>Iff.rfl
  | y :: l,b,m,h,hm=>by
    unfold insBlks
    rw [insBlks_asc l _ (by omega),asc_ins]
    exact ⟨fun h=>h.2,fun h=>⟨hm,h⟩⟩
theorem insBlks_del {n:Nat}:∀ (l:List Blk) {b:Nat} (h:Heap),¬ (b≤n∧n < b + l.length)→ascH 0 h = true→(insBlks b l h).del n = insBlks b l (h.del n)
  | [],_,_,_,_=>rfl
  | y :: l,b,h,hn,hs=>by
    simp only [List.length_cons] at hn
    unfold insBlks
    rw [insBlks_del l _ (by omega) ((asc_ins b y h 0).2 ⟨Nat.zero_le _,hs⟩),del_ins (by omega) y h 0 hs]
theorem nth_setNth_ne {d t:Nat} (hne:t≠d) (v:AV):∀ ts:List AV,nth (setNth ts d v) t = nth ts t:=by
  intro ts
  induction ts generalizing d t with
  | nil=>rfl
  | cons a ts ih =>
    cases d with
    | zero =>
      cases t with
      | zero=>exact absurd rfl hne
      | succ t=>rfl
    | succ d =>
      cases t with
      | zero=>rfl
      | succ t=>simpa [setNth,nth] using ih (d:=d) (t:=t) (by omega)
theorem setNth_comm {d d':Nat} (hne:d≠d') (v v':AV):∀ ts:List AV,setNth (setNth ts d v) d' v' = setNth (setNth ts d' v') d v:=by
  intro ts
  induction ts generalizing d d' with
  | nil=>rfl
  | cons a ts ih =>
    cases d with
    | zero =>
      cases d' with
      | zero=>exact absurd rfl hne
      | succ d'=>rfl
    | succ d =>
      cases d' with
      | zero=>rfl
      | succ d'=>simp [setNth,ih (d:=d) (d':=d') (by omega)]
theorem memNat_iff (n:Nat):∀ l:List Nat,memNat n l = true↔n ∈ l
  | []=>by simp [memNat]
  | m :: l=>by simp [memNat,memNat_iff n l]
theorem apart1_spec {ops:Array Oper} {a b:Oper} (h:apart1 ops a b = true) {d:Nat} (hd:a.dst = some d):d ∉ tmpsIn b∧d ∉ guardSlot ops b∧b.dst≠some d:=by
  simp only [apart1,hd,Bool.and_eq_true,Bool.not_eq_true'] at h
  obtain ⟨⟨h1,h2⟩,h3⟩:=h
  refine ⟨fun hm=>?_,fun hm=>?_,fun hb=>?_⟩
  · rw [(memNat_iff _ _).2 hm] at h1; cases h1
  · rw [(memNat_iff _ _).2 hm] at h2; cases h2
  · rw [hb] at h3; simp at h3
theorem evO_put {ops:Array Oper} {a b:Oper} (h:apart1 ops a b = true) (v:AV) (ts:List AV):∀ x ∈ b.op.operands,evO (putT a.dst v ts) x = evO ts x:=by
  intro x hx
  cases hd:a.dst with
  | none=>rfl
  | some d =>
    cases x with
    | tmp t =>
      have h1:=(apart1_spec h hd).1
      have hne:t≠d:=by
        rintro rfl
        exact h1 (List.mem_filterMap.2 ⟨.tmp t,by simpa using hx,rfl⟩)
      exact nth_setNth_ne hne v ts
    | _=>rfl
theorem wantedV_put {ops:Array Oper} {a b:Oper} (h:apart1 ops a b = true) (v:AV) (ts:List AV):wantedV ops b (putT a.dst v ts) = wantedV ops b ts:=by
  cases hd:a.dst with
  | none=>rfl
  | some d =>
    unfold wantedV
    split
    · rfl
    · rename_i j want hg
      split
      · rfl
      · rename_i oj hj
        split
        · rfl
        · rename_i e he
          have h1:=(apart1_spec h hd).2.1
          have hne:e≠d:=by
            rintro rfl
            exact h1 (by simp [guardSlot,hg,hj,he])
          simp only [putT,nth_setNth_ne hne v ts]
theorem putT_comm {ops:Array Oper} {a b:Oper} (h:apart1 ops a b = true) (v u:AV) (ts:List AV):putT b.dst u (putT a.dst v ts) = putT a.dst v (putT b.dst u ts):=by
  cases hd:a.dst with
  | none=>rfl
  | some d =>
    cases he:b.dst with
    | none=>rfl
    | some e =>
      have h1:=(apart1_spec h hd).2.2
      have hne:d≠e:=by rintro rfl; exact h1 he
      exact setNth_comm hne v u ts
theorem map_congr_arr {α:Type} {f g:α→AV} {l:Array α} (h:∀ x ∈ l,f x = g x):l.toList.map f = l.toList.map g:=List.map_congr_left fun x hx=>h x (by simpa using hx)
theorem callTo_congr {P:Program} {ρ ρ':Operand→AV} {c:Call} (h:∀ x ∈ c.operands,ρ x = ρ' x):callTo P ρ c = callTo P ρ' c:=by
  have hargs:c.args.toList.map ρ = c.args.toList.map ρ':=map_congr_arr fun x hx=>h x (by simp [Call.operands,hx])
  unfold callTo
  rw [hargs]
  cases hc:c.callee with
  | value f=>simp only [h f (by simp [Call.operands,hc])]
  | invoke r m=>simp only [h r (by simp [Call.operands,hc])]
  | builtin b=>rfl
theorem opt_congr {ρ ρ':Operand→AV} {o:Option Operand} (h:∀ x,o = some x→ρ x = ρ' x):o.map ρ = o.map ρ':=by
  cases o with
  | none=>rfl
  | some x=>simp [h x rfl]
theorem resD_congr (C:Cfg) (base:Nat) {o:Oper} {ρ ρ':Operand→AV} (look:Nat→Option Blk) (h:∀ x ∈ o.op.operands,ρ x = ρ' x):resD C base o ρ look = resD C base o ρ' look:=by
  obtain ⟨dst,op,type,pos,after,guard⟩:=o
  have pairs:∀ ps:Array (Nat × Operand),(∀ x ∈ ps.map (·.2),ρ x = ρ' x)→(ps.toList.map fun (i,x)=>(i,ρ x)) = (ps.toList.map fun (i,x)=>(i,ρ' x)):=fun ps hp =>
    List.map_congr_left fun p hm=>by
      obtain ⟨i,x⟩:=p
      simp only [hp x (Array.mem_map.2 ⟨(i,x),by simpa using hm,rfl⟩)]
  cases op <;> simp only [Op.operands] at h <;> simp only [resD]
  case build t ps=>rw [pairs ps fun x hx=>h x (by simpa using hx)]
  case buildSlice t n ps=>rw [pairs ps fun x hx=>h x (by simpa using hx)]
  case makeFunc fn first captured =>
    rw [map_congr_arr (l:=first) fun x hx=>h x (by simp [hx]),map_congr_arr (l:=captured) fun x hx=>h x (by simp [hx])]
  case call c =>
    rw [callTo_congr h]
    have hargs:c.args.toList.map ρ = c.args.toList.map ρ':=map_congr_arr fun x hx=>h x (by simp [Call.operands,hx])
    have h0:∀ x,c.args[0]? = some x→ρ x = ρ' x:=fun x hx=>h x (by simp [Call.operands,Array.mem_of_getElem? hx])
    split
    · split
      · rename_i hx; rw [h0 _ hx]
      · rfl
    · rw [hargs]
    · rw [hargs]
    · rfl
    · rfl
  case slice t x lo hi mx =>
    rw [opt_congr (o:=lo) fun x hx=>h x (by simp [hx]),opt_congr (o:=hi) fun x hx=>h x (by simp [hx]),opt_congr (o:=mx) fun x hx=>h x (by simp [hx]),h x (by simp)]
  case makeMap t r=>cases r <;> rfl
  all_goals (first | rfl | (simp_all; done))
theorem effOp_congr (C:Cfg) {o:Oper} {ρ ρ':Operand→AV} (h:∀ x ∈ o.op.operands,ρ x = ρ' x):effOp C o ρ = effOp C o ρ':=by
  obtain ⟨dst,op,type,pos,after,guard⟩:=o
  cases op <;> simp only [Op.operands] at h <;> simp only [effOp]
  case call c=>rw [callTo_congr h]
theorem effR_congr (C:Cfg) (self:Run) {o:Oper} {ρ ρ':Operand→AV} (hp:Heap) (n:Nat) (h:∀ x ∈ o.op.operands,ρ x = ρ' x):effR C self o ρ hp n = effR C self o ρ' hp n:=by
  obtain ⟨dst,op,type,pos,after,guard⟩:=o
  cases op <;> simp only [Op.operands] at h <;> simp only [effR]
  case store t a x=>rw [h a (by simp),h x (by simp)]
  case mapUpdate t m k x=>rw [h m (by simp),h k (by simp),h x (by simp)]
  case insert t m k x=>rw [h m (by simp),h k (by simp),h x (by simp)]
  case call c =>
    rw [callTo_congr h]
    have hargs:∀ x ∈ c.args.toList,ρ x = ρ' x:=fun x hx=>h x (by simp [Call.operands,Array.mem_toList_iff.1 hx])
    split
    · split
      · rename_i s x t t2 ha _
        rw [ha] at hargs
        rw [hargs s (by simp),hargs x (by simp)]
      · rfl
    · split
      · rename_i m k t ts ha _
        rw [ha] at hargs
        rw [hargs m (by simp),hargs k (by simp)]
      · rfl
    · rfl
    · rfl
theorem resR_congr (C:Cfg) {o:Oper} {ρ ρ':Operand→AV} (hp:Heap) (n:Nat) (h:∀ x ∈ o.op.operands,ρ x = ρ' x):resR C o ρ hp n = resR C o ρ' hp n:=by
  unfold resR
  rw [resD_congr C _ _ h]
theorem drawR_congr (C : Cfg) (self : Run) (ops : Array Oper) (X ms : List Nat) (next i : Nat) {o : Oper} {ρ ρ' : Operand → AV} (hp : Heap) (n : Nat) (h : ∀ x ∈ o.op.operands, ρ x = ρ' x) :
    drawR C self ops X ms next i o ρ hp n = drawR C self ops X ms next i o ρ' hp n:=by
  unfold drawR
  rw [effOp_congr C h,effR_congr C self hp n h,resR_congr C hp n h,resD_congr C _ _ h]
  split
  · split
    · rfl
    · split
      · rename_i t a x ho
        rw [h a (by simp [ho,Op.operands]),h x (by simp [ho,Op.operands])]
      · rename_i c ho
        split
        · rename_i s x t t2 hc ha _
          have hargs:∀ x ∈ c.args.toList,ρ x = ρ' x:=fun x hx=>h x (by simp [ho,Op.operands,Call.operands,Array.mem_toList_iff.1 hx])
          rw [ha] at hargs
          rw [hargs s (by simp),hargs x (by simp)]
        · rfl
      · rfl
  · rfl
end Go.Fx
namespace Go.Fx
open Go
theorem Tree.out_bind {α β:Type} {t:Tree α} {f:α→Tree β} {x:β}:(t.bind f).Out x↔∃ a,t.Out a∧(f a).Out x:=by
  induction t with
  | ret a=>exact ⟨fun h=>⟨a,rfl,h⟩,fun ⟨b,hb,h⟩=>by cases hb; exact h⟩
  | fail=>exact ⟨fun h=>h.elim,fun ⟨_,h,_⟩=>h.elim⟩
  | ite c t e iht ihe=>cases c <;> simp [Tree.bind,Tree.Out,iht,ihe]
  | asrt p t ih =>
    simp only [Tree.bind,Tree.Out,ih]
    exact ⟨fun ⟨hp,a,h,q⟩=>⟨a,⟨hp,h⟩,q⟩,fun ⟨a,⟨hp,h⟩,q⟩=>⟨hp,a,h,q⟩⟩
theorem Tree.bind_assoc {α β γ:Type} (t:Tree α) (f:α→Tree β) (g:β→Tree γ):(t.bind f).bind g = t.bind fun a=>(f a).bind g:=by
  induction t with
  | ret a=>rfl
  | fail=>rfl
  | ite c t e iht ihe=>simp [Tree.bind,iht,ihe]
  | asrt p t ih=>simp [Tree.bind,ih]
section
variable {C:Cfg} {self:Run} {ops:Array Oper} {X ms:List Nat} {next:Nat} {ρ:Operand→AV}
theorem slot_resD {o:Oper} (h:slotOp o = true) (C:Cfg) (base:Nat) (ρ:Operand→AV):effOp C o ρ = false∧∃ T:Tree AV,∀ look,resD C base o ρ look = T.bind fun a=>.ret (a,[]):=by
  obtain ⟨dst,op,type,pos,after,guard⟩:=o
  cases op <;> simp only [slotOp,Bool.false_eq_true] at h
  case call c =>
    split at h
    · rename_i hc
      simp only [effOp,resD,hc,true_and]
      split
      · exact ⟨_,fun _=>rfl⟩
      · exact ⟨.fail,fun _=>rfl⟩
    · rename_i hc
      simp only [effOp,resD,hc,true_and]
      split
      · exact ⟨_,fun _=>rfl⟩
      · exact ⟨.fail,fun _=>rfl⟩
    · cases h
  all_goals exact ⟨rfl,_,fun _=>rfl⟩
theorem slot_call {o:Oper} (h:slotOp o = true):isConCall o = false:=by
  unfold slotOp at h
  unfold isConCall
  split at h <;> try (rename_i ho; simp [ho]; done)
  · rename_i c ho
    simp only [ho]
    split at h
    · rename_i hc; simp [hc]
    · rename_i hc; simp [hc]
    · cases h
theorem slot_form {o:Oper} (h:slotOp o = true) (i:Nat):∃ T:Tree AV,∀ hp n,drawR C self ops X ms next i o ρ hp n = T.bind fun v=>.ret (v,hp,n):=by
  obtain ⟨he,T,hT⟩:=slot_resD h C (next + 8 * i) ρ
  refine ⟨T,fun hp n=>?_⟩
  unfold drawR
  rw [he,slot_call h,Bool.false_and,hT,Tree.bind_assoc]
  rfl
theorem allowed_not {mask next k id:Nat} (hb:mask.testBit k = false) (h:next + 8 * k≤id∧id < next + 8 * k + 8):allowed mask next id = false:=by
  unfold allowed
  rw [blt_iff]
  have h1:¬ id < next:=by omega
  have h2:(id - next) / 8 = k:=by omega
  simp [h1,h2,hb]
theorem allowed_out {mask next k id:Nat} (hb:mask.testBit k = false) (h:allowed mask next id = true) (n:Nat) (hn:n≤8):¬ (next + 8 * k≤id∧id < next + 8 * k + n):=by
  intro hr
  rw [allowed_not hb (by omega)] at h
  cases h
theorem seen_insBlks {mask k:Nat} (hb:mask.testBit k = false) {l:List Blk} (hl:l.length≤8) (h:Heap):seen X mask next (insBlks (next + 8 * k) l h) = seen X mask next h:=by
  funext id
  unfold seen
  cases ha:allowed mask next id with
  | false=>simp
  | true=>rw [insBlks_get l h (allowed_out hb ha _ hl)]
theorem seen_put {mask b:Nat} (hb:memNat b X = true) (z:Blk) (h:Heap):seen X mask next (h.put b z) = seen X mask next h:=by
  funext id
  unfold seen
  by_cases e:id = b
  · subst e; simp [hb]
  · rw [Heap.get_put]; simp [e]
theorem seen_app {mask i:Nat} {k:Option Nat} (hk:∀ b,k = some b→memNat b X = true) (hb:mask.testBit i = false) (z:Blk) (h:Heap):seen X mask next ((delOpt h k).ins (next + 8 * i) z) = seen X mask next h:=by
  funext id
  unfold seen
  cases ha:allowed mask next id with
  | false=>simp
  | true =>
    have hne:id≠next + 8 * i:=fun e=>allowed_out hb ha 8 (Nat.le_refl _) (by omega)
    rw [Heap.get_ins_ne _ hne]
    cases k with
    | none=>rfl
    | some b =>
      by_cases e:id = b
      · subst e; simp [hk id rfl]
      · simp [delOpt,Heap.get_del,e]
theorem storeX_out {P : Program} {t : TypeId} {b off : Nat} {v : AV} {h h' : Heap} (ho : (storeX P t (.ptr b off) v h).Out h') :
    ∃ z,(h.get b).isSome = true∧h' = h.put b z∧∀ h2:Heap,h2.get b = h.get b→(storeX P t (.ptr b off) v h2).Out (h2.put b z):=by
  unfold storeX at ho
  split at ho
  · exact ho.elim
  rename_i n hn
  split at ho
  · rename_i hc
    simp only at ho
    split at ho
    · rename_i cs hg
      split at ho
      · rename_i hle
        cases ho
        refine ⟨_,by rw [hg]; rfl,rfl,fun h2 h3=>?_⟩
        unfold storeX
        rw [hn]
        simp only [hc,and_self,if_true]
        rw [h3,hg]
        simp only [hle,if_true]
        rfl
      · exact ho.elim
    · exact ho.elim
  · exact ho.elim
theorem appendX_kill {t t2:TypeId} {s x:AV} {lookS look:Nat→Option Blk} {r:Option Nat × Blk} (h:(appendX C t t2 s x lookS look).Out r):∀ b,r.1 = some b→∃ blk,lookS b = some blk:=by
  unfold appendX at h
  split at h
  · split at h
    · split at h
      · split at h
        · split at h
          · exact h.elim
          · split at h
            · obtain ⟨_,rfl⟩:=h
              intro b hb
              cases hb
            · split at h
              · rename_i hl
                split at h
                · split at h
                  · obtain ⟨_,rfl⟩:=h
                    intro b hb
                    cases hb
                    exact ⟨_,hl⟩
                  · exact h.elim
                · exact h.elim
              · exact h.elim
            · split at h
              · split at h
                · split at h
                  · obtain ⟨_,rfl⟩:=h
                    intro b hb
                    cases hb
                  · exact h.elim
                · exact h.elim
              · exact h.elim
            · split at h
              · obtain ⟨_,rfl⟩:=h
                intro b hb
                cases hb
              · exact h.elim
            · exact h.elim
        · exact h.elim
      · exact h.elim
    · exact h.elim
  · exact h.elim
inductive Form (C:Cfg) (self:Run) (ops:Array Oper) (X ms:List Nat) (next i:Nat) (o:Oper) (ρ:Operand→AV) (h:Heap) (n:Nat):AV × Heap × Nat→Prop
  | d (q : AV × List Blk) (hl : q.2.length ≤ 8) (hagain : ∀ (h' : Heap) n', seen X (ms.getD i 0) next h' = seen X (ms.getD i 0) next h → (drawR C self ops X ms next i o ρ h' n').Out (q.1, insBlks (next + 8 * i) q.2 h', n')) :
      Form C self ops X ms next i o ρ h n (q.1,insBlks (next + 8 * i) q.2 h,n)
  | s (hs : storeOp o = true) (b : Nat) (z : Blk) (hX : memNat b X = true) (ha : allowed (ms.getD i 0) next b = true) (hg : (h.get b).isSome = true)
      (hagain:∀ (h':Heap) n',h'.get b = h.get b→(drawR C self ops X ms next i o ρ h' n').Out (.any,h'.put b z,n')):Form C self ops X ms next i o ρ h n (.any,h.put b z,n)
  | a (hs : storeOp o = true) (k : Option Nat) (z : Blk) (hk : ∀ b, k = some b → memNat b X = true ∧ allowed (ms.getD i 0) next b = true ∧ ascH 0 h = true)
      (hagain:∀ (h':Heap) n',(∀ id,allowed (ms.getD i 0) next id = true→h'.get id = h.get id)→seen X (ms.getD i 0) next h' = seen X (ms.getD i 0) next h→(k.isSome = true→ascH 0 h' = true) →
        (drawR C self ops X ms next i o ρ h' n').Out (.own (next + 8 * i),(delOpt h' k).ins (next + 8 * i) z,n')) :
      Form C self ops X ms next i o ρ h n (.own (next + 8 * i),(delOpt h k).ins (next + 8 * i) z,n)
theorem drawR_form {i:Nat} {o:Oper} {h:Heap} {n:Nat} {r:AV × Heap × Nat} (hf:fullAt ops.toList ms i = false) (ho:(drawR C self ops X ms next i o ρ h n).Out r):Form C self ops X ms next i o ρ h n r:=by
  have ho':=ho
  unfold drawR at ho
  split at ho
  · rename_i he
    rw [hf] at ho
    simp only [Bool.false_eq_true,if_false] at ho
    split at ho
    · rename_i t a x hop
      split at ho
      · rename_i b off hb
        split at ho
        · rename_i hc
          simp only [Bool.and_eq_true] at hc
          obtain ⟨h',h1,h2⟩:=Tree.out_bind.1 ho
          cases h2
          obtain ⟨z,h3,rfl,h4⟩:=storeX_out h1
          refine .s (by simp [storeOp,hop]) b z hc.1 hc.2 h3 fun h2 n2 h5=>?_
          unfold drawR
          rw [if_pos he,hf]
          simp only [Bool.false_eq_true,if_false,hop,hb,hc,Bool.and_self,if_true]
          exact Tree.out_bind.2 ⟨_,h4 h2 h5,rfl⟩
        · exact ho.elim
      · exact ho.elim
    · rename_i c hop
      split at ho
      · rename_i s x t t2 hc ha hty
        obtain ⟨q,h1,h2⟩:=Tree.out_bind.1 ho
        obtain ⟨k,z⟩:=q
        have hkill:=appendX_kill h1
        have again : ∀ (h' : Heap) n', (∀ id, allowed (ms.getD i 0) next id = true → h'.get id = h.get id) → seen X (ms.getD i 0) next h' = seen X (ms.getD i 0) next h → (∀ b, k = some b → memNat b X = true ∧ ascH 0 h' = true) →
            (drawR C self ops X ms next i o ρ h' n').Out (.own (next + 8 * i),(delOpt h' k).ins (next + 8 * i) z,n'):=by
          intro h' n' e1 e2 e3
          unfold drawR
          rw [if_pos he,hf]
          simp only [Bool.false_eq_true,if_false,hop,hc,ha,hty]
          refine Tree.out_bind.2 ⟨(k,z),?_,?_⟩
          · rw [e2]
            have:(fun id=>if allowed (ms.getD i 0) next id = true then h'.get id else none) = fun id=>if allowed (ms.getD i 0) next id = true then h.get id else none:=by
              funext id
              split
              · rename_i hal; exact e1 id hal
              · rfl
            rw [this]
            exact h1
          · cases k with
            | none=>exact rfl
            | some b =>
              simp only [(e3 b rfl).1,(e3 b rfl).2,Bool.and_self,if_true,delOpt]
              exact rfl
        cases k with
        | none =>
          cases h2
          exact .a (by simp [storeOp,hop,hc]) none z (fun b hb=>by cases hb) fun h' n' e1 e2 e3=>again h' n' e1 e2 fun b hb=>by cases hb
        | some b =>
          simp only at h2
          split at h2
          · rename_i hm
            simp only [Bool.and_eq_true] at hm
            cases h2
            obtain ⟨blk,hblk⟩:=hkill b rfl
            have hal:allowed (ms.getD i 0) next b = true:=by
              by_cases hal:allowed (ms.getD i 0) next b = true
              · exact hal
              · rw [if_neg hal] at hblk
                cases hblk
            exact .a (by simp [storeOp,hop,hc]) (some b) z (fun b' hb=>by cases hb; exact ⟨hm.1,hal,hm.2⟩) fun h' n' e1 e2 e3=>again h' n' e1 e2 fun b' hb=>by cases hb; exact ⟨hm.1,e3 rfl⟩
          · exact h2.elim
      · exact ho.elim
    · exact ho.elim
  · rename_i he
    rw [hf,Bool.and_false,if_neg (by decide)] at ho
    obtain ⟨q,h1,h2⟩:=Tree.out_bind.1 ho
    split at h2
    · rename_i hl
      cases h2
      refine .d q hl fun h' n' e=>?_
      unfold drawR
      rw [if_neg he,hf,Bool.and_false,if_neg (by decide),e]
      exact Tree.out_bind.2 ⟨q,h1,by rw [if_pos hl]; rfl⟩
    · exact h2.elim
theorem drawR_swap {k i : Nat} {ok oi : Oper} {h : Heap} {n : Nat} {rk ri : AV × Heap × Nat} (hne : k ≠ i) (b1 : (ms.getD i 0).testBit k = false) (b2 : (ms.getD k 0).testBit i = false)
    (hfull:slotOp ok = false→slotOp oi = false→fullAt ops.toList ms k = false∧fullAt ops.toList ms i = false) (hst:(storeOp ok && storeOp oi) = false)
    (h1:(drawR C self ops X ms next k ok ρ h n).Out rk) (h2:(drawR C self ops X ms next i oi ρ rk.2.1 rk.2.2).Out ri) :
    ∃ ri' rk',(drawR C self ops X ms next i oi ρ h n).Out ri'∧ri'.1 = ri.1∧(drawR C self ops X ms next k ok ρ ri'.2.1 ri'.2.2).Out rk'∧rk'.1 = rk.1∧rk'.2 = ri.2:=by
  cases sk:slotOp ok with
  | true =>
    obtain ⟨T,hT⟩:=slot_form (C:=C) (self:=self) (ops:=ops) (X:=X) (ms:=ms) (next:=next) (ρ:=ρ) sk k
    rw [hT] at h1
    obtain ⟨v,h3,h4⟩:=Tree.out_bind.1 h1
    cases h4
    exact ⟨ri,(v,ri.2.1,ri.2.2),h2,rfl,by rw [hT]; exact Tree.out_bind.2 ⟨v,h3,rfl⟩,rfl,rfl⟩
  | false =>
    cases si:slotOp oi with
    | true =>
      obtain ⟨T,hT⟩:=slot_form (C:=C) (self:=self) (ops:=ops) (X:=X) (ms:=ms) (next:=next) (ρ:=ρ) si i
      rw [hT] at h2
      obtain ⟨v,h3,h4⟩:=Tree.out_bind.1 h2
      cases h4
      exact ⟨(v,h,n),rk,by rw [hT]; exact Tree.out_bind.2 ⟨v,h3,rfl⟩,rfl,h1,rfl,rfl⟩
    | false =>
      obtain ⟨f1,f2⟩:=hfull sk si
      have F1:=drawR_form f1 h1
      have F2:=drawR_form f2 h2
      cases F1 with
      | d q hl again =>
        cases F2 with
        | d q' hl' again' =>
          simp only at again'
          refine ⟨_,_,again' h n (seen_insBlks b1 hl h).symm,rfl,again _ n (seen_insBlks b2 hl' h),rfl,?_⟩
          show (insBlks (next + 8 * k) q.2 (insBlks (next + 8 * i) q'.2 h),n) = (insBlks (next + 8 * i) q'.2 (insBlks (next + 8 * k) q.2 h),n)
          rw [insBlks_insBlks q.2 h (by omega)]
        | s hs b z hX ha hg again' =>
          simp only at again' hg
          have hout:=allowed_out b1 ha _ hl
          refine ⟨_,_,again' h n (insBlks_get q.2 h hout).symm,rfl,again _ n (seen_put hX z h),rfl,?_⟩
          show (insBlks (next + 8 * k) q.2 (h.put b z),n) = ((insBlks (next + 8 * k) q.2 h).put b z,n)
          rw [insBlks_put z q.2 h hout (by rw [← insBlks_get q.2 h hout]; exact hg)]
        | a hs kk z hk again' =>
          simp only at again' hk
          refine ⟨_,_,again' h n (fun id hid=>(insBlks_get q.2 h (allowed_out b1 hid _ hl)).symm) (seen_insBlks b1 hl h).symm (fun hs=>?_),rfl,
            again _ n (seen_app (fun b hb=>(hk b hb).1) b2 z h),rfl,?_⟩
          · cases kk with
            | none=>cases hs
            | some b=>exact (insBlks_asc q.2 h (Nat.zero_le _)).1 (hk b rfl).2.2
          · show (insBlks (next + 8 * k) q.2 ((delOpt h kk).ins (next + 8 * i) z),n) = ((delOpt (insBlks (next + 8 * k) q.2 h) kk).ins (next + 8 * i) z,n)
            cases kk with
            | none =>
              show (insBlks (next + 8 * k) q.2 (h.ins (next + 8 * i) z),n) = ((insBlks (next + 8 * k) q.2 h).ins (next + 8 * i) z,n)
              rw [insBlks_ins z q.2 h (by omega)]
            | some b =>
              obtain ⟨_,h4,h5⟩:=hk b rfl
              show (insBlks (next + 8 * k) q.2 ((h.del b).ins (next + 8 * i) z),n) = (((insBlks (next + 8 * k) q.2 h).del b).ins (next + 8 * i) z,n)
              rw [insBlks_del q.2 h (allowed_out b1 h4 _ hl) ((insBlks_asc q.2 h (Nat.zero_le _)).1 h5),insBlks_ins z q.2 _ (by omega)]
      | s hs b z hX ha hg again =>
        cases F2 with
        | d q' hl' again' =>
          simp only at again'
          have hout:=allowed_out b2 ha _ hl'
          refine ⟨_,_,again' h n (seen_put hX z h).symm,rfl,again _ n (insBlks_get q'.2 h hout),rfl,?_⟩
          show ((insBlks (next + 8 * i) q'.2 h).put b z,n) = (insBlks (next + 8 * i) q'.2 (h.put b z),n)
          rw [insBlks_put z q'.2 h hout hg]
        | s hs'=>rw [hs,hs'] at hst; cases hst
        | a hs'=>rw [hs,hs'] at hst; cases hst
      | a hs kk z hk again =>
        cases F2 with
        | d q' hl' again' =>
          simp only at again'
          refine ⟨_,_,again' h n (seen_app (fun b hb=>(hk b hb).1) b1 z h).symm,rfl,
            again _ n (fun id hid=>insBlks_get q'.2 h (allowed_out b2 hid _ hl')) (seen_insBlks b2 hl' h) (fun hs=>?_),rfl,?_⟩
          · cases kk with
            | none=>cases hs
            | some b=>exact (insBlks_asc q'.2 h (Nat.zero_le _)).2 (hk b rfl).2.2
          · show ((delOpt (insBlks (next + 8 * i) q'.2 h) kk).ins (next + 8 * k) z,n) = (insBlks (next + 8 * i) q'.2 ((delOpt h kk).ins (next + 8 * k) z),n)
            cases kk with
            | none =>
              show ((insBlks (next + 8 * i) q'.2 h).ins (next + 8 * k) z,n) = (insBlks (next + 8 * i) q'.2 (h.ins (next + 8 * k) z),n)
              rw [insBlks_ins z q'.2 h (by omega)]
            | some b =>
              obtain ⟨_,h4,h5⟩:=hk b rfl
              show (((insBlks (next + 8 * i) q'.2 h).del b).ins (next + 8 * k) z,n) = (insBlks (next + 8 * i) q'.2 ((h.del b).ins (next + 8 * k) z),n)
              rw [insBlks_del q'.2 h (allowed_out b2 h4 _ hl') h5,insBlks_ins z q'.2 _ (by omega)]
        | s hs'=>rw [hs,hs'] at hst; cases hst
        | a hs'=>rw [hs,hs'] at hst; cases hst
end
end Go.Fx
namespace Go.Fx
open Go Go.RowKit
def litG (g:Bool) (v:AV):AV:=match g,v with | true,.bool b=>.blit b | _,v=>v
theorem putG_out {g:Bool} {dst:Option Nat} {r:AV × Heap × Nat} {ts:List AV} {σ':St}:(putG g dst r ts).Out σ'↔σ' = ⟨putT dst (litG g r.1) ts,r.2.1,r.2.2⟩:=by
  obtain ⟨v,h,n⟩:=r
  cases g with
  | false=>cases v <;> exact eq_comm
  | true =>
    cases v with
    | bool b=>cases b <;> simp [putG,Tree.Out,litG,eq_comm]
    | _=>exact eq_comm
theorem stepW_out {ops : Array Oper} {i : Nat} {o : Oper} {σ σ' : St} {t : Tree (AV × Heap × Nat)} :
    (stepW ops i o σ t).Out σ'↔(wantedV ops o σ.tmps = some false∧σ' = ⟨putT o.dst (.tup []) σ.tmps,σ.heap,σ.next⟩) ∨
      (wantedV ops o σ.tmps = some true∧∃ r,t.Out r∧σ' = ⟨putT o.dst (litG (isGuard ops i) r.1) σ.tmps,r.2.1,r.2.2⟩):=by
  unfold stepW
  split
  · rename_i h; simp [h,Tree.Out]
  · rename_i h; simp [h,Tree.Out,eq_comm]
  · rename_i h
    rw [Tree.out_bind]
    simp [h,putG_out]
section
variable {C:Cfg} {self:Run} {ops:Array Oper} {X ms:List Nat} {next:Nat}
theorem drawStep_swap {k i : Nat} {ok oi : Oper} (hk : ops[k]? = some ok) (hi : ops[i]? = some oi) (hne : k ≠ i) (b1 : (ms.getD i 0).testBit k = false) (b2 : (ms.getD k 0).testBit i = false) (hap : apartT ops ok oi = true)
    (hfull:slotOp ok = false→slotOp oi = false→fullAt ops.toList ms k = false∧fullAt ops.toList ms i = false) (hst:(storeOp ok && storeOp oi) = false) {σ σ1 σ2:St}
    (h1:(drawStep C self ops X ms next k σ).Out σ1) (h2:(drawStep C self ops X ms next i σ1).Out σ2):∃ σ3,(drawStep C self ops X ms next i σ).Out σ3∧(drawStep C self ops X ms next k σ3).Out σ2:=by
  simp only [apartT,Bool.and_eq_true] at hap
  obtain ⟨ap1,ap2⟩:=hap
  unfold drawStep at h1 h2 ⊢
  simp only [hk,hi] at h1 h2 ⊢
  rw [stepW_out] at h1 h2
  simp only [stepW_out]
  rcases h1 with ⟨w1,rfl⟩ | ⟨w1,rk,r1,rfl⟩
  · simp only [wantedV_put ap1] at h2
    rcases h2 with ⟨w2,rfl⟩ | ⟨w2,ri,r2,rfl⟩
    · refine ⟨_,.inl ⟨w2,rfl⟩,.inl ⟨?_,?_⟩⟩
      · simp only [wantedV_put ap2]; exact w1
      · simp only [putT_comm ap1]
    · rw [drawR_congr C self ops X ms next i _ _ (evO_put ap1 _ _)] at r2
      refine ⟨_,.inr ⟨w2,ri,r2,rfl⟩,.inl ⟨?_,?_⟩⟩
      · simp only [wantedV_put ap2]; exact w1
      · simp only [putT_comm ap1]
  · simp only [wantedV_put ap1] at h2
    rcases h2 with ⟨w2,rfl⟩ | ⟨w2,ri,r2,rfl⟩
    · refine ⟨_,.inl ⟨w2,rfl⟩,.inr ⟨?_,rk,?_,?_⟩⟩
      · simp only [wantedV_put ap2]; exact w1
      · rw [drawR_congr C self ops X ms next k _ _ (evO_put ap2 _ _)]; exact r1
      · simp only [putT_comm ap1]
    · rw [drawR_congr C self ops X ms next i _ _ (evO_put ap1 _ _)] at r2
      obtain ⟨ri',rk',e1,e2,e3,e4,e5⟩:=drawR_swap hne b1 b2 hfull hst r1 r2
      refine ⟨_,.inr ⟨w2,ri',e1,rfl⟩,.inr ⟨?_,rk',?_,?_⟩⟩
      · simp only [wantedV_put ap2]; exact w1
      · rw [drawR_congr C self ops X ms next k _ _ (evO_put ap2 _ _)]; exact e3
      · simp only [putT_comm ap1,e2,e4,e5]
theorem fold_bits (acc : List Nat) (k : Nat) : ∀ (l : List Edge) (s : Nat), (l.foldl (fun s e => if Region.binds .any e then (s ||| 2 ^ e.on) ||| acc.getD e.on 0 else s) s).testBit k = true →
    s.testBit k = true∨∃ e ∈ l,Region.binds .any e = true∧(e.on = k∨(acc.getD e.on 0).testBit k = true)
  | [],s,h=>.inl h
  | e :: l,s,h=>by
    simp only [List.foldl_cons] at h
    rcases fold_bits acc k l _ h with h1 | ⟨e',h1,h2⟩
    · split at h1
      · rename_i hb
        rw [Nat.testBit_or,Nat.testBit_or,Bool.or_eq_true,Bool.or_eq_true,Nat.testBit_two_pow] at h1
        rcases h1 with (h1 | h1) | h1
        · exact .inl h1
        · exact .inr ⟨e,by simp,hb,.inl (by simpa using h1)⟩
        · exact .inr ⟨e,by simp,hb,.inr h1⟩
      · exact .inl h1
    · exact .inr ⟨e',by simp [h1],h2⟩
theorem masks_spec : ∀ (l : List Oper) (acc : List Nat), (l.foldl (fun acc o => acc ++ [maskStep acc o]) acc).take acc.length = acc ∧
    ∀ j o,l[j]? = some o→(l.foldl (fun acc o=>acc ++ [maskStep acc o]) acc)[acc.length + j]? = some (maskStep ((l.foldl (fun acc o=>acc ++ [maskStep acc o]) acc).take (acc.length + j)) o)
  | [],acc=>by simp
  | x :: l,acc=>by
    obtain ⟨h1,h2⟩:=masks_spec l (acc ++ [maskStep acc x])
    simp only [List.foldl_cons]
    generalize List.foldl (fun acc o=>acc ++ [maskStep acc o]) (acc ++ [maskStep acc x]) l = R at h1 h2 ⊢
    simp only [List.length_append,List.length_singleton] at h1 h2
    have h3:R.take acc.length = acc:=by
      have:(R.take (acc.length + 1)).take acc.length = acc:=by rw [h1]; exact List.take_left
      rwa [List.take_take,Nat.min_eq_left (by omega)] at this
    refine ⟨h3,fun j o hj=>?_⟩
    cases j with
    | zero =>
      simp at hj
      subst hj
      rw [Nat.add_zero,h3]
      have:(R.take (acc.length + 1))[acc.length]? = some (maskStep acc x):=by rw [h1]; simp
      rwa [List.getElem?_take_of_lt (by omega)] at this
    | succ j =>
      have:=h2 j o (by simpa using hj)
      rwa [show acc.length + 1 + j = acc.length + (j + 1) by omega] at this
structure DrawOK (ops:Array Oper) (ms:List Nat):Prop where
  back:∀ j o,ops[j]? = some o→∀ e ∈ o.after.toList,Region.binds .any e = true→e.on < j
  pair:∀ i j x y,i < j→ops[i]? = some x→ops[j]? = some y→(ms.getD j 0).testBit i = true∨(apartT ops x y = true∧(storeOp x && storeOp y) = false)
  bits:∀ j k,(ms.getD j 0).testBit k = true→∃ o,ops[j]? = some o∧∃ e ∈ o.after.toList,Region.binds .any e = true∧e.on < j∧(e.on = k∨(ms.getD e.on 0).testBit k = true)
theorem DrawOK.of (h:drawOk ops (masks ops.toList) = true):DrawOK ops (masks ops.toList):=by
  simp only [drawOk,Bool.and_eq_true,List.all_eq_true,List.mem_range] at h
  obtain ⟨⟨h0,h1⟩,h2⟩:=h
  have lt:∀ {j:Nat} {o:Oper},ops[j]? = some o→j < ops.size:=fun h=>(Array.getElem?_eq_some_iff.1 h).1
  have back:∀ j o,ops[j]? = some o→∀ e ∈ o.after.toList,Region.binds .any e = true→e.on < j:=by
    intro j o hj e he hb
    have:=h1 j (lt hj)
    rw [hj] at this
    simp only [Bool.and_eq_true,List.all_eq_true] at this
    have:=this.1 e he
    simpa [hb] using this
  refine ⟨back,fun i j x y hij hi hj=>?_,fun j k hb=>?_⟩
  · have:=h2 j (lt hj) i hij
    rw [hi,hj] at this
    simp only [Bool.or_eq_true,Bool.and_eq_true,Bool.not_eq_true'] at this
    exact this
  · have hspec:=(masks_spec ops.toList []).2
    cases hj:ops[j]? with
    | none =>
      have hlen:(masks ops.toList).getD j 0 = 0:=by
        have hl:∀ (l:List Oper) (acc:List Nat),(l.foldl (fun acc o=>acc ++ [maskStep acc o]) acc).length = acc.length + l.length:=by
          intro l
          induction l with
          | nil=>intro acc; simp
          | cons x l ih=>intro acc; simp only [List.foldl_cons,ih,List.length_append,List.length_cons,List.length_nil]; omega
        have hs:ops.size≤j:=Array.getElem?_eq_none_iff.1 hj
        have:=hl ops.toList []
        simp only [List.length_nil,Nat.zero_add,Array.length_toList] at this
        unfold masks
        rw [List.getD_eq_getElem?_getD,List.getElem?_eq_none (by omega)]
        rfl
      rw [hlen] at hb
      simp at hb
    | some o =>
      refine ⟨o,rfl,?_⟩
      have h3:=hspec j o (by simpa using hj)
      simp only [List.length_nil,Nat.zero_add] at h3
      have h4:(masks ops.toList).getD j 0 = maskStep ((masks ops.toList).take j) o:=by
        unfold masks
        rw [List.getD_eq_getElem?_getD,h3]
        rfl
      rw [h4] at hb
      unfold maskStep at hb
      rcases fold_bits _ _ _ _ hb with h5 | ⟨e,he,h6,h7⟩
      · simp at h5
      · have h8:=back j o hj e he h6
        refine ⟨e,he,h6,h8,h7.imp id fun h9=>?_⟩
        rw [List.getD_eq_getElem?_getD,List.getElem?_take_of_lt h8] at h9
        rwa [List.getD_eq_getElem?_getD]
theorem DrawOK.lt {ms:List Nat} (D:DrawOK ops ms):∀ j k,(ms.getD j 0).testBit k = true→k < j:=by
  intro j
  induction j using Nat.strongRecOn with
  | _ j ih =>
    intro k hb
    obtain ⟨o,ho,e,he,h1,h2,h3⟩:=D.bits j k hb
    rcases h3 with h3 | h3
    · omega
    · have:=ih e.on h2 k h3; omega
theorem drawOps_front {i : Nat} {oi : Oper} (hi : ops[i]? = some oi) {l2 : List Nat} {Q : St → Prop} : ∀ (l1 : List Nat) (σ : St),
    (∀ k ∈ l1,k≠i∧(ms.getD i 0).testBit k = false∧(ms.getD k 0).testBit i = false∧∃ ok,ops[k]? = some ok∧apartT ops ok oi = true∧(storeOp ok && storeOp oi) = false ∧
      (slotOp ok = false→slotOp oi = false→fullAt ops.toList ms k = false∧fullAt ops.toList ms i = false)) →
    (drawOps C self ops X ms next (l1 ++ i :: l2) σ).wp Q→(drawOps C self ops X ms next (i :: (l1 ++ l2)) σ).wp Q
  | [],_,_,h=>h
  | k :: l1,σ,hk,h=>by
    obtain ⟨hne,b1,b2,ok,hok,hap,hst,hfull⟩:=hk k (by simp)
    have ih:∀ σ,(drawOps C self ops X ms next (l1 ++ i :: l2) σ).wp Q→(drawOps C self ops X ms next (i :: (l1 ++ l2)) σ).wp Q:=fun σ=>drawOps_front hi l1 σ fun k' hk'=>hk k' (by simp [hk'])
    simp only [List.cons_append] at h ⊢
    unfold drawOps at h
    rw [Tree.wp_bind] at h
    obtain ⟨σ1,o1,h1⟩:=Tree.wp_out.1 h
    have h2:=ih σ1 h1
    unfold drawOps at h2
    rw [Tree.wp_bind] at h2
    obtain ⟨σ2,o2,h3⟩:=Tree.wp_out.1 h2
    obtain ⟨σ3,o3,o4⟩:=drawStep_swap hok hi hne b1 b2 hap hfull hst o1 o2
    unfold drawOps
    rw [Tree.wp_bind]
    refine Tree.wp_of_out o3 ?_
    unfold drawOps
    rw [Tree.wp_bind]
    exact Tree.wp_of_out o4 h3
end
end Go.Fx
namespace Go.Fx
open Go Go.RowKit
structure DrawPost (w0 w:World) (S:Nat→Prop) (φ:Env) (next i n:Nat) (r:AV × Heap × Nat) (x:Value) (w':World) (φ':Env):Prop where
  val:Reps w' S φ' [r.1] [x]
  mono:Mono w S φ w' S φ'
  mem:RepH w0 S φ' r.2.1 w'
  fresh:∀ id,r.2.2≤id→φ' id = none
  grow:n≤r.2.2
  old:∀ id,id < n→¬ (next + 8 * i≤id∧id < next + 8 * i + 8)→φ id = none→φ' id = none
theorem HeapRep.sub {w:World} {S:Nat→Prop} {φ:Env} {look look':Nat→Option Blk} (h:HeapRep w S φ look) (hs:∀ id blk,look' id = some blk→look id = some blk):HeapRep w S φ look' :=
  fun id blk hb=>h id blk (hs id blk hb)
theorem seen_sub {X:List Nat} {mask next:Nat} {h:Heap} (id:Nat) (blk:Blk) (hb:seen X mask next h id = some blk):h.get id = some blk:=by
  unfold seen at hb
  split at hb
  · exact hb
  · cases hb
section
variable {C:Cfg} {self:Run} {ops:Array Oper} {X ms:List Nat} {next:Nat} {w0 w:World} {S:Nat→Prop} {φ:Env}
theorem drawR_sound (OK : CfgOK C) (hself : SoundRun C self) {i : Nat} {o : Oper} {ρ : Operand → AV} {h : Heap} {n : Nat} {a : Act} {K : Act → World → Prop} {Q : Exit → Act → World → Prop}
    (R:RepH w0 S φ h w) (hf:∀ id,n≤id→φ id = none) (hres:∀ id,next + 8 * i≤id→id < next + 8 * i + 8→φ id = none) (hn:next + 8 * i + 8≤n) (hops:∀ x ∈ o.op.operands,Reps w S φ [ρ x] [a.eval x])
    (hx:(drawR C self ops X ms next i o ρ h n).wp fun r=>∀ x w' φ',DrawPost w0 w S φ next i n r x w' φ'→K (a.put o.dst x) w'):o.wp C.P a w K Q:=by
  unfold drawR at hx
  split at hx
  · split at hx
    · exact effR_sound hself R hf hops (Tree.wp_mono hx fun r hr x w' φ' hp=>hr x w' φ' ⟨hp.val,hp.after.mono,hp.mem,hp.fresh,hp.after.grow,fun id hid _ hnone=>hp.after.old id hid hnone⟩)
    · split at hx
      · rename_i t p x ho
        split at hx
        · rename_i b off hb
          split at hx
          · rw [Tree.wp_bind] at hx
            rw [← hb] at hx
            obtain ⟨w',h',hq,hr,R',m⟩:=storeX_run R (hops p (by simp [ho,Op.operands])) (hops x (by simp [ho,Op.operands])) hx
            unfold Oper.wp
            have e:(execOp a.eval o).run C.P w = .ok .skip w':=by simp [execOp,ho,hr]
            rw [e,Oper.upon_skip]
            exact hq _ w' φ ⟨.any _ .nil,m,R',hf,Nat.le_refl _,fun _ _ _ h=>h⟩
          · exact hx.elim
        · exact hx.elim
      · rename_i c ho
        split at hx
        · rename_i s x t t2 hc hargs htypes
          rw [Tree.wp_bind] at hx
          have hargs':c.args = #[s,x]:=by apply Array.ext'; simpa using hargs
          have htypes':c.argTypes = #[t,t2]:=by apply Array.ext'; simpa using htypes
          have hg:φ (next + 8 * i) = none:=hres _ (Nat.le_refl _) (by omega)
          obtain ⟨rfl,k,blk,v,w',Bn,cap,len,hq,hr,hp⟩:=appendX_run (g:=next + 8 * i) R (R.heap.sub fun id blk hb=>by
            by_cases hal:allowed (ms.getD i 0) next id = true
            · rw [if_pos hal] at hb; exact hb
            · rw [if_neg hal] at hb; cases hb) (R.heap.sub seen_sub) (hops s (by simp [ho,Op.operands,Call.operands,hargs'])) (hops x (by simp [ho,Op.operands,Call.operands,hargs'])) hg hx o.type
          unfold Oper.wp
          have e:(execOp a.eval o).run C.P w = .ok (.value v) w':=by
            simp [execOp,ho,resolve,hc,invoke,builtin,hargs',htypes',hr]
          rw [e,Oper.upon_value]
          have fin:∀ h',h' = (delOpt h k).ins (next + 8 * i) blk→DrawPost w0 w S φ next i n (.own (next + 8 * i),h',n) v w' (movedE φ k (next + 8 * i) ⟨true,Bn,cap,len⟩):=by
            rintro h' rfl
            refine ⟨.own ⟨_,updE_self _ _ _,hp.fits⟩ .nil,hp.moved.mono hg,hp.moved.rep R hg hp.blk,fun id hid=>?_,Nat.le_refl _,fun id hid hn0 hnone=>?_⟩
            · simp only at hid
              exact movedE_none (by omega) (hf id hid)
            · exact movedE_none (by omega) hnone
          cases k with
          | none=>exact hq v w' _ (fin _ rfl)
          | some b =>
            simp only at hq
            split at hq
            · exact hq v w' _ (fin _ rfl)
            · exact hq.elim
        · exact hx.elim
      · exact hx.elim
  split at hx
  · exact resR_sound OK R hf hops (Tree.wp_mono hx fun r hr x w' φ' hp=>hr x w' φ' ⟨hp.val,hp.after.mono,hp.mem,hp.fresh,hp.after.grow,fun id hid _ hnone=>hp.after.old id hid hnone⟩)
  · rw [Tree.wp_bind] at hx
    have hx':(resD C (next + 8 * i) o ρ (seen X (ms.getD i 0) next h)).wp fun r=>r.2.length≤8∧∀ x w' φ',DrawPost w0 w S φ next i n (r.1,insBlks (next + 8 * i) r.2 h,n) x w' φ'→K (a.put o.dst x) w':=by
      refine Tree.wp_mono hx fun r hr=>?_
      split at hr
      · rename_i hl; exact ⟨hl,hr⟩
      · exact hr.elim
    refine resD_sound OK (R.heap.sub seen_sub) R.disj R.sow hops (Tree.wp_mono hx' fun r ⟨hl,hr⟩=>⟨fun id h1 h2=>hres id h1 (by omega),fun x w' φ' hp=>?_⟩)
    have hF:FreshE φ (next + 8 * i) r.2.length:=fun id h1 h2=>hres id h1 (by omega)
    obtain ⟨h1,h2⟩:=R.ext hF hp
    refine hr x w' φ' ⟨hp.val,h2,h1,fun id hid=>?_,Nat.le_refl _,fun id hid hnt hnone=>?_⟩
    · simp only at hid
      rw [hp.ext.same id (by omega)]
      exact hf id hid
    · rw [hp.ext.same id (by omega)]
      exact hnone
def unl (n:Nat) (listed:Array Bool):List Nat:=(List.range n).filter fun j=>!listed.getD j true
theorem mem_unl {n:Nat} {listed:Array Bool} {j:Nat}:j ∈ unl n listed↔j < n∧listed.getD j true = false:=by simp [unl]
theorem getD_set {listed:Array Bool} {i:Nat} (hi:i < listed.size) (j:Nat) (d:Bool):(listed.setIfInBounds i true).getD j d = if j = i then true else listed.getD j d:=by
  simp only [Array.getD_eq_getD_getElem?,Array.getElem?_setIfInBounds]
  by_cases h:i = j
  · subst h; simp [hi]
  · simp [h,Ne.symm h]
theorem unl_set {n:Nat} {listed:Array Bool} {i:Nat} {s t:List Nat} (hi:i < listed.size) (h:unl n listed = s ++ i :: t):unl n (listed.setIfInBounds i true) = s ++ t∧∀ k ∈ s,k < i:=by
  have hnd:(s ++ i :: t).Pairwise (· < ·):=by
    rw [← h]
    exact List.Pairwise.filter _ List.pairwise_lt_range
  have hs:∀ k ∈ s,k < i:=fun k hk=>(List.pairwise_append.1 hnd).2.2 k hk i (by simp)
  have ht:∀ k ∈ t,i < k:=fun k hk=>(List.pairwise_cons.1 (List.pairwise_append.1 hnd).2.1).1 k hk
  refine ⟨?_,hs⟩
  have e:unl n (listed.setIfInBounds i true) = (unl n listed).filter fun j=>j != i:=by
    unfold unl
    rw [List.filter_filter]
    congr 1
    funext j
    rw [getD_set hi]
    by_cases hj:j = i <;> simp [hj]
  rw [e,h,List.filter_append]
  have e1:s.filter (fun j=>j != i) = s:=List.filter_eq_self.2 fun k hk=>by have:=hs k hk; simp; omega
  have e2:(i :: t).filter (fun j=>j != i) = t:=by
    rw [List.filter_cons]
    simp only [bne_self_eq_false,Bool.false_eq_true,if_false]
    exact List.filter_eq_self.2 fun k hk=>by have:=ht k hk; simp; omega
  rw [e1,e2]
structure DInv (C:Cfg) (run:Run) (ops:Array Oper) (X ms:List Nat) (next:Nat) (w0 wS:World) (S:Nat→Prop) (φS:Env) (Q:Exit→Act→World→Prop) (listed:Array Bool) (σ:St) (a:Act) (w:World) (φ:Env):Prop where
  tmps:Reps w S φ σ.tmps a.tmps.toList
  defers:a.defers = []
  mem:RepH w0 S φ σ.heap w
  fresh:∀ id,σ.next≤id→φ id = none
  room:next + 8 * ops.size≤σ.next
  res:∀ j,j < ops.size→listed.getD j true = false→∀ id,next + 8 * j≤id→id < next + 8 * j + 8→φ id = none
  mono:Mono wS S φS w S φ
  old:∀ id,id < next→φS id = none→φ id = none
  closed:∀ j k,j < ops.size→listed.getD j true = true→(ms.getD j 0).testBit k = true→listed.getD k true = true
  rest:(drawOps C run ops X ms next (unl ops.size listed) σ).wp fun σ'=>∀ a' w' φ',RepS w0 S φ' σ' a' w'→After wS S φS next σ'.next w' φ'→Q .normal a' w'
  size:listed.size = ops.size
theorem draw_sound (OK : CfgOK C) (hself : SoundRun C self) (D : DrawOK ops ms) {wS : World} {φS : Env} {Q : Exit → Act → World → Prop} : ∀ (fuel : Nat) (listed : Array Bool) (σ : St) (a : Act) (w : World) (φ : Env),
    DInv C self ops X ms next w0 wS S φS Q listed σ a w φ→(unl ops.size listed).length = fuel→wpAny C.P .any ops Q fuel listed a w:=by
  intro fuel
  induction fuel with
  | zero =>
    intro listed σ a w φ I hl
    have hnil:unl ops.size listed = []:=List.eq_nil_of_length_eq_zero hl
    refine ⟨?_,?_⟩
    · apply List.eq_nil_iff_forall_not_mem.2
      intro j hj
      have:j ∈ unl ops.size listed:=by
        simp only [Region.ready,List.mem_filter,List.mem_range,Bool.and_eq_true,Bool.not_eq_true'] at hj
        exact mem_unl.2 ⟨hj.1,hj.2.1⟩
      rw [hnil] at this
      cases this
    · have h:=I.rest
      rw [hnil] at h
      exact h a w φ ⟨I.tmps,I.mem,I.fresh,I.defers⟩ ⟨I.mono,I.old,Nat.le_trans (Nat.le_add_right _ _) I.room⟩
  | succ fuel ih =>
    intro listed σ a w φ I hl
    refine ⟨fun hr=>?_,fun i hi=>?_⟩
    · -- the least one is ready
      exfalso
      have hne:∃ j,j < ops.size∧listed.getD j true = false:=by
        cases hu:unl ops.size listed with
        | nil=>rw [hu] at hl; cases hl
        | cons j l=>exact ⟨j,mem_unl.1 (by rw [hu]; simp)⟩
      have key:∀ j,j < ops.size→listed.getD j true = false→False:=by
        intro j
        induction j using Nat.strongRecOn with
        | _ j ihj =>
          intro h1 h2
          by_cases hall:∀ k,k < j→listed.getD k true = true
          · have ho:ops[j]? = some ops[j]:=Array.getElem?_eq_getElem h1
            have:j ∈ Region.ready .any ops listed:=by
              simp only [Region.ready,List.mem_filter,List.mem_range,h1,h2,true_and,ho,Option.map_some,Option.getD_some,Bool.not_false,Bool.true_and]
              rw [← Array.all_toList,List.all_eq_true]
              intro e he
              cases hb:Region.binds .any e with
              | false=>rfl
              | true =>
                have h3:=D.back j _ ho e he hb
                have h4:=hall e.on h3
                have h5:e.on < listed.size:=by rw [I.size]; omega
                simp only [Bool.not_true,Bool.false_or]
                simpa [Array.getD_eq_getD_getElem?,h5] using h4
            rw [hr] at this
            cases this
          · simp only [Classical.not_forall] at hall
            obtain ⟨k,h3,h4⟩:=hall
            exact ihj k h3 (by omega) (by simpa using h4)
      obtain ⟨j,h1,h2⟩:=hne
      exact key j h1 h2
    · simp only [Region.ready,List.mem_filter,List.mem_range,Bool.and_eq_true,Bool.not_eq_true'] at hi
      obtain ⟨hi1,hi2,hi3⟩:=hi
      have hoi:ops[i]? = some ops[i]:=Array.getElem?_eq_getElem hi1
      generalize ops[i] = oi at hoi
      rw [hoi] at hi3
      simp only [Option.map_some,Option.getD_some] at hi3
      rw [← Array.all_toList,List.all_eq_true] at hi3
      have hready:∀ e ∈ oi.after.toList,Region.binds .any e = true→listed.getD e.on true = true:=by
        intro e he hb
        have:=hi3 e he
        rw [hb] at this
        simp only [Bool.not_true,Bool.false_or,Array.getD_eq_getD_getElem?] at this ⊢
        cases hx:listed[e.on]? with
        | none=>rfl
        | some b=>rw [hx] at this; simpa using this
      have hbits:∀ k,(ms.getD i 0).testBit k = true→listed.getD k true = true:=by
        intro k hb
        obtain ⟨o,ho,e,he,h1,h2,h3⟩:=D.bits i k hb
        rw [hoi] at ho
        cases ho
        have h4:=hready e he h1
        rcases h3 with rfl | h3
        · exact h4
        · exact I.closed e.on k (by omega) h4 h3
      obtain ⟨s,t,hst⟩:=List.append_of_mem (mem_unl.2 ⟨hi1,hi2⟩)
      obtain ⟨hset,hlt⟩:=unl_set (by rw [I.size]; exact hi1) hst
      have hrest:=I.rest
      rw [hst] at hrest
      have hfront:=drawOps_front hoi s σ (fun k hk=>by
        have hki:=hlt k hk
        have hku:k < ops.size∧listed.getD k true = false:=mem_unl.1 (by rw [hst]; simp [hk])
        have hok:ops[k]? = some ops[k]:=Array.getElem?_eq_getElem hku.1
        have b1:(ms.getD i 0).testBit k = false:=by
          cases hb:(ms.getD i 0).testBit k with
          | false=>rfl
          | true=>rw [hbits k hb] at hku; cases hku.2
        have b2:(ms.getD k 0).testBit i = false:=by
          cases hb:(ms.getD k 0).testBit i with
          | false=>rfl
          | true=>have:=D.lt k i hb; omega
        rcases D.pair k i _ _ hki hok hoi with h1 | ⟨h1,h2⟩
        · rw [b1] at h1; cases h1
        · have nf:∀ {x y:Nat} {oy:Oper},x≠y→y < ops.size→ops[y]? = some oy→slotOp oy = false→(ms.getD x 0).testBit y = false→(ms.getD y 0).testBit x = false→fullAt ops.toList ms x = false:=by
            intro x y oy hne hy hoy hsl hb hb'
            cases hfa:fullAt ops.toList ms x with
            | false=>rfl
            | true =>
              simp only [fullAt,List.all_eq_true,List.mem_range] at hfa
              have:=hfa y (by simpa using hy)
              have hoy':ops.toList[y]? = some oy:=by simpa using hoy
              rw [hoy',hb,hb',beq_false (Ne.symm hne)] at this
              simp [hsl] at this
          exact ⟨by omega,b1,b2,_,hok,h1,h2,fun s1 s2=>⟨nf (by omega) hi1 hoi s2 b2 b1,nf (by omega) hku.1 hok s1 b1 b2⟩⟩) hrest
      unfold drawOps at hfront
      rw [Tree.wp_bind] at hfront
      unfold drawStep at hfront
      rw [hoi] at hfront
      simp only at hfront
      have hresi:=I.res i hi1 hi2
      have hroom:next + 8 * i + 8≤σ.next:=by have:=I.room; omega
      refine stepW_sound (DrawPost w0 w S φ next i σ.next) (fun r w' φ' => RepH w0 S φ' r.1 w' ∧ (∀ id, r.2 ≤ id → φ' id = none) ∧ σ.next ≤ r.2 ∧ Mono w S φ w' S φ' ∧
          ∀ id,id < σ.next→¬ (next + 8 * i≤id∧id < next + 8 * i + 8)→φ id = none→φ' id = none) ?_
        ⟨I.mem,I.fresh,Nat.le_refl _,Mono.refl _ _ _,fun _ _ _ h=>h⟩ hoi I.tmps I.defers ?_ (Tree.wp_mono hfront fun σ' hσ a' w' φ' h1 h2 h3=>?_)
      · intro r x w' φ' hp
        exact ⟨hp.val,hp.mono,hp.mem,hp.fresh,hp.grow,hp.mono,hp.old⟩
      · intro ht
        exact drawR_sound OK hself I.mem I.fresh hresi hroom (fun x _=>evO_reps I.tmps x) ht
      · obtain ⟨h4,h5,h6,h7,h8⟩:=h3
        refine ih _ σ' a' w' φ' ⟨h1,h2,h4,h5,Nat.le_trans I.room h6,?_,I.mono.trans h7,?_,?_,?_,?_⟩ ?_
        · intro j hj hju id hid1 hid2
          rw [getD_set (by rw [I.size]; exact hi1)] at hju
          split at hju
          · cases hju
          · rename_i hne
            have:=I.room
            exact h8 id (by omega) (by omega) (I.res j hj hju id hid1 hid2)
        · intro id hid hnone
          have:=I.room
          exact h8 id (by omega) (by omega) (I.old id hid hnone)
        · intro j k hj hjl hb
          rw [getD_set (by rw [I.size]; exact hi1)] at hjl ⊢
          split
          · rfl
          · split at hjl
            · rename_i e; subst e; exact hbits k hb
            · exact I.closed j k hj hjl hb
        · rw [hset]
          exact hσ
        · simp [I.size]
        · rw [hset]
          rw [hst] at hl
          simp only [List.length_append,List.length_cons] at hl ⊢
          omega
theorem RepH.drew {h:Heap} (R:RepH w0 S φ h w) (n:Nat):RepH w0 S φ h { w with drawn:=n }∧Mono w S φ { w with drawn:=n } S φ:=by
  have m:Mono w S φ { w with drawn:=n } S φ:=⟨fun _ _ h=>.inl h,fun _ h=>⟨h,rfl⟩⟩
  exact ⟨⟨fun b blk hb=>let ⟨B,c,l,h1,h2⟩:=R.heap b blk hb; ⟨B,c,l,h1,h2.mono m fun _ _=>rfl⟩,R.inj,R.rng,R.below.trans ⟨rfl,rfl,rfl,Nat.le_refl _,fun _ _=>rfl⟩,R.sb⟩,m⟩
theorem region_draw_sound (OK : CfgOK C) (hself : SoundRun C self) {id : Nat} {σ : St} {a : Act} {Q : Exit → Act → World → Prop} (RS : RepS w0 S φ σ a w)
    (h:(regionX C self ops true σ).wp fun σ'=>∀ a' w' φ',RepS w0 S φ' σ' a' w'→After w S φ σ.next σ'.next w' φ'→Q .normal a' w'):(Code.region id ops true).wp C.P Q a w:=by
  unfold regionX at h
  simp only at h
  split at h
  · rename_i hd
    obtain ⟨R',m⟩:=RS.mem.drew (w.drawn + 1)
    have hun:unl ops.size (Array.replicate ops.size false) = List.range ops.size:=by
      unfold unl
      refine List.filter_eq_self.2 fun j hj=>?_
      simp only [List.mem_range] at hj
      simp [hj]
    refine wp_region_any OK.mixed (draw_sound OK hself (DrawOK.of hd) (wS:=w) (φS:=φ) ops.size _ { σ with next:=σ.next + 8 * ops.size } a _ φ ⟨RS.tmps.mono m,RS.defers,R',fun id hid=>RS.fresh id (by simp only at hid; omega),Nat.le_refl _,?_,m,fun _ _ h=>h,?_,by rw [hun]; exact h,by simp⟩ (by rw [hun]; simp))
    · intro j _ _ id h1 _
      exact RS.fresh id (by omega)
    · intro j k hj hjl
      simp [hj] at hjl
  · exact h.elim
end
end Go.Fx
namespace Go.Fx
open Go Go.RowKit
def Tree.Leaf {α:Type}:Tree α→α→Prop
  | .ret a,x=>a = x
  | .fail,_=>False
  | .ite _ t e,x=>t.Leaf x∨e.Leaf x
  | .asrt _ t,x=>t.Leaf x
theorem Tree.leaf_of_out {α:Type} {t:Tree α} {x:α} (h:t.Out x):t.Leaf x:=by
  induction t with
  | ret a=>exact h
  | fail=>exact h
  | ite c t e iht ihe =>
    cases c with
    | true=>exact .inl (iht (by simpa [Tree.Out] using h))
    | false=>exact .inr (ihe (by simpa [Tree.Out] using h))
  | asrt p t ih=>exact ih h.2
theorem Tree.leaf_bind {α β:Type} {t:Tree α} {f:α→Tree β} {x:β}:(t.bind f).Leaf x↔∃ a,t.Leaf a∧(f a).Leaf x:=by
  induction t with
  | ret a=>exact ⟨fun h=>⟨a,rfl,h⟩,fun ⟨b,hb,h⟩=>by cases hb; exact h⟩
  | fail=>exact ⟨fun h=>h.elim,fun ⟨_,h,_⟩=>h.elim⟩
  | ite c t e iht ihe =>
    simp only [Tree.bind,Tree.Leaf,iht,ihe]
    exact ⟨fun h=>h.elim (fun ⟨a,h1,h2⟩=>⟨a,.inl h1,h2⟩) (fun ⟨a,h1,h2⟩=>⟨a,.inr h1,h2⟩),fun ⟨a,h1,h2⟩=>h1.imp (fun h=>⟨a,h,h2⟩) (fun h=>⟨a,h,h2⟩)⟩
  | asrt p t ih=>exact ih
section
variable {w:World} {S:Nat→Prop} {φ:Env}
theorem joinAny_reps (c:Bool) {x y:AV} {v:Value} (h:Reps w S φ [bif c then x else y] [v]):Reps w S φ [joinAny c x y] [v]:=by
  unfold joinAny joinAV
  split <;> try exact .any _ .nil
  · rename_i a b
    cases a <;> cases b <;> cases c <;> simp only [cond_true,cond_false] at h <;> cases h <;> first | exact .blit _ .nil | exact .bool _ .nil
  · split
    · rename_i hk
      subst hk
      split
      · rename_i hxy
        subst hxy
        cases c <;> exact h
      · cases c <;> simp only [cond_true,cond_false] at h <;> cases h <;> exact .int _ _ .nil
    · exact .any _ .nil
  · split
    · rename_i hk
      subst hk
      cases c <;> simp only [cond_true,cond_false] at h <;> cases h <;> exact .int _ _ .nil
    · exact .any _ .nil
  · split
    · rename_i hk
      subst hk
      cases c <;> simp only [cond_true,cond_false] at h <;> cases h <;> exact .int _ _ .nil
    · exact .any _ .nil
  · split
    · rename_i hk
      subst hk
      cases c <;> simp only [cond_true,cond_false] at h <;> cases h <;> exact .int _ _ .nil
    · exact .any _ .nil
  · cases c <;> simp only [cond_true,cond_false] at h <;> cases h <;> exact .bool _ .nil
  · rename_i a; cases c <;> cases a <;> simp only [cond_true,cond_false] at h <;> cases h <;> exact .bool _ .nil
  · rename_i a; cases c <;> cases a <;> simp only [cond_true,cond_false] at h <;> cases h <;> exact .bool _ .nil
  · rename_i a; cases c <;> cases a <;> simp only [cond_true,cond_false] at h <;> cases h <;> exact .bool _ .nil
  · rename_i a; cases c <;> cases a <;> simp only [cond_true,cond_false] at h <;> cases h <;> exact .bool _ .nil
  · cases c <;> exact h
theorem zipJoin_reps (c:Bool):∀ {xs ys:List AV} {vs:List Value},xs.length = ys.length→Reps w S φ (bif c then xs else ys) vs→Reps w S φ (List.zipWith (joinAny c) xs ys) vs
  | [],[],vs,_,h=>by cases c <;> exact h
  | x :: xs,y :: ys,vs,hl,h=>by
    have h':Reps w S φ ((bif c then x else y) :: (bif c then xs else ys)) vs:=by cases c <;> exact h
    obtain ⟨v,vs,rfl,h1,h2⟩:=h'.uncons
    exact Reps.cons (joinAny_reps c h1) (zipJoin_reps c (by simpa using hl) h2)
theorem collapse_spec {ts0 : List AV} : ∀ {t : Tree (List AV)}, (∀ l, t.Leaf l → l.length = ts0.length) → (collapse ts0 t).2.length = ts0.length ∧
    ((∀ p ∈ (collapse ts0 t).1,p)→∃ l,t.Out l∧∀ {w:World} {S:Nat→Prop} {φ:Env} {vs:List Value},Reps w S φ l vs→Reps w S φ (collapse ts0 t).2 vs)
  | .ret l,h=>⟨h l rfl,fun _=>⟨l,rfl,fun h=>h⟩⟩
  | .fail,_=>⟨rfl,fun h=>(h False (by simp [collapse])).elim⟩
  | .asrt p t,h=>by
    obtain ⟨h1,h2⟩:=collapse_spec (ts0:=ts0) (t:=t) h
    refine ⟨h1,fun hp=>?_⟩
    obtain ⟨l,h3,h4⟩:=h2 fun q hq=>hp q (by simp [collapse,hq])
    exact ⟨l,⟨hp p (by simp [collapse]),h3⟩,h4⟩
  | .ite c t e,h=>by
    obtain ⟨h1,h2⟩:=collapse_spec (ts0:=ts0) (t:=t) fun l hl=>h l (.inl hl)
    obtain ⟨h3,h4⟩:=collapse_spec (ts0:=ts0) (t:=e) fun l hl=>h l (.inr hl)
    refine ⟨by simp [collapse,h1,h3],fun hp=>?_⟩
    cases c with
    | true =>
      obtain ⟨l,h5,h6⟩:=h2 fun q hq=>hp (true = true→q) (by simp only [collapse,List.mem_append,List.mem_map]; exact .inl ⟨q,hq,rfl⟩) rfl
      exact ⟨l,by simpa [Tree.Out] using h5,fun hr=>zipJoin_reps true (by rw [h1,h3]) (h6 hr)⟩
    | false =>
      obtain ⟨l,h5,h6⟩:=h4 fun q hq=>hp (false = false→q) (by simp only [collapse,List.mem_append,List.mem_map]; exact .inr ⟨q,hq,rfl⟩) rfl
      exact ⟨l,by simpa [Tree.Out] using h5,fun hr=>zipJoin_reps false (by rw [h1,h3]) (h6 hr)⟩
theorem asrts_wp {α:Type} {Q:α→Prop}:∀ {ps:List Prop} {t:Tree α},(asrts ps t).wp Q→(∀ p ∈ ps,p)∧t.wp Q
  | [],_,h=>⟨by simp,h⟩
  | p :: ps,t,h=>by
    obtain ⟨h1,h2⟩:=asrts_wp h.2
    exact ⟨fun q hq=>by rcases List.mem_cons.1 hq with rfl | hq; exact h.1; exact h1 q hq,h2⟩
theorem asrts_leaf {α:Type} {x:α}:∀ {ps:List Prop} {t:Tree α},(asrts ps t).Leaf x↔t.Leaf x
  | [],_=>Iff.rfl
  | _ :: ps,t=>asrts_leaf (ps:=ps) (t:=t)
theorem mergeT_reps (ds:List Nat):∀ (i:Nat) {xs ys zs:List AV} {vs:List Value},xs.length = ys.length→zs.length = xs.length→Reps w S φ ys vs→Reps w S φ zs vs→(∀ j,memNat (i + j) ds = false→zs[j]? = xs[j]?)→Reps w S φ (mergeT ds i xs ys) vs
  | _,[],[],zs,vs,_,_,h,_,_=>h
  | i,x :: xs,y :: ys,[],vs,_,hl,_,_,_=>by simp at hl
  | i,x :: xs,y :: ys,z :: zs,vs,hl,hl',h,hz,hn=>by
    obtain ⟨v,vs,rfl,h1,h2⟩:=h.uncons
    obtain ⟨v',vs',e,h3,h4⟩:=hz.uncons
    cases e
    have ih:=mergeT_reps ds (i + 1) (xs:=xs) (ys:=ys) (zs:=zs) (by simpa using hl) (by simpa using hl') h2 h4 (fun j hj=>by
      have:=hn (j + 1) (by rw [show i + (j + 1) = i + 1 + j by omega]; exact hj)
      simpa using this)
    unfold mergeT
    cases hm:memNat i ds with
    | true=>exact Reps.cons h1 ih
    | false =>
      have:=hn 0 (by simpa using hm)
      simp at this
      subst this
      exact Reps.cons h3 ih
theorem mergeT_spec (ds:List Nat):∀ (i:Nat) (xs ys:List AV),xs.length = ys.length→(mergeT ds i xs ys).length = xs.length∧∀ j,memNat (i + j) ds = false→(mergeT ds i xs ys)[j]? = xs[j]?
  | _,[],[],_=>⟨rfl,fun _ _=>rfl⟩
  | i,x :: xs,y :: ys,hl=>by
    obtain ⟨h1,h2⟩:=mergeT_spec ds (i + 1) xs ys (by simpa using hl)
    refine ⟨by simp [mergeT,h1],fun j hj=>?_⟩
    unfold mergeT
    cases j with
    | zero=>simp at hj; simp [hj]
    | succ j=>simpa using h2 j (by rw [show i + 1 + j = i + (j + 1) by omega]; exact hj)
end
structure QuietOK (C:Cfg):Prop where
  quiet:∀ f,memNat f C.quiet = true→(findPcon C.pcon f).isSome = true∨∃ con,findCon C.con f = some con∧∀ args r,(con args).Leaf r→r.2 = []
section
variable {C:Cfg}
theorem neutral_cut (QK:QuietOK C) {o:Oper} (h:neutralOp C o = true) {ρ:Operand→AV} (hρ:∀ f,ρ (.func f) = .fn (.func f) [] []):cutOp C o ρ = false:=by
  obtain ⟨dst,op,type,pos,after,guard⟩:=o
  cases op <;> simp only [neutralOp,Bool.false_eq_true] at h
  case slice t x lo hi mx =>
    have:memNat t C.cuts = false:=by simpa using h
    simp [cutOp,this]
  case call c =>
    split at h
    · rename_i hc; simp [cutOp,hc]
    · rename_i hc; simp [cutOp,hc]
    · rename_i hc; simp [cutOp,hc]
    · rename_i f hc
      have hcall:callTo C.P ρ c = some (f,[] ++ c.args.toList.map ρ ++ []):=by simp [callTo,hc,hρ]
      simp only [cutOp,hc,hcall]
      split
      · rfl
      · rcases QK.quiet f h with h1 | ⟨con,h1,h2⟩
        · cases hp:findPcon C.pcon f with
          | none=>rw [hp] at h1; cases h1
          | some p=>simp
        · simp [h1]
    · cases h
  all_goals rfl
theorem neutral_op (QK : QuietOK C) {o : Oper} (h : neutralOp C o = true) (base : Nat) {ρ : Operand → AV} (hρ : ∀ f, ρ (.func f) = .fn (.func f) [] []) (look : Nat → Option Blk) :
    effOp C o ρ = false∧∀ r,(resD C base o ρ look).Leaf r→r.2 = []:=by
  have vv:∀ (t:Tree AV) (r:AV × List Blk),(t.bind fun a=>Tree.ret (a,([]:List Blk))).Leaf r→r.2 = []:=by
    intro t r hr
    obtain ⟨a,_,rfl⟩:=Tree.leaf_bind.1 hr
    rfl
  obtain ⟨dst,op,type,pos,after,guard⟩:=o
  cases op <;> simp only [neutralOp,Bool.false_eq_true] at h
  case call c =>
    split at h
    · rename_i hc
      refine ⟨by simp [effOp,hc],fun r hr=>?_⟩
      simp only [resD,hc] at hr
      split at hr
      · exact vv _ _ hr
      · exact hr.elim
    · rename_i hc
      refine ⟨by simp [effOp,hc],fun r hr=>?_⟩
      simp only [resD,hc] at hr
      split at hr
      · exact vv _ _ hr
      · exact hr.elim
    · rename_i hc
      refine ⟨by simp [effOp,hc],fun r hr=>?_⟩
      simp only [resD,hc] at hr
      split at hr
      · exact vv _ _ hr
      · exact hr.elim
    · rename_i f hc
      have hcall:callTo C.P ρ c = some (f,[] ++ c.args.toList.map ρ ++ []):=by simp [callTo,hc,hρ]
      rcases QK.quiet f h with h1 | ⟨con,h1,h2⟩
      · refine ⟨?_,fun r hr=>?_⟩
        · simp only [effOp,hc,hcall]
          cases hp:findPcon C.pcon f with
          | none=>rw [hp] at h1; cases h1
          | some p=>simp
        · simp only [resD,hc,hcall] at hr
          cases hp:findPcon C.pcon f with
          | none=>rw [hp] at h1; cases h1
          | some p=>rw [hp] at hr; exact vv _ _ hr
      · refine ⟨by simp [effOp,hc,hcall,h1],fun r hr=>?_⟩
        simp only [resD,hc,hcall] at hr
        split at hr
        · exact vv _ _ hr
        · rw [h1] at hr
          simp only at hr
          split at hr
          · obtain ⟨q,hq,rfl⟩:=Tree.leaf_bind.1 hr
            simp [h2 _ _ hq]
          · split at hr
            · obtain ⟨q,hq,hq2⟩:=Tree.leaf_bind.1 hr
              split at hq2
              · cases hq2; simp [h2 _ _ hq]
              · exact hq2.elim
            · exact hr.elim
    · cases h
  all_goals exact ⟨rfl,vv _⟩
end
end Go.Fx
namespace Go.Fx
open Go Go.RowKit
structure Kept (ds:List Nat) (bump:Nat) (σ σ':St):Prop where
  heap:σ'.heap = σ.heap
  next:σ.next≤σ'.next∧σ'.next≤σ.next + bump
  len:σ'.tmps.length = σ.tmps.length
  others:∀ j,memNat j ds = false→σ'.tmps[j]? = σ.tmps[j]?
theorem Kept.refl (ds:List Nat) (σ:St):Kept ds 0 σ σ:=⟨rfl,⟨Nat.le_refl _,Nat.le_refl _⟩,rfl,fun _ _=>rfl⟩
theorem memNat_app (j:Nat):∀ l l':List Nat,memNat j (l ++ l') = (memNat j l || memNat j l')
  | [],_=>rfl
  | m :: l,l'=>by simp [memNat,memNat_app j l l',Bool.or_assoc]
theorem Kept.trans {ds ds':List Nat} {b b':Nat} {σ σ' σ'':St} (h:Kept ds b σ σ') (h':Kept ds' b' σ' σ''):Kept (ds ++ ds') (b + b') σ σ'':=by
  refine ⟨h'.heap.trans h.heap,⟨Nat.le_trans h.next.1 h'.next.1,?_⟩,h'.len.trans h.len,fun j hj=>?_⟩
  · have:=h.next.2; have:=h'.next.2; omega
  · rw [memNat_app,Bool.or_eq_false_iff] at hj
    rw [h'.others j hj.2,h.others j hj.1]
theorem Kept.weaken {ds ds':List Nat} {b b':Nat} {σ σ':St} (h:Kept ds b σ σ') (hd:∀ j,memNat j ds' = false→memNat j ds = false) (hb:b≤b'):Kept ds' b' σ σ' :=
  ⟨h.heap,⟨h.next.1,Nat.le_trans h.next.2 (Nat.add_le_add_left hb _)⟩,h.len,fun j hj=>h.others j (hd j hj)⟩
theorem setNth_len (d:Nat) (v:AV):∀ ts:List AV,(setNth ts d v).length = ts.length:=by
  intro ts
  induction ts generalizing d with
  | nil=>rfl
  | cons a ts ih=>cases d with
    | zero=>rfl
    | succ d=>simp [setNth,ih]
theorem setNth_get {d j:Nat} (v:AV) (hne:j≠d):∀ ts:List AV,(setNth ts d v)[j]? = ts[j]?:=by
  intro ts
  induction ts generalizing d j with
  | nil=>rfl
  | cons a ts ih =>
    cases d with
    | zero=>cases j with
      | zero=>exact absurd rfl hne
      | succ j=>rfl
    | succ d=>cases j with
      | zero=>rfl
      | succ j=>simpa [setNth] using ih (d:=d) (j:=j) (by omega)
theorem putT_kept (dst:Option Nat) (v:AV) (ts:List AV) (h:Heap) (n:Nat):Kept dst.toList 0 ⟨ts,h,n⟩ ⟨putT dst v ts,h,n⟩:=by
  cases dst with
  | none=>exact Kept.refl _ _
  | some d =>
    refine ⟨rfl,⟨Nat.le_refl _,Nat.le_refl _⟩,setNth_len d v ts,fun j hj=>setNth_get v ?_ ts⟩
    rintro rfl
    simp [memNat] at hj
section
variable {C:Cfg}
def KeptRun (C:Cfg) (self:Run):Prop:=∀ g c σ r,neutralCode C c = true→(self g c σ).Leaf r→r.1 = .normal∧Kept (writesOf c) (bumpOf c) σ r.2
theorem putG_leaf {g:Bool} {dst:Option Nat} {r:AV × Heap × Nat} {ts:List AV} {σ':St} (h:(putG g dst r ts).Leaf σ'):∃ v,σ' = ⟨putT dst v ts,r.2.1,r.2.2⟩:=by
  unfold putG at h
  split at h
  · rcases h with h | h
    · exact ⟨_,h.symm⟩
    · exact ⟨_,h.symm⟩
  · exact ⟨_,h.symm⟩
theorem stepW_kept {ops:Array Oper} {i:Nat} {o:Oper} {σ σ':St} {t:Tree (AV × Heap × Nat)} (ht:∀ r,t.Leaf r→r.2 = (σ.heap,σ.next)) (h:(stepW ops i o σ t).Leaf σ'):Kept o.dst.toList 0 σ σ':=by
  unfold stepW at h
  split at h
  · exact h.elim
  · cases h; exact putT_kept _ _ _ _ _
  · obtain ⟨r,h1,h2⟩:=Tree.leaf_bind.1 h
    obtain ⟨v,rfl⟩:=putG_leaf h2
    rw [ht r h1]
    exact putT_kept _ _ _ _ _
theorem runOps_kept (QK:QuietOK C) {self:Run} {ops:Array Oper}:∀ (l:List Oper) (i:Nat) (σ σ':St),(∀ o ∈ l,neutralOp C o = true)→(runOps C self ops i l σ).Leaf σ'→Kept (dstsOf l) 0 σ σ'
  | [],_,σ,σ',_,h=>by cases h; exact Kept.refl _ _
  | o :: l,i,σ,σ',hn,h=>by
    unfold runOps at h
    obtain ⟨σ1,h1,h2⟩:=Tree.leaf_bind.1 h
    have k2:=runOps_kept QK l (i + 1) σ1 σ' (fun o ho=>hn o (by simp [ho])) h2
    unfold stepX at h1
    have hne:=fun base look=>neutral_op QK (hn o (by simp)) base (ρ:=evO σ.tmps) (fun f=>rfl) look
    rw [neutral_cut QK (hn o (by simp)) (ρ:=evO σ.tmps) (fun f=>rfl),(hne 0 fun _=>none).1] at h1
    have k1:=stepW_kept (t:=resR C o (evO σ.tmps) σ.heap σ.next) (fun r hr=>by
      unfold resR at hr
      obtain ⟨q,h3,rfl⟩:=Tree.leaf_bind.1 hr
      rw [(hne _ _).2 q h3]
      rfl) h1
    refine (k1.trans k2).weaken (fun j hj=>?_) (Nat.le_refl _)
    rw [memNat_app]
    unfold dstsOf at hj ⊢
    cases hd:o.dst with
    | none=>simpa [hd,memNat] using hj
    | some d=>simpa [hd,memNat] using hj
theorem drawOps_kept (QK:QuietOK C) {self:Run} {ops:Array Oper} {X ms:List Nat} {next:Nat} (hn:∀ o ∈ ops.toList,neutralOp C o = true):∀ (l:List Nat) (σ σ':St),(drawOps C self ops X ms next l σ).Leaf σ'→Kept (dstsOf ops.toList) 0 σ σ'
  | [],σ,σ',h=>by cases h; exact Kept.refl _ _
  | i :: l,σ,σ',h=>by
    unfold drawOps at h
    obtain ⟨σ1,h1,h2⟩:=Tree.leaf_bind.1 h
    have k2:=drawOps_kept QK hn l σ1 σ' h2
    unfold drawStep at h1
    split at h1
    · rename_i o ho
      have hom:o ∈ ops.toList:=by simpa using Array.mem_of_getElem? ho
      have hne:=fun base look=>neutral_op QK (hn o hom) base (ρ:=evO σ.tmps) (fun f=>rfl) look
      have k1:=stepW_kept (fun r hr=>by
        unfold drawR at hr
        rw [(hne 0 fun _=>none).1] at hr
        rw [if_neg (by decide)] at hr
        split at hr
        · unfold resR at hr
          obtain ⟨q,h3,h4⟩:=Tree.leaf_bind.1 hr
          rw [(hne _ _).2 q h3] at h4
          cases h4
          rfl
        obtain ⟨q,h3,h4⟩:=Tree.leaf_bind.1 hr
        rw [(hne _ _).2 q h3] at h4
        cases h4
        rfl) h1
      refine (k1.trans k2).weaken (fun j hj=>?_) (Nat.le_refl _)
      rw [memNat_app,hj,Bool.or_false]
      cases hd:o.dst with
      | none=>rfl
      | some d =>
        cases hm:memNat j (some d).toList with
        | false=>rfl
        | true =>
          have:j = d:=by simpa [memNat] using hm
          subst this
          have:memNat j (dstsOf ops.toList) = true:=(memNat_iff _ _).2 (by simp only [dstsOf,List.mem_filterMap]; exact ⟨o,hom,hd⟩)
          rw [this] at hj
          cases hj
    · exact h1.elim
theorem region_kept (QK:QuietOK C) {self:Run} {ops:Array Oper} {draw:Bool} {σ σ':St} (hn:ops.toList.all (neutralOp C) = true) (h:(regionX C self ops draw σ).Leaf σ'):Kept (dstsOf ops.toList) (if draw then 8 * ops.size else 0) σ σ':=by
  rw [List.all_eq_true] at hn
  unfold regionX at h
  split at h
  · exact runOps_kept QK _ _ _ _ hn h
  · simp only at h
    split at h
    · have:=drawOps_kept QK hn _ _ _ h
      refine ⟨this.heap,⟨?_,?_⟩,this.len,this.others⟩
      · have:=this.next.1; simp only at this; omega
      · have:=this.next.2; simp only [if_true] at this ⊢; omega
    · exact h.elim
theorem joinSt_kept {c:Code} {σ:St} {t:Tree (Ex × St)} (ht:∀ r,t.Leaf r→r.1 = .normal∧Kept (writesOf c) (bumpOf c) σ r.2):∀ r,(joinSt c σ t).Leaf r→r.1 = .normal∧Kept (writesOf c) (bumpOf c) σ r.2:=by
  intro r hr
  unfold joinSt at hr
  split at hr
  · exact ht r hr
  · simp only [asrts_leaf] at hr
    cases hr
    have hlen:∀ l,(t.bind fun r=>Tree.ret r.2.tmps).Leaf l→l.length = σ.tmps.length:=by
      intro l hl
      obtain ⟨r,h1,rfl⟩:=Tree.leaf_bind.1 hl
      exact (ht r h1).2.len
    have h1:=(collapse_spec (ts0:=σ.tmps) hlen).1
    have h2:=mergeT_spec (writesOf c) 0 σ.tmps _ h1.symm
    exact ⟨rfl,rfl,⟨Nat.le_add_right _ _,Nat.le_refl _⟩,h2.1,fun j hj=>h2.2 j (by simpa using hj)⟩
def Fin (w0:World) (S:Nat→Prop) (φ:Env) (σ:St) (w:World) (Q:Exit→Act→World→Prop) (r:Ex × St):Prop :=
  ∀ a' w' φ',RepS w0 S φ' r.2 a' w'→After w S φ σ.next r.2.next w' φ'→Q (exOf r.1) a' w'
theorem joinSt_sound {c : Code} {σ : St} {t : Tree (Ex × St)} (ht : ∀ r, t.Leaf r → r.1 = .normal ∧ Kept (writesOf c) (bumpOf c) σ r.2) {w0 w : World} {S : Nat → Prop} {φ : Env} {Q : Exit → Act → World → Prop}
    (h:(joinSt c σ t).wp (Fin w0 S φ σ w Q)):t.wp (Fin w0 S φ σ w Q):=by
  unfold joinSt at h
  split at h
  · exact h
  · simp only at h
    obtain ⟨hp,hF⟩:=asrts_wp h
    have hlen:∀ l,(t.bind fun r=>Tree.ret r.2.tmps).Leaf l→l.length = σ.tmps.length:=by
      intro l hl
      obtain ⟨r,h1,rfl⟩:=Tree.leaf_bind.1 hl
      exact (ht r h1).2.len
    obtain ⟨hl,hex⟩:=collapse_spec (ts0:=σ.tmps) hlen
    obtain ⟨l,hout,hrep⟩:=hex hp
    obtain ⟨r,hr,rfl⟩:=Tree.out_bind.1 hout
    obtain ⟨hn,hk⟩:=ht r (Tree.leaf_of_out hr)
    refine Tree.wp_of_out hr fun a' w' φ' RS HA=>?_
    rw [hn]
    refine hF a' w' φ' ⟨?_,?_,fun id hid=>RS.fresh id ?_,RS.defers⟩ ⟨HA.mono,HA.old,Nat.le_add_right _ _⟩
    · exact mergeT_reps (writesOf c) 0 hl.symm hk.len (hrep RS.tmps) RS.tmps (fun j hj=>hk.others j (by simpa using hj))
    · have:=RS.mem
      rw [hk.heap] at this
      exact this
    · have:=hk.next.2
      simp only at hid
      omega
end
end Go.Fx
namespace Go.Fx
open Go Go.RowKit
def SoundLoop (C:Cfg) (body:Code) (L:LoopCon):Prop :=
  ∀ w0 S φ σ a w (Q:Exit→Act→World→Prop),RepS w0 S φ σ a w→(L σ).wp (Fin w0 S φ σ w Q)→(Code.loop body).wp C.P Q a w
def JumpN (P:Program) (rest:Code) (l:Nat) (Q:Exit→Act→World→Prop):Nat→Act→World→Prop
  | 0,_,_=>False
  | n + 1,a,w=>rest.wp P (Exit.jump l (JumpN P rest l Q n) Q) a w
def SoundJump (C:Cfg) (rest:Code) (l:Nat) (L:LoopCon):Prop :=
  ∀ w0 S φ σ a w (Q:Exit→Act→World→Prop),RepS w0 S φ σ a w→(L σ).wp (Fin w0 S φ σ w Q)→∃ n,JumpN C.P rest l Q n a w
structure GoodCfg (C:Cfg):Prop where
  ok:CfgOK C
  quiet:QuietOK C
  jumps:∀ g l L,findLoop C.jumps g l = some L→∀ c rest,SubOf C.P g (.scope c)→findLabel c l = some rest→SoundJump C rest l L
  loops:∀ g l L,findLoop C.loops g l = some L→∀ body,SubOf C.P g (.loop body)→firstRegion body = l→SoundLoop C body L
  eat:EatOK C
def LoopN (P:Program) (c:Code) (Q:Exit→Act→World→Prop):Nat→Act→World→Prop
  | 0,_,_=>False
  | n + 1,a,w=>c.wp P (Exit.then (LoopN P c Q n) Q) a w
theorem least {p:Nat→Prop} (h:∃ n,p n):∃ n,p n∧∀ m,p m→n≤m:=by
  obtain ⟨n,hn⟩:=h
  induction n using Nat.strongRecOn with
  | _ n ih =>
    by_cases hx:∃ m,m < n∧p m
    · obtain ⟨m,h1,h2⟩:=hx
      exact ih m h1 h2
    · refine ⟨n,hn,fun m hm=>?_⟩
      rcases Nat.lt_or_ge m n with h1 | h1
      · exact (hx ⟨m,h1,hm⟩).elim
      · exact h1
open Classical in
theorem loopN_sound {P:Program} {c:Code} {Q:Exit→Act→World→Prop} {n:Nat} {a:Act} {w:World} (h:LoopN P c Q n a w):(Code.loop c).wp P Q a w:=by
  refine wp_loop (fun a w=>∃ n,LoopN P c Q n a w) (fun a w=>if h:∃ n,LoopN P c Q n a w then Classical.choose (least h) else 0) ⟨n,h⟩ fun a w hI=>?_
  have hs:=(Classical.choose_spec (least hI)).1
  cases hn:Classical.choose (least hI) with
  | zero=>rw [hn] at hs; exact hs.elim
  | succ m =>
    rw [hn] at hs
    refine wp_mono hs fun e a' w' he=>?_
    cases e with
    | normal =>
      have hI':∃ n,LoopN P c Q n a' w':=⟨m,he⟩
      refine ⟨hI',?_⟩
      rw [dif_pos hI',dif_pos hI,hn]
      exact Nat.lt_succ_of_le ((Classical.choose_spec (least hI')).2 m he)
    | _=>exact he
open Classical in
theorem jumpN_sound {P:Program} {c rest:Code} {l:Nat} {Q:Exit→Act→World→Prop} {a:Act} {w:World} (hf:findLabel c l = some rest) (h:c.wp P (Exit.jump l (fun a w=>∃ n,JumpN P rest l Q n a w) Q) a w):(Code.scope c).wp P Q a w:=by
  refine wp_scope_jumps l (fun a w=>∃ n,JumpN P rest l Q n a w) (fun a w=>if h:∃ n,JumpN P rest l Q n a w then Classical.choose (least h) else 0) hf h fun a w hI=>?_
  have hs:=(Classical.choose_spec (least hI)).1
  cases hn:Classical.choose (least hI) with
  | zero=>rw [hn] at hs; exact hs.elim
  | succ m =>
    rw [hn] at hs
    refine wp_mono hs fun e a' w' he=>?_
    cases e with
    | goto l' =>
      obtain ⟨h1,h2⟩:=he
      have hI':∃ n,JumpN P rest l Q n a' w':=⟨m,h2⟩
      refine ⟨h1,hI',?_⟩
      rw [dif_pos hI',dif_pos hI,hn]
      exact Nat.lt_succ_of_le ((Classical.choose_spec (least hI')).2 m h2)
    | _=>exact he
theorem firstLabel_find:∀ {c:Code} {l:Nat},firstLabel c = some l→∃ rest,findLabel c l = some rest
  | .seq a b,l,h=>by
    unfold firstLabel at h
    unfold findLabel
    split at h
    · rename_i l' hl
      cases h
      obtain ⟨r,hr⟩:=firstLabel_find hl
      rw [hr]
      exact ⟨_,rfl⟩
    · obtain ⟨r,hr⟩:=firstLabel_find h
      cases ha:findLabel a l with
      | some x=>exact ⟨_,rfl⟩
      | none=>exact ⟨r,hr⟩
  | .label l',l,h=>by
    cases h
    exact ⟨.skip,by simp [findLabel]⟩
  | .skip,_,h=>by cases h
  | .region _ _ _,_,h=>by cases h
  | .cond _ _ _,_,h=>by cases h
  | .block _ _,_,h=>by cases h
  | .loop _,_,h=>by cases h
  | .exit _,_,h=>by cases h
  | .ret,_,h=>by cases h
  | .goto _,_,h=>by cases h
  | .scope _,_,h=>by cases h
  | .rangeFunc _ _ _ _,_,h=>by cases h
section
variable {C:Cfg}
theorem exec_succ (n g:Nat) (c:Code) (σ:St):exec C (n + 1) g c σ = execF C (exec C n) g c σ:=rfl
theorem setCond_kept (x:Operand) (b:Bool) (σ:St):Kept (condSlot x) 0 σ { σ with tmps:=setCond x b σ.tmps }:=by
  cases x with
  | tmp t=>exact putT_kept (some t) (.blit b) σ.tmps σ.heap σ.next
  | _=>exact Kept.refl _ _
theorem exec_kept (QK:QuietOK C):∀ n,KeptRun C (exec C n)
  | 0=>fun g c σ r _ h=>h.elim
  | n + 1=>by
    have ih:=exec_kept QK n
    intro g c σ r hn h
    rw [exec_succ] at h
    cases c with
    | skip=>cases h; exact ⟨rfl,Kept.refl _ _⟩
    | region id ops draw =>
      simp only [execF,joinIf,hn,if_true] at h
      refine joinSt_kept (fun r hr=>?_) r h
      obtain ⟨σ',h1,rfl⟩:=Tree.leaf_bind.1 hr
      exact ⟨rfl,region_kept QK (by simpa [neutralCode] using hn) h1⟩
    | seq a b =>
      simp only [neutralCode,Bool.and_eq_true] at hn
      simp only [execF] at h
      obtain ⟨r1,h1,h2⟩:=Tree.leaf_bind.1 h
      obtain ⟨e1,k1⟩:=ih g a σ r1 hn.1 h1
      rw [e1] at h2
      obtain ⟨e2,k2⟩:=ih g b r1.2 r hn.2 h2
      exact ⟨e2,k1.trans k2⟩
    | cond x a b =>
      have hn':=hn
      simp only [neutralCode,Bool.and_eq_true] at hn
      have wa:∀ {σ':St},Kept (condSlot x) 0 σ σ'→∀ r,(exec C n g a σ').Leaf r→r.1 = .normal∧Kept (writesOf (.cond x a b)) (bumpOf (.cond x a b)) σ r.2:=by
        intro σ' k0 r hr
        obtain ⟨e1,k1⟩:=ih g a σ' r hn.1 hr
        refine ⟨e1,(k0.trans k1).weaken (fun j hj=>?_) (by simp only [bumpOf]; omega)⟩
        simp only [writesOf,memNat_app,Bool.or_eq_false_iff] at hj ⊢
        exact ⟨hj.1,hj.2.1⟩
      have wb:∀ {σ':St},Kept (condSlot x) 0 σ σ'→∀ r,(exec C n g b σ').Leaf r→r.1 = .normal∧Kept (writesOf (.cond x a b)) (bumpOf (.cond x a b)) σ r.2:=by
        intro σ' k0 r hr
        obtain ⟨e1,k1⟩:=ih g b σ' r hn.2 hr
        refine ⟨e1,(k0.trans k1).weaken (fun j hj=>?_) (by simp only [bumpOf]; omega)⟩
        simp only [writesOf,memNat_app,Bool.or_eq_false_iff] at hj ⊢
        exact ⟨hj.1,hj.2.2⟩
      have k0:Kept (condSlot x) 0 σ σ:=(Kept.refl [] σ).weaken (fun _ _=>rfl) (Nat.le_refl _)
      simp only [execF] at h
      split at h
      · exact wa k0 r h
      · exact wb k0 r h
      · rename_i y _
        simp only [joinIf,hn',if_true] at h
        refine joinSt_kept (fun r hr=>?_) r h
        rcases hr with hr | hr
        · exact wa (setCond_kept x true σ) r hr
        · exact wb (setCond_kept x false σ) r hr
      · exact h.elim
    | _=>simp [neutralCode] at hn
theorem setCond_reps {w0 w:World} {S:Nat→Prop} {φ:Env} {σ:St} {a:Act} (RS:RepS w0 S φ σ a w) {x:Operand} {b:Bool} (hx:a.eval x = .bool b):RepS w0 S φ { σ with tmps:=setCond x b σ.tmps } a w:=by
  refine ⟨?_,RS.mem,RS.fresh,RS.defers⟩
  cases x with
  | tmp t =>
    simp only [setCond]
    by_cases ht:t < a.tmps.size
    · have hv:a.tmps[t] = .bool b:=by simpa [Act.eval,ht] using hx
      have:=RS.tmps.setNth t (Reps.blit b (.nil (w:=w) (S:=S) (φ:=φ)))
      have e:a.tmps.toList.set t (.bool b) = a.tmps.toList:=by
        apply List.ext_getElem?
        intro j
        rw [List.getElem?_set]
        split
        · rename_i e; subst e; simp [ht,hv]
        · rfl
      rwa [e] at this
    · have hl:σ.tmps.length = a.tmps.size:=by simpa using RS.tmps.len
      have ht':σ.tmps.length≤t:=by rw [hl]; exact Nat.le_of_not_lt ht
      have e:setNth σ.tmps t (.blit b) = σ.tmps:=by
        apply List.ext_getElem?
        intro j
        by_cases hj:j = t
        · subst hj
          rw [List.getElem?_eq_none (by rw [setNth_len]; exact ht'),List.getElem?_eq_none ht']
        · exact setNth_get _ hj _
      rw [e]
      exact RS.tmps
  | _=>exact RS.tmps
theorem exec_sound (G : GoodCfg C) : ∀ n, SoundRun C (exec C n) ∧ ∀ g body w0 S φ σ a w (Q : Exit → Act → World → Prop), SubOf C.P g (.loop body) → findLoop C.loops g (firstRegion body) = none → RepS w0 S φ σ a w →
    (exec C n g (.loop body) σ).wp (Fin w0 S φ σ w Q)→LoopN C.P body Q n a w
  | 0=>⟨fun g c w0 S φ σ a w Q _ _ h=>h.elim,fun g body w0 S φ σ a w Q _ _ _ h=>h.elim⟩
  | n + 1=>by
    obtain ⟨ih,ihL⟩:=exec_sound G n
    have loopCase : ∀ g body w0 S φ σ a w (Q : Exit → Act → World → Prop), SubOf C.P g (.loop body) → findLoop C.loops g (firstRegion body) = none → RepS w0 S φ σ a w →
        (exec C (n + 1) g (.loop body) σ).wp (Fin w0 S φ σ w Q)→LoopN C.P body Q (n + 1) a w:=by
      intro g body w0 S φ σ a w Q hsub hno RS h
      rw [exec_succ] at h
      simp only [execF,hno] at h
      rw [Tree.wp_bind] at h
      refine ih g body w0 S φ σ a w _ (hsub.sub (.loop (.refl _))) RS (Tree.wp_mono h fun r hr a' w' φ' RS' HA=>?_)
      obtain ⟨e,σ'⟩:=r
      cases e with
      | normal=>exact ihL g body w0 S φ' σ' a' w' Q hsub hno RS' (Tree.wp_mono hr fun r' hr' a'' w'' φ'' RS'' HA'=>hr' a'' w'' φ'' RS'' (HA.trans HA'))
      | exit id=>exact hr a' w' φ' RS' HA
      | goto l=>exact hr a' w' φ' RS' HA
      | ret=>exact hr a' w' φ' RS' HA
    refine ⟨?_,loopCase⟩
    intro g c w0 S φ σ a w Q hsub RS h
    change (exec C (n + 1) g c σ).wp (Fin w0 S φ σ w Q) at h
    rw [exec_succ] at h
    cases c with
    | skip=>exact wp_skip (h a w φ RS (After.refl _ _ _ _))
    | exit id=>exact wp_exit (h a w φ RS (After.refl _ _ _ _))
    | ret=>exact wp_ret (h a w φ RS (After.refl _ _ _ _))
    | region id ops draw =>
      have key:((regionX C (exec C n) ops draw σ).bind fun σ=>Tree.ret (Ex.normal,σ)).wp (Fin w0 S φ σ w Q):=by
        simp only [execF,joinIf] at h
        split at h
        · rename_i hn
          refine joinSt_sound (fun r hr=>?_) h
          obtain ⟨σ',h1,rfl⟩:=Tree.leaf_bind.1 hr
          exact ⟨rfl,region_kept G.quiet (by simpa [neutralCode] using hn) h1⟩
        · exact h
      rw [Tree.wp_bind] at key
      cases draw with
      | false=>exact region_sound G.ok G.eat ih RS (Tree.wp_mono key fun σ' hσ a' w' φ' RS' HA=>hσ a' w' φ' RS' HA)
      | true=>exact region_draw_sound G.ok ih RS (Tree.wp_mono key fun σ' hσ a' w' φ' RS' HA=>hσ a' w' φ' RS' HA)
    | seq x y =>
      simp only [execF] at h
      rw [Tree.wp_bind] at h
      refine wp_seq (ih g x w0 S φ σ a w _ (hsub.sub (.seqL _ (.refl _))) RS (Tree.wp_mono h fun r hr a' w' φ' RS' HA=>?_))
      obtain ⟨e,σ'⟩:=r
      cases e with
      | normal=>exact ih g y w0 S φ' σ' a' w' Q (hsub.sub (.seqR _ (.refl _))) RS' (Tree.wp_mono hr fun r' hr' a'' w'' φ'' RS'' HA'=>hr' a'' w'' φ'' RS'' (HA.trans HA'))
      | exit id=>exact hr a' w' φ' RS' HA
      | goto l=>exact hr a' w' φ' RS' HA
      | ret=>exact hr a' w' φ' RS' HA
    | cond x b1 b2 =>
      have hx:=evO_reps RS.tmps x
      simp only [execF] at h
      split at h
      · rename_i hv
        rw [hv] at hx
        generalize hv':a.eval x = v at hx
        cases hx
        exact wp_cond_true hv' (ih g b1 w0 S φ σ a w Q (hsub.sub (.condL _ _ (.refl _))) RS h)
      · rename_i hv
        rw [hv] at hx
        generalize hv':a.eval x = v at hx
        cases hx
        exact wp_cond_false hv' (ih g b2 w0 S φ σ a w Q (hsub.sub (.condR _ _ (.refl _))) RS h)
      · rename_i y hv
        rw [hv] at hx
        generalize hv':a.eval x = v at hx
        cases hx
        have key:(Tree.ite y (exec C n g b1 { σ with tmps:=setCond x true σ.tmps }) (exec C n g b2 { σ with tmps:=setCond x false σ.tmps })).wp (Fin w0 S φ σ w Q):=by
          simp only [joinIf] at h
          split at h
          · rename_i hn
            refine joinSt_sound (fun r hr=>?_) h
            have hn':=hn
            simp only [neutralCode,Bool.and_eq_true] at hn'
            rcases hr with hr | hr
            · obtain ⟨e1,k1⟩:=exec_kept G.quiet n g b1 _ r hn'.1 hr
              refine ⟨e1,((setCond_kept x true σ).trans k1).weaken (fun j hj=>?_) (by simp only [bumpOf]; omega)⟩
              simp only [writesOf,memNat_app,Bool.or_eq_false_iff] at hj ⊢
              exact ⟨hj.1,hj.2.1⟩
            · obtain ⟨e1,k1⟩:=exec_kept G.quiet n g b2 _ r hn'.2 hr
              refine ⟨e1,((setCond_kept x false σ).trans k1).weaken (fun j hj=>?_) (by simp only [bumpOf]; omega)⟩
              simp only [writesOf,memNat_app,Bool.or_eq_false_iff] at hj ⊢
              exact ⟨hj.1,hj.2.2⟩
          · exact h
        refine wp_cond_split hv' (fun ht=>?_) (fun hf=>?_)
        · subst ht
          exact ih g b1 w0 S φ { σ with tmps:=setCond x true σ.tmps } a w Q (hsub.sub (.condL _ _ (.refl _))) (setCond_reps RS hv') (key.1 rfl)
        · subst hf
          exact ih g b2 w0 S φ { σ with tmps:=setCond x false σ.tmps } a w Q (hsub.sub (.condR _ _ (.refl _))) (setCond_reps RS hv') (key.2 rfl)
      · exact h.elim
    | block id body =>
      simp only [execF] at h
      rw [Tree.wp_bind] at h
      refine wp_block (ih g body w0 S φ σ a w _ (hsub.sub (.block _ (.refl _))) RS (Tree.wp_mono h fun r hr a' w' φ' RS' HA=>?_))
      obtain ⟨e,σ'⟩:=r
      cases e with
      | normal=>exact hr a' w' φ' RS' HA
      | exit i =>
        simp only [exOf,Exit.inBlock] at hr ⊢
        split at hr
        · rename_i e; rw [if_pos e]; exact hr a' w' φ' RS' HA
        · rename_i e; rw [if_neg e]; exact hr a' w' φ' RS' HA
      | goto l=>exact hr a' w' φ' RS' HA
      | ret=>exact hr a' w' φ' RS' HA
    | loop body =>
      cases hl:findLoop C.loops g (firstRegion body) with
      | some L =>
        simp only [execF,hl] at h
        exact G.loops g _ L hl body hsub rfl w0 S φ σ a w Q RS h
      | none=>exact loopN_sound (loopCase g body w0 S φ σ a w Q hsub hl RS h)
    | label l=>exact wp_label (h a w φ RS (After.refl _ _ _ _))
    | goto l=>exact wp_goto (h a w φ RS (After.refl _ _ _ _))
    | scope c =>
      simp only [execF] at h
      rw [Tree.wp_bind] at h
      cases hl:firstLabel c with
      | none =>
        refine wp_scope_straight (ih g c w0 S φ σ a w _ (hsub.sub (.scope (.refl _))) RS (Tree.wp_mono h fun r hr a' w' φ' RS' HA=>?_))
        obtain ⟨e,σ'⟩:=r
        cases e with
        | goto l=>simp only [hl,reduceCtorEq,if_false] at hr; exact hr.elim
        | normal=>exact hr a' w' φ' RS' HA
        | exit i=>exact hr a' w' φ' RS' HA
        | ret=>exact hr a' w' φ' RS' HA
      | some l =>
        obtain ⟨rest,hf⟩:=firstLabel_find hl
        refine jumpN_sound hf (ih g c w0 S φ σ a w _ (hsub.sub (.scope (.refl _))) RS (Tree.wp_mono h fun r hr a' w' φ' RS' HA=>?_))
        obtain ⟨e,σ'⟩:=r
        cases e with
        | goto l' =>
          simp only [hl,Option.some.injEq] at hr
          split at hr
          · rename_i he
            subst he
            cases hj:findLoop C.jumps g l with
            | none=>rw [hj] at hr; exact hr.elim
            | some L =>
              rw [hj] at hr
              refine ⟨rfl,G.jumps g l L hj c rest hsub hf w0 S φ' σ' a' w' Q RS' (Tree.wp_mono hr fun r2 h2 a2 w2 φ2 RS2 A2=>h2 a2 w2 φ2 RS2 (HA.trans A2))⟩
          · exact hr.elim
        | normal=>exact hr a' w' φ' RS' HA
        | exit i=>exact hr a' w' φ' RS' HA
        | ret=>exact hr a' w' φ' RS' HA
    | _=>exact h.elim
end
end Go.Fx
namespace Go.Fx
open Go Go.RowKit
mutual
def AV.ren (f:Nat→Option Nat):AV→AV
  | .ptr b off=>match f b with | some c=>.ptr c off | none=>.any
  | .rptr b r i off=>match f b with | some c=>.rptr c r i off | none=>.any
  | .own b=>match f b with | some c=>.own c | none=>.any
  | .slc b off n sz=>match f b with | some c=>.slc c off n sz | none=>.any
  | .map b=>match f b with | some c=>.map c | none=>.any
  | .fn g a b=>.fn g (AV.renL f a) (AV.renL f b)
  | .iface t v=>.iface t (v.ren f)
  | .agg cs=>.agg (AV.renL f cs)
  | .tup cs=>.tup (AV.renL f cs)
  | .pv cs=>.pv (AV.renL f cs)
  | .lv n cs=>.lv n (AV.renL f cs)
  | v=>v
def AV.renL (f:Nat→Option Nat):List AV→List AV
  | []=>[]
  | a :: l=>a.ren f :: AV.renL f l
end
def renE (f:Nat→Option Nat):List (AV × AV)→List (AV × AV)
  | []=>[]
  | (k,v) :: l=>(k,v.ren f) :: renE f l
def Blk.ren (f:Nat→Option Nat):Blk→Blk
  | .cells cs=>.cells (AV.renL f cs)
  | .lmap es=>.lmap (renE f es)
  | b=>b
def Heap.ren (f:Nat→Option Nat):Heap→Heap
  | []=>[]
  | (b,x) :: h=>match f b with | some c=>(c,x.ren f) :: Heap.ren f h | none=>Heap.ren f h
section
variable {w0 w:World} {S:Nat→Prop} {φ φ2:Env} {f:Nat→Option Nat}
theorem enc_ren:∀ (r:RTy) (x:r.carrier),AV.renL f (r.enc x) = r.enc x
  | .int _,_=>rfl
  | .bool,_=>rfl
  | .str,_=>rfl
  | .ints _,_=>rfl
  | .spec,_=>rfl
  | .spr,_=>rfl
  | .fix,_=>rfl
  | .item,_=>rfl
  | .live,_=>rfl
  | .ape,_=>rfl
  | .opt,_=>rfl
  | .task,_=>rfl
  | .aim,_=>rfl
  | .op,_=>rfl
theorem renL_app:∀ (as bs:List AV),AV.renL f (as ++ bs) = AV.renL f as ++ AV.renL f bs
  | [],bs=>by simp [AV.renL]
  | a :: as,bs=>by simp [AV.renL,renL_app as bs]
theorem flatMap_ren (r:RTy):∀ xs:List r.carrier,AV.renL f (xs.flatMap r.enc) = xs.flatMap r.enc
  | []=>rfl
  | x :: xs=>by simp [List.flatMap_cons,renL_app,enc_ren,flatMap_ren r xs]
theorem ren_reps (hd:∀ b c,f b = some c→φ2 c = φ b) (hst:∀ B,Stab w S φ B→Stab w S φ2 B) {as:List AV} {vs:List Value} (h:Reps w S φ as vs):Reps w S φ2 (AV.renL f as) vs:=by
  induction h with
  | nil=>exact .nil
  | any _ _ ih=>exact .any _ ih
  | lit _ _ _ ih=>exact .lit _ _ ih
  | int _ _ _ ih=>exact .int _ _ ih
  | blit _ _ ih=>exact .blit _ ih
  | bool _ _ ih=>exact .bool _ ih
  | str _ _ ih=>exact .str _ ih
  | nilp _ ih=>exact .nilp ih
  | @ptr as vs b off v h _ ih =>
    simp only [AV.renL,AV.ren]
    cases hf:f b with
    | none=>exact .any _ ih
    | some c=>obtain ⟨s,B,h1,h2⟩:=h; exact .ptr ⟨s,B,by rw [hd b c hf]; exact h1,h2⟩ ih
  | @rptr as vs b r i off v h _ ih =>
    simp only [AV.renL,AV.ren]
    cases hf:f b with
    | none=>exact .any _ ih
    | some c=>obtain ⟨s,B,h1,h2⟩:=h; exact .rptr ⟨s,B,by rw [hd b c hf]; exact h1,h2⟩ ih
  | pv hs hc _ _ ih1 ih2=>exact .pv (hst _ hs) hc ih1 ih2
  | nils _ _ ih=>exact .nils _ ih
  | @own as vs b v h _ ih =>
    simp only [AV.renL,AV.ren]
    cases hf:f b with
    | none=>exact .any _ ih
    | some c=>obtain ⟨s,h1,h2⟩:=h; exact .own ⟨s,by rw [hd b c hf]; exact h1,h2⟩ ih
  | @slc as vs b off n sz v h _ ih =>
    simp only [AV.renL,AV.ren]
    cases hf:f b with
    | none=>exact .any _ ih
    | some c=>obtain ⟨s,B,c',h1,h2⟩:=h; exact .slc ⟨s,B,c',by rw [hd b c hf]; exact h1,h2⟩ ih
  | view0 _ _ hx _ _ _ ih=>exact .view0 _ _ hx _ _ ih
  | view r xs _ hc0 hs hc _ _ ih1 ih2 =>
    rw [flatMap_ren] at ih1
    exact .view _ _ _ hc0 (hst _ hs) hc ih1 ih2
  | lv0 _ _ _ ih=>exact .lv0 _ _ ih
  | lv _ _ hc0 hs hc _ _ ih1 ih2=>exact .lv _ _ hc0 (hst _ hs) hc ih1 ih2
  | fn _ _ _ _ ih1 ih2 ih3=>exact .fn _ ih1 ih2 ih3
  | nilfn _ ih=>exact .nilfn ih
  | iface _ _ _ ih1 ih2=>exact .iface _ ih1 ih2
  | niliface _ ih=>exact .niliface ih
  | @map as vs b v h _ ih =>
    simp only [AV.renL,AV.ren]
    cases hf:f b with
    | none=>exact .any _ ih
    | some c=>obtain ⟨s,B,h1,h2⟩:=h; exact .map ⟨s,B,by rw [hd b c hf]; exact h1,h2⟩ ih
  | nilmap _ ih=>exact .nilmap ih
  | agg _ _ ih1 ih2=>exact .agg ih1 ih2
  | tup _ _ ih1 ih2=>exact .tup ih1 ih2
  | fv0 _ _ hx _ _ ih=>exact .fv0 _ _ hx _ ih
  | fv r xs hs hc _ _ ih1 ih2 =>
    rw [flatMap_ren] at ih1
    exact .fv _ _ (hst _ hs) hc ih1 ih2
theorem ren_blk (hd:∀ b c,f b = some c→φ2 c = φ b) (hst:∀ B,Stab w S φ B→Stab w S φ2 B) {B:Option Nat} {cap len:Nat} {blk:Blk} (h:BlkRep w S φ B cap len blk):BlkRep w S φ2 B cap len (blk.ren f):=by
  have renr:∀ {r:RTy} {xs:List r.carrier} {us:List Value},Reps w S φ (xs.flatMap r.enc) us→Reps w S φ2 (xs.flatMap r.enc) us:=by
    intro r xs us h
    have:=ren_reps hd hst h
    rwa [flatMap_ren] at this
  have rene:∀ {r:RTy} {x:r.carrier} {us:List Value},Reps w S φ (r.enc x) us→Reps w S φ2 (r.enc x) us:=by
    intro r x us h
    have:=ren_reps hd hst h
    rwa [enc_ren] at this
  cases blk with
  | cells cs =>
    obtain ⟨B',us,e,rfl,h1,h2,h3⟩:=h
    exact ⟨B',us,e,rfl,h1,h2,ren_reps hd hst h3⟩
  | rows r e xs =>
    obtain ⟨h1,us,h2,h3,h4⟩:=h
    exact ⟨h1,us,h2,renr h3,h4⟩
  | imap r es =>
    obtain ⟨B',ms,clock,rfl,h1,h2⟩:=h
    refine ⟨B',ms,clock,rfl,h1,?_⟩
    have key:∀ {es:List (Int × r.carrier)} {ms:List MapEntry},IMapRep w S φ r es ms→IMapRep w S φ2 r es ms:=by
      intro es
      induction es with
      | nil=>intro ms h; cases ms <;> exact h
      | cons p es ih =>
        intro ms h
        obtain ⟨k,x⟩:=p
        cases ms with
        | nil=>exact h
        | cons m ms =>
          obtain ⟨h1,h2,h3⟩:=h
          refine ⟨h1,?_,ih h3⟩
          unfold ValRep at h2 ⊢
          split at h2
          · obtain ⟨us,hu,hr⟩:=h2; exact ⟨us,hu,rene hr⟩
          · exact ⟨rene h2.1,h2.2⟩
    exact key h2
  | lmap es =>
    obtain ⟨B',ms,clock,rfl,h1,h2⟩:=h
    refine ⟨B',ms,clock,rfl,h1,?_⟩
    have key:∀ {es:List (AV × AV)} {ms:List MapEntry},LMapRep w S φ es ms→LMapRep w S φ2 (renE f es) ms:=by
      intro es
      induction es with
      | nil=>intro ms h; cases ms <;> exact h
      | cons p es ih =>
        intro ms h
        obtain ⟨k,x⟩:=p
        cases ms with
        | nil=>exact h
        | cons m ms =>
          obtain ⟨h1,h2,h3⟩:=h
          refine ⟨h1,?_,ih h3⟩
          have:=ren_reps hd hst h2
          simpa [AV.renL] using this
    exact key h2
theorem get_ren (f:Nat→Option Nat) (c:Nat) (y:Blk):∀ h:Heap,(h.ren f).get c = some y→∃ b x,h.get b = some x∧f b = some c∧y = x.ren f
  | [],h=>by simp [Heap.ren,Heap.get] at h
  | (b,x) :: h,hg=>by
    unfold Heap.ren at hg
    cases hf:f b with
    | none =>
      rw [hf] at hg
      obtain ⟨b',x',h1,h2,h3⟩:=get_ren f c y h hg
      refine ⟨b',x',?_,h2,h3⟩
      rw [get_cons]
      split
      · rename_i e; subst e; rw [hf] at h2; cases h2
      · exact h1
    | some c' =>
      rw [hf] at hg
      simp only [get_cons] at hg
      split at hg
      · rename_i e
        subst e
        cases hg
        exact ⟨b,x,by simp [get_cons],hf,rfl⟩
      · rename_i e
        obtain ⟨b',x',h1,h2,h3⟩:=get_ren f c y h hg
        refine ⟨b',x',?_,h2,h3⟩
        rw [get_cons]
        split
        · rename_i e'; subst e'; rw [hf] at h2; cases h2; exact absurd rfl e
        · exact h1
theorem RepH.ren {h : Heap} (R : RepH w0 S φ h w) (hd : ∀ b c, f b = some c → φ2 c = φ b) (ho : ∀ c s, φ2 c = some s → s.alive = true → ∃ b, f b = some c) :
    RepH w0 S φ2 (h.ren f) w∧∀ B,Stab w S φ B→Stab w S φ2 B:=by
  have own:∀ B,Own φ2 B→Own φ B:=by
    rintro B ⟨c,cap,len,hc⟩
    obtain ⟨b,hb⟩:=ho c _ hc rfl
    exact ⟨b,cap,len,by rw [← hd b c hb]; exact hc⟩
  have hst:∀ B,Stab w S φ B→Stab w S φ2 B:=fun B h=>⟨h.1,h.2.1,fun h'=>h.2.2 (own B h')⟩
  refine ⟨⟨?_,?_,fun B hB=>R.rng B (own B hB),R.below,R.sb⟩,hst⟩
  · intro c y hc
    obtain ⟨b,x,h1,h2,rfl⟩:=get_ren f c y h hc
    obtain ⟨B,cap,len,h3,h4⟩:=R.heap b x h1
    exact ⟨B,cap,len,by rw [hd b c h2]; exact h3,ren_blk hd hst h4⟩
  · intro c c' B k n k' n' h1 h2
    obtain ⟨b,hb⟩:=ho c _ h1 rfl
    obtain ⟨b',hb'⟩:=ho c' _ h2 rfl
    have:=R.inj b b' B k n k' n' (by rw [← hd b c hb]; exact h1) (by rw [← hd b' c' hb']; exact h2)
    subst this
    rw [hb] at hb'
    cases hb'
    rfl
end
def idxOf (b:Nat):List Nat→Option Nat
  | []=>none
  | c :: l=>bif Nat.beq c b then some 0 else (idxOf b l).map (· + 1)
theorem idxOf_spec {b i:Nat}:∀ {l:List Nat},idxOf b l = some i→l[i]? = some b
  | [],h=>by cases h
  | c :: l,h=>by
    unfold idxOf at h
    by_cases hc:c = b
    · subst hc
      rw [beq_self] at h
      cases h
      rfl
    · rw [beq_false hc] at h
      simp only [cond_false,Option.map_eq_some_iff] at h
      obtain ⟨j,h1,rfl⟩:=h
      simpa using idxOf_spec h1
theorem idxOf_mem {b i:Nat}:∀ {l:List Nat},l[i]? = some b→∃ j,j≤i∧idxOf b l = some j
  | [],h=>by simp at h
  | c :: l,h=>by
    unfold idxOf
    by_cases hc:c = b
    · subst hc; rw [beq_self]; exact ⟨0,Nat.zero_le _,rfl⟩
    · rw [beq_false hc]
      cases i with
      | zero=>simp at h; exact absurd h hc
      | succ i =>
        obtain ⟨j,h1,h2⟩:=idxOf_mem (i:=i) (by simpa using h)
        exact ⟨j + 1,by omega,by simp [h2]⟩
def Heap.keys:Heap→List Nat
  | []=>[]
  | (b,_) :: h=>b :: Heap.keys h
def Heap.blks (f:Nat→Option Nat):Heap→List Blk
  | []=>[]
  | (_,x) :: h=>x.ren f :: Heap.blks f h
def ascS:Heap→Bool
  | []=>true
  | (b,_) :: h=>(Heap.keys h).all (Nat.blt b) && ascS h
def callC (C:Cfg) (n g:Nat) (args:List AV):Tree (AV × List Blk) :=
  (inlineX C (exec C n) g args [] 0).bind fun r =>
    let h:=gcH 3 r.1.ids r.2.1
    if ascS h then .ret (r.1.ren (fun b=>idxOf b h.keys),h.blks (fun b=>idxOf b h.keys)) else .fail
def callR (C:Cfg) (self:Run) (g:Nat) (args:List AV):Tree (AV × List Blk) :=
  (inlineX C self g args [] 0).bind fun r =>
    let h:=gcH 3 r.1.ids r.2.1
    if ascS h then .ret (r.1.ren (fun b=>idxOf b h.keys),h.blks (fun b=>idxOf b h.keys)) else .fail
theorem keep_get (ids:List Nat) (b:Nat) (x:Blk):∀ h:Heap,(h.keep ids).get b = some x→h.get b = some x
  | [],h=>h
  | (c,y) :: h,hg=>by
    unfold Heap.keep at hg
    rw [get_cons]
    split at hg
    · rw [get_cons] at hg
      split
      · rename_i e; rw [if_pos e] at hg; exact hg
      · rename_i e; rw [if_neg e] at hg; exact keep_get ids b x h hg
    · rename_i hm
      have:=keep_get ids b x h hg
      split
      · rename_i e
        subst e
        exfalso
        have:∀ h:Heap,(h.keep ids).get c = some x→memNat c ids = true:=by
          intro h
          induction h with
          | nil=>intro h; cases h
          | cons p h ih =>
            obtain ⟨d,z⟩:=p
            intro hg
            unfold Heap.keep at hg
            split at hg
            · rename_i hm2
              rw [get_cons] at hg
              split at hg
              · rename_i e; subst e; exact hm2
              · exact ih hg
            · exact ih hg
        exact hm (this h hg)
      · exact this
theorem gcH_get:∀ (n:Nat) (ids:List Nat) (h:Heap) (b:Nat) (x:Blk),(gcH n ids h).get b = some x→h.get b = some x
  | 0,ids,h,b,x,hg=>keep_get ids b x h hg
  | n + 1,_,h,b,x,hg=>gcH_get n _ h b x hg
theorem keys_get:∀ {h:Heap} {i:Nat} {b:Nat},ascS h = true→h.keys[i]? = some b→∀ f,∃ x,h.get b = some x∧(h.blks f)[i]? = some (x.ren f)
  | [],_,_,_,h,_=>by simp [Heap.keys] at h
  | (c,y) :: h,i,b,hs,hk,f=>by
    simp only [ascS,Bool.and_eq_true,List.all_eq_true] at hs
    cases i with
    | zero =>
      simp [Heap.keys] at hk
      subst hk
      exact ⟨y,by simp [get_cons],by simp [Heap.blks]⟩
    | succ i =>
      have hk':(Heap.keys h)[i]? = some b:=by simpa [Heap.keys] using hk
      obtain ⟨x,h1,h2⟩:=keys_get hs.2 hk' f
      refine ⟨x,?_,by simpa [Heap.blks] using h2⟩
      have:=hs.1 b (List.mem_of_getElem? hk')
      rw [blt_iff] at this
      have:c < b:=by simpa using this
      rw [get_cons,if_neg (by omega)]
      exact h1
theorem blks_len (f:Nat→Option Nat):∀ h:Heap,(h.blks f).length = h.keys.length
  | []=>rfl
  | (_,_) :: h=>by simp [Heap.blks,Heap.keys,blks_len f h]
theorem keys_inj:∀ {h:Heap} {i j b:Nat},ascS h = true→h.keys[i]? = some b→h.keys[j]? = some b→i = j
  | [],_,_,_,_,h,_=>by simp [Heap.keys] at h
  | (c,y) :: h,i,j,b,hs,h1,h2=>by
    simp only [ascS,Bool.and_eq_true,List.all_eq_true] at hs
    have gt:∀ {k:Nat},(Heap.keys h)[k]? = some b→c < b:=by
      intro k hk
      have:=hs.1 b (List.mem_of_getElem? hk)
      rw [blt_iff] at this
      simpa using this
    cases i with
    | zero =>
      simp [Heap.keys] at h1
      subst h1
      cases j with
      | zero=>rfl
      | succ j=>have:=gt (k:=j) (by simpa [Heap.keys] using h2); omega
    | succ i =>
      cases j with
      | zero =>
        simp [Heap.keys] at h2
        subst h2
        have:=gt (k:=i) (by simpa [Heap.keys] using h1); omega
      | succ j =>
        have:=keys_inj (i:=i) (j:=j) hs.2 (by simpa [Heap.keys] using h1) (by simpa [Heap.keys] using h2)
        omega
theorem RepH.empty {w:World} {S:Nat→Prop} (hS:∀ B,S B→B < w.heap.size):RepH w S Env.none [] w :=
  { heap:=fun _ _ h=>nomatch h
    inj:=fun _ _ _ _ _ _ _ h=>nomatch h
    rng:=fun _ ⟨_,_,_,h⟩=>nomatch h
    below:=Below.refl _ _
    sb:=hS }
theorem con_of_run {C:Cfg} {self:Run} (hself:SoundRun C self) {g:Nat} {con:Con} (he:Enters C.P g) (h:∀ args r,(con args).Out r→∃ args',(callR C self g args').Out r∧∀ w S φ vals,Reps w S φ args vals→Reps w S φ args' vals):ValidCon C.P g con:=by
  refine ⟨he,fun args r hr w S vals hS hv=>?_⟩
  obtain ⟨args',h1,h2⟩:=h args r hr
  have hv':=h2 w S Env.none vals hv
  obtain ⟨q,hq,hr'⟩:=Tree.out_bind.1 h1
  refine (inlineX_sound hself (RepH.empty hS) (fun _ _=>rfl) hv' (T:=fun e w'=>∃ x ψ,e = .returned x∧ResPost w S Env.none 0 r.1 r.2 x w' ψ) (Tree.wp_of_out hq fun x w' φ' hp=>?_)).2
  simp only at hr'
  split at hr'
  · rename_i hasc
    cases hr'
    generalize hh:gcH 3 q.1.ids q.2.1 = hp' at hasc ⊢
    have hget:∀ b x,hp'.get b = some x→q.2.1.get b = some x:=by
      intro b x hb
      rw [← hh] at hb
      exact gcH_get _ _ _ _ _ hb
    let f:Nat→Option Nat:=fun b=>idxOf b hp'.keys
    let ψ:Env:=fun c=>(hp'.keys[c]?).bind φ'
    have hd:∀ b c,f b = some c→ψ c = φ' b:=by
      intro b c hb
      have:=idxOf_spec hb
      simp [ψ,this]
    have hinv:∀ c b,hp'.keys[c]? = some b→f b = some c:=by
      intro c b hc
      obtain ⟨j,_,hj⟩:=idxOf_mem hc
      have:=keys_inj hasc (idxOf_spec hj) hc
      subst this
      exact hj
    have hsome:∀ c s,ψ c = some s→∃ b,hp'.keys[c]? = some b∧φ' b = some s:=by
      intro c s hc
      simp only [ψ] at hc
      cases hk:hp'.keys[c]? with
      | none=>simp [hk] at hc
      | some b=>exact ⟨b,rfl,by simpa [hk] using hc⟩
    have ho:∀ c s,ψ c = some s→s.alive = true→∃ b,f b = some c:=by
      intro c s hc _
      obtain ⟨b,h3,_⟩:=hsome c s hc
      exact ⟨b,hinv c b h3⟩
    have R':RepH w S φ' hp' w':=⟨hp.mem.heap.sub hget,hp.mem.inj,hp.mem.rng,hp.mem.below,hp.mem.sb⟩
    obtain ⟨_,hst⟩:=R'.ren hd ho
    refine ⟨x,ψ,rfl,⟨⟨hp.mem.below,fun id hid=>?_,fun id s h3 h4 h5 B hB=>?_,fun id id' s s' B h3 h4 h5 h6 h7 h8 h9 h10 h11 h12=>?_⟩,?_,?_⟩⟩
    · have:hp'.keys.length≤id:=by
        rw [blks_len] at hid
        omega
      simp [ψ,List.getElem?_eq_none this,Env.none]
    · obtain ⟨b,h6,h7⟩:=hsome id s h5
      obtain ⟨y,h8,_⟩:=keys_get hasc h6 f
      obtain ⟨B',cap,len,h9,_⟩:=R'.heap _ _ h8
      rw [h9] at h7
      cases h7
      cases hB
      exact R'.rng B ⟨b,cap,len,h9⟩
    · obtain ⟨b,k1,k2⟩:=hsome id s h7
      obtain ⟨b',k3,k4⟩:=hsome id' s' h8
      obtain ⟨a1,o1,c1,l1⟩:=s
      obtain ⟨a2,o2,c2,l2⟩:=s'
      simp only at h9 h10 h11 h12
      subst h9 h10 h11 h12
      have:=R'.inj b b' B _ _ _ _ k2 k4
      subst this
      exact keys_inj hasc k1 k3
    · have:=ren_reps hd hst hp.val
      simpa [AV.renL] using this
    · intro j blk hj
      have hlt:j < hp'.keys.length:=by
        have:=(List.getElem?_eq_some_iff.1 hj).1
        rwa [blks_len] at this
      obtain ⟨b,hb⟩:∃ b,hp'.keys[j]? = some b:=⟨_,List.getElem?_eq_getElem hlt⟩
      obtain ⟨y,h3,h4⟩:=keys_get hasc hb f
      rw [h4] at hj
      cases hj
      obtain ⟨B,cap,len,h5,h6⟩:=R'.heap _ _ h3
      exact ⟨B,cap,len,by simp [ψ,hb,h5],ren_blk hd hst h6⟩
  · exact hr'.elim
theorem con_of_call {C:Cfg} (G:GoodCfg C) {g n:Nat} {con:Con} (he:Enters C.P g) (h:∀ args r,(con args).Out r→∃ args',(callC C n g args').Out r∧∀ w S φ vals,Reps w S φ args vals→Reps w S φ args' vals):ValidCon C.P g con :=
  con_of_run (exec_sound G n).1 he h
end Go.Fx
