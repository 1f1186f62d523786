import Derived.Test.YtgefkgmfbmdooaaGreatT12
namespace Go.Fx
open Go Go.Proofs
def own17 (w:PEn):List AV:=[.int .i64 w.1.1,.own 4,.own 5,.int .i64 w.1.2.2]
def T17e (x:AEn × Int):St:=⟨puts (J 49) [(1,.ptr 0 0),(2,.ptr 1 0),(4,.own 6),(5,.int .i64 x.2)],[(0,.cells (own17 x.1.2)),(1,.cells zeroWA),(4,.rows .task 47 x.1.1),(5,.rows .ape 49 x.1.2.1.2.1),(6,.rows (.int .i64) 3 x.1.2.2)],7⟩
def s17e:List Sh:=sets (Js 49) [(1,.keep),(2,.keep),(4,.keep),(5,.int)]
def e17e:List Sh:=sets (Js 49) [(1,.keep),(2,.keep),(4,.keep)]
def f17e (ss:List Sh) (σ:St):St:=norm2 6 [.tmp 4] [0,1,4,5,6] ss (ownSlot 4 (.int .i64) 3 σ)
theorem weak_f17e (ss:List Sh) (σ:St):Weak 6 σ (f17e ss σ):=(Weak.ownSlot 6 4 (.int .i64) 3 σ).trans (Weak.norm2 6 [.tmp 4] [0,1,4,5,6] ss _)
def E17e (x:AEn):Ex × St:=(.exit 0,⟨puts (J 49) [(1,.ptr 0 0),(2,.ptr 1 0),(4,.own 6)],[(0,.cells (own17 x.2)),(1,.cells zeroWA),(4,.rows .task 47 x.1),(5,.rows .ape 49 x.2.1.2.1),(6,.rows (.int .i64) 3 x.2.2)],7⟩)
theorem b17e (x : AEn) (i : Int) : roundN c152 60 9 (loopAt c152.P 9 4) (f17e s17e) (f17e e17e) (T17e (x, i)) =
    .ite (decide (i < x.1.length)) (.asrt (0≤i∧i < x.1.length) (.asrt (0≤i∧i < x.1.length) (.asrt (0≤(rd .task x.1 i).H.B) (.ite (lateM x.2.1.1 (rd .task x.1 i))
      (.asrt ((x.2.2 ++ [(rd .task x.1 i).ID]).length * 8≤140737488355328) (.asrt (0≤i∧i < x.1.length) (.asrt (0≤i∧i < x.1.length) (.ret (.normal,T17e ((upd .task x.1 i (endK (rd .task x.1 i) x.2.1.1),(x.2.1,x.2.2 ++ [(rd .task x.1 i).ID])),IntKind.i64.wrap (i + 1)))))))
      (.asrt (0≤i∧i < x.1.length) (.asrt (0≤i∧i < x.1.length) (.ret (.normal,T17e ((upd .task x.1 i (endK (rd .task x.1 i) x.2.1.1),x.2),IntKind.i64.wrap (i + 1)))))))))) (.ret (E17e x)):=by kernel_rfl
def g17e (σ:St):Option (AEn × Int) :=
  match nth σ.tmps 5,σ.heap with
  | .int .i64 i,[(_,.cells [.int .i64 a,_,_,.int .i64 c]),_,(_,.rows .task _ T),(_,.rows .ape _ A),(_,.rows (.int .i64) _ o)]=>some ((T,((a,A,c),o)),i)
  | _,_=>none
def ok17e (a:PEn) (t:Fu.Task):Prop:=(a.2.length + 1) * 8≤140737488355328∧0≤t.H.B
def L17e:LoopCon:=boundF 6 (f17e s17e) T17e g17e (fun x=>x.1.length) (okM (r:=.task) ok17e) (nxtM (r:=.task) fEnd1 gEnd1) E17e
theorem l17e (hs:SubOf c152.P 9 (.loop (loopAt c152.P 9 4))):SoundLoop c152 (loopAt c152.P 9 4) L17e :=
  bound_fold (C:=c152) (g:=9) (l:=4) c152_good 60 6 _ _ (weak_f17e s17e) (weak_f17e e17e) hs T17e g17e (fun x=>x.1.length) (okM (r:=.task) ok17e) (nxtM (r:=.task) fEnd1 gEnd1) E17e (fun _=>by intro h; cases h)
    (fun x i=>congrArg (fun n:Nat=>(n:Int)) (upd_len (r:=.task) x.1 i _))
    (fun x i h0 hi hm hok=>.of_eq (b17e x i) (by
      unfold maxI64 at hm
      rw [wrap_fits (n:=i + 1) (by omega) (by omega)]
      have a:0≤i∧i < (x.1.length:Int):=⟨h0,hok.1⟩
      refine (Tree.out_ite_true (decide_eq_true hi)).2 ⟨a,a,hok.2.2,?_⟩
      unfold nxtM fEnd1 gEnd1
      cases h:lateM x.2.1.1 (rd .task x.1 i) with
      | true=>exact (Tree.out_ite_true rfl).2 ⟨by rw [List.length_append]; exact hok.2.1,a,a,rfl⟩
      | false=>exact (Tree.out_ite_false rfl).2 ⟨a,a,rfl⟩))
    (fun x i hi=>.of_eq (b17e x i) ((Tree.out_ite_false (decide_eq_false (by omega))).2 rfl))
noncomputable def c153:Cfg:=c152.addLoop 9 4 L17e
theorem c153_good:GoodCfg c153:=c152_good.addLoop (by unfold OneLoop; kernel_rfl) l17e
def end17O (w:Fu.World):AEn:=foldI (nxtM (r:=.task) fEnd1 gEnd1) ((w.T.length:Int) - 0).toNat (endIn w) 0
def end17T (w:Fu.World):Tree (AV × List Blk):=.asrt (w.T.length * 176≤140737488355328) (.asrt (w.A.length * 40≤140737488355328) (.asrt (6 = 6∧T17e (endIn w,0) = T17e (endIn w,0)) (.asrt (0≤(0:Int)∧(w.T.length:Int)≤maxI64∧okI (nxtM (r:=.task) fEnd1 gEnd1) (fun _ _=>(none:Option Unit)) (okM (r:=.task) ok17e) ((w.T.length:Int) - 0).toNat (endIn w) 0)
  (.ret (resW (end17O w).2.1.1 (end17O w).1 (end17O w).2.1.2.1 (end17O w).2.1.2.2 (end17O w).2.2)))))
theorem fEnd17 (w:Fu.World):callC c153 60 9 [.agg (encW w)] = end17T w:=by kernel_rfl
theorem ok17e_acc (p:Int × List Fu.Ape × Int):∀ (l:List Fu.Task) (o:List Int),(o.length + l.length) * 8≤140737488355328→finB l→okAcc (r:=.task) gEnd1 ok17e (p,o) l
  | [],_,_,_=>trivial
  | t :: l,o,h,hf=>by
    rw [List.length_cons] at h
    refine ⟨⟨by show (o.length + 1) * 8≤140737488355328; omega,hf t (by simp)⟩,ok17e_acc p l _ ?_ fun u hu=>hf u (List.mem_cons_of_mem _ hu)⟩
    show ((bif lateM p.1 t then o ++ [t.ID] else o).length + l.length) * 8≤_
    cases lateM p.1 t with
    | true=>simp only [cond_true,List.length_append,List.length_cons,List.length_nil]; omega
    | false=>simp only [cond_false]; omega
theorem end17T_rez {w:Fu.World} (h:smallW w) (hf:finB w.T):Rez (end17T w) (resW w.Now (endW w).T w.A w.Cur (missedW w)):=by
  obtain ⟨h1,h2⟩:=h
  obtain ⟨k1,k2⟩:=foldAcc (r:=.task) (f:=fEnd1) (g:=gEnd1) (okE:=ok17e) w.T [] ((w.Now,w.A,w.Cur),[]) (ok17e_acc _ _ _ (by simp; omega) hf)
  rw [accEnd] at k1
  have e:((w.T.length:Int) - 0).toNat = w.T.length:=by omega
  refine .asrt (by omega) (.asrt (by omega) (.asrt ⟨rfl,rfl⟩ (.asrt ⟨Int.le_refl _,by unfold maxI64; omega,?_⟩ ?_)))
  · rw [e]; exact k2
  · unfold end17O
    rw [e]
    have k1':foldI (nxtM (r:=.task) fEnd1 gEnd1) w.T.length (endIn w) 0 = _:=k1
    rw [k1']
    exact .ret (.refl _) rfl
def conEnd17:Con:=resCon (d1 dWorld) (fun w=>smallW w∧finB w.T) fun w=>resW w.Now (endW w).T w.A w.Cur (missedW w)
theorem conEnd17_valid:ValidCon c153.P 9 conEnd17:=resCon_valid c153_good 60 (by kernel_rfl) fun w h=>⟨_,fEnd17 w,end17T_rez h.1 h.2⟩
def conEnd17F:Con:=flatCon (d1 dWorld) (fun w=>smallW w∧finB w.T) fun w=>.tup [.agg (encW (endW w)),.view (.int .i64) (missedW w)]
theorem conEnd17F_valid:ValidCon c153.P 9 conEnd17F:=resCon_frozen conEnd17_valid fun _=>⟨_,rfl,.refl _⟩
noncomputable def c154:Cfg:=c153.addQuiet 9 conEnd17F
theorem c154_good:GoodCfg c154:=c153_good.addQuiet conEnd17F_valid flatCon_quiet
abbrev P17b:=(Int × List Fu.Ape × Int) × List Int × List Int
abbrev A17b:=List Fu.Task × P17b
def own17q (q:Int × List Fu.Ape × Int):List AV:=[.int .i64 q.1,.own 4,.own 5,.int .i64 q.2.2]
def T17b (x:A17b × Int):St:=⟨puts (J 82) [(1,.view (.int .i64) x.1.2.2.1),(2,.ptr 0 0),(4,.ptr 1 0),(7,.own 6),(8,.int .i64 x.2)],[(0,.cells (own17q x.1.2.1)),(1,.cells zeroWA),(4,.rows .task 47 x.1.1),(5,.rows .ape 49 x.1.2.1.2.1),(6,.rows (.int .i64) 3 x.1.2.2.2)],7⟩
def s17b:List Sh:=sets (Js 82) [(1,.keep),(2,.keep),(4,.keep),(7,.keep),(8,.int)]
def e17b:List Sh:=sets (Js 82) [(2,.keep),(4,.keep),(7,.keep)]
def f17b (ss:List Sh) (σ:St):St:=norm2 6 [.tmp 7] [0,1,4,5,6] ss (ownSlot 7 (.int .i64) 3 σ)
theorem weak_f17b (ss:List Sh) (σ:St):Weak 6 σ (f17b ss σ):=(Weak.ownSlot 6 7 (.int .i64) 3 σ).trans (Weak.norm2 6 [.tmp 7] [0,1,4,5,6] ss _)
def dat17 (d o:List Int) (t:Fu.Task):Int:=bif decide ((o.length:Int) < d.length) && (decide (rd (.int .i64) d (o.length:Int)≥1) && decide (rd (.int .i64) d (o.length:Int)≤20)) then rd (.int .i64) d (o.length:Int) else t.S.C
def in17 (d o:List Int):Prop:=0≤(o.length:Int)∧(o.length:Int) < d.length
def E17b (x:A17b):Ex × St:=(.exit 0,⟨puts (J 82) [(2,.ptr 0 0),(4,.ptr 1 0),(7,.own 6)],[(0,.cells (own17q x.2.1)),(1,.cells zeroWA),(4,.rows .task 47 x.1),(5,.rows .ape 49 x.2.1.2.1),(6,.rows (.int .i64) 3 x.2.2.2)],7⟩)
theorem b17b (x : A17b) (i : Int) : roundN c154 60 7 (loopAt c154.P 7 7) (f17b s17b) (f17b e17b) (T17b (x, i)) =
    .ite (decide (i < x.1.length)) (.asrt (0≤i∧i < x.1.length) (.asrt (0≤i∧i < x.1.length) (.asrt (decide ((x.2.2.2.length:Int) < x.2.2.1.length) = true→in17 x.2.2.1 x.2.2.2)
      (.asrt (decide ((x.2.2.2.length:Int) < x.2.2.1.length) = true→decide (rd (.int .i64) x.2.2.1 (x.2.2.2.length:Int)≥1) = true→in17 x.2.2.1 x.2.2.2)
      (.asrt ((decide ((x.2.2.2.length:Int) < x.2.2.1.length) && (decide (rd (.int .i64) x.2.2.1 (x.2.2.2.length:Int)≥1) && decide (rd (.int .i64) x.2.2.1 (x.2.2.2.length:Int)≤20))) = true→in17 x.2.2.1 x.2.2.2)
      (.ite (begOK (rd .task x.1 i) x.2.1.1 (dat17 x.2.2.1 x.2.2.2 (rd .task x.1 i))) (.asrt (0≤i∧i < x.1.length) (.asrt (0≤i∧i < x.1.length) (.asrt ((x.2.2.2 ++ [(rd .task x.1 i).ID]).length * 8≤140737488355328)
        (.ret (.normal,T17b ((upd .task x.1 i (begK (rd .task x.1 i) x.2.1.1 (dat17 x.2.2.1 x.2.2.2 (rd .task x.1 i))),(x.2.1,x.2.2.1,x.2.2.2 ++ [(rd .task x.1 i).ID])),IntKind.i64.wrap (i + 1))))))) (.ret (.normal,T17b (x,IntKind.i64.wrap (i + 1)))))))))) (.ret (E17b x)):=by kernel_rfl
def g17b (σ:St):Option (A17b × Int) :=
  match nth σ.tmps 1,nth σ.tmps 8,σ.heap with
  | .view (.int .i64) d,.int .i64 i,[(_,.cells [.int .i64 a,_,_,.int .i64 c]),_,(_,.rows .task _ T),(_,.rows .ape _ A),(_,.rows (.int .i64) _ o)]=>some ((T,((a,A,c),d,o)),i)
  | _,_,_=>none
def fB17 (a:P17b) (t:Fu.Task):Fu.Task:=begK t a.1.1 (dat17 a.2.1 a.2.2 t)
def gB17 (a:P17b) (t:Fu.Task):P17b:=(a.1,a.2.1,bif begOK t a.1.1 (dat17 a.2.1 a.2.2 t) then a.2.2 ++ [t.ID] else a.2.2)
def ok17b (a:P17b) (_:Fu.Task):Prop:=(a.2.2.length + 1) * 8≤140737488355328
def L17b:LoopCon:=boundF 6 (f17b s17b) T17b g17b (fun x=>x.1.length) (okM (r:=.task) ok17b) (nxtM (r:=.task) fB17 gB17) E17b
theorem l17b (hs:SubOf c154.P 7 (.loop (loopAt c154.P 7 7))):SoundLoop c154 (loopAt c154.P 7 7) L17b :=
  bound_fold (C:=c154) (g:=7) (l:=7) c154_good 60 6 _ _ (weak_f17b s17b) (weak_f17b e17b) hs T17b g17b (fun x=>x.1.length) (okM (r:=.task) ok17b) (nxtM (r:=.task) fB17 gB17) E17b (fun _=>by intro h; cases h)
    (fun x i=>congrArg (fun n:Nat=>(n:Int)) (upd_len (r:=.task) x.1 i _))
    (fun x i h0 hi hm hok=>.of_eq (b17b x i) (by
      unfold maxI64 at hm
      rw [wrap_fits (n:=i + 1) (by omega) (by omega)]
      have a:0≤i∧i < (x.1.length:Int):=⟨h0,hok.1⟩
      have hin:decide ((x.2.2.2.length:Int) < x.2.2.1.length) = true→in17 x.2.2.1 x.2.2.2:=fun h=>⟨by omega,of_decide_eq_true h⟩
      refine (Tree.out_ite_true (decide_eq_true hi)).2 ⟨a,a,hin,fun h _=>hin h,fun h=>hin (by rw [Bool.and_eq_true] at h; exact h.1),?_⟩
      unfold nxtM fB17 gB17
      cases h:begOK (rd .task x.1 i) x.2.1.1 (dat17 x.2.2.1 x.2.2.2 (rd .task x.1 i)) with
      | true=>exact (Tree.out_ite_true rfl).2 ⟨a,a,by rw [List.length_append]; exact hok.2,rfl⟩
      | false =>
        have e:begK (rd .task x.1 i) x.2.1.1 (dat17 x.2.2.1 x.2.2.2 (rd .task x.1 i)) = rd .task x.1 i:=by unfold begK; rw [h]; rfl
        rw [e,upd_self h0 hok.1]
        exact (Tree.out_ite_false rfl).2 rfl))
    (fun x i hi=>.of_eq (b17b x i) ((Tree.out_ite_false (decide_eq_false (by omega))).2 rfl))
noncomputable def c155:Cfg:=c154.addLoop 7 7 L17b
theorem c155_good:GoodCfg c155:=c154_good.addLoop (by unfold OneLoop; kernel_rfl) l17b
def beg17I (w:Fu.World) (d:List Int):A17b:=(w.T,((w.Now,w.A,w.Cur),d,[]))
def beg17O (w:Fu.World) (d:List Int):A17b:=foldI (nxtM (r:=.task) fB17 gB17) ((w.T.length:Int) - 0).toNat (beg17I w d) 0
def beg17T (w:Fu.World) (d:List Int):Tree (AV × List Blk):=.asrt (w.T.length * 176≤140737488355328) (.asrt (w.A.length * 40≤140737488355328) (.asrt (smallW w∧finB w.T) (.ite (!mayW w) (.ret (nilW w)) (.asrt (6 = 6∧T17b (beg17I w d,0) = T17b (beg17I w d,0)) (.asrt (0≤(0:Int)∧(w.T.length:Int)≤maxI64∧okI (nxtM (r:=.task) fB17 gB17) (fun _ _=>(none:Option Unit)) (okM (r:=.task) ok17b) ((w.T.length:Int) - 0).toNat (beg17I w d) 0)
  (.ret (resW (beg17O w d).2.1.1 (beg17O w d).1 (beg17O w d).2.1.2.1 (beg17O w d).2.1.2.2 (beg17O w d).2.2.2)))))))
theorem fBegin17 (w:Fu.World) (d:List Int):callC c155 60 7 [.agg (encW w),.view (.int .i64) d] = beg17T w d:=by kernel_rfl
theorem dat17_eq (d o:List Int) (t:Fu.Task):dat17 d o t = lastD t (d.drop o.length):=by
  unfold dat17
  by_cases h:o.length < d.length
  · have hd:=List.drop_eq_getElem_cons h
    have e:rd (.int .i64) d (o.length:Int) = d[o.length]:=by unfold rd; simp [h]
    rw [decide_eq_true (show (o.length:Int) < d.length by omega),e,hd]
    generalize d[o.length] = y
    show _ = bif decide (y < 1) || decide (y > 20) then t.S.C else y
    by_cases h1:y < 1
    · rw [decide_eq_true h1,decide_eq_false (show ¬ y≥1 by omega)]; rfl
    · rw [decide_eq_false h1,decide_eq_true (show y≥1 by omega)]
      by_cases h2:y > 20
      · rw [decide_eq_true h2,decide_eq_false (show ¬ y≤20 by omega)]; rfl
      · rw [decide_eq_false h2,decide_eq_true (show y≤20 by omega)]; rfl
  · rw [decide_eq_false (show ¬ (o.length:Int) < d.length by omega),List.drop_eq_nil_of_le (by omega)]
    rfl
theorem accB17 (q:Int × List Fu.Ape × Int) (d:List Int):∀ (l:List Fu.Task) (o:List Int),accM (r:=.task) fB17 gB17 (q,d,o) l = ((begTs q.1 (d.drop o.length) l).1,(q,d,o ++ (begTs q.1 (d.drop o.length) l).2))
  | [],o=>by simp [accM,begTs]
  | t :: l,o=>by
    unfold accM begTs
    have e:gB17 (q,d,o) t = (q,d,bif begOK t q.1 (lastD t (d.drop o.length)) then o ++ [t.ID] else o):=by unfold gB17; simp only [dat17_eq]
    have ef:fB17 (q,d,o) t = begK t q.1 (lastD t (d.drop o.length)):=by unfold fB17; simp only [dat17_eq]
    rw [e,ef,accB17 q d l]
    unfold begK
    cases h:begOK t q.1 (lastD t (d.drop o.length)) with
    | true =>
      have et:(d.drop o.length).tail = d.drop (o.length + 1):=by rw [List.tail_drop]
      simp only [cond_true,List.length_append,List.length_cons,List.length_nil,Nat.zero_add,et,List.append_assoc,List.singleton_append]
    | false=>simp only [cond_false]
theorem ok17b_acc (q:Int × List Fu.Ape × Int) (d:List Int):∀ (l:List Fu.Task) (o:List Int),(o.length + l.length) * 8≤140737488355328→okAcc (r:=.task) gB17 ok17b (q,d,o) l
  | [],_,_=>trivial
  | t :: l,o,h=>by
    rw [List.length_cons] at h
    refine ⟨by show (o.length + 1) * 8≤140737488355328; omega,ok17b_acc q d l _ ?_⟩
    show ((bif begOK t q.1 (dat17 d o t) then o ++ [t.ID] else o).length + l.length) * 8≤_
    cases begOK t q.1 (dat17 d o t) with
    | true=>simp only [cond_true,List.length_append,List.length_cons,List.length_nil]; omega
    | false=>simp only [cond_false]; omega
theorem beg17T_rez {w:Fu.World} {d:List Int} (h:smallW w) (hf:finB w.T):Rez (beg17T w d) (bif mayW w then resW w.Now (beginW w d).1.T w.A w.Cur (beginW w d).2 else nilW w):=by
  have h':=h
  obtain ⟨h1,h2⟩:=h'
  refine .asrt (by omega) (.asrt (by omega) (.asrt ⟨h,hf⟩ ?_))
  cases hm:mayW w with
  | false=>exact .itet rfl (.ret (.refl _) rfl)
  | true =>
    obtain ⟨k1,k2⟩:=foldAcc (r:=.task) (f:=fB17) (g:=gB17) (okE:=ok17b) w.T [] ((w.Now,w.A,w.Cur),d,[]) (ok17b_acc _ _ _ _ (by simp; omega))
    rw [accB17] at k1
    have e:((w.T.length:Int) - 0).toNat = w.T.length:=by omega
    refine .itee rfl (.asrt ⟨rfl,rfl⟩ (.asrt ⟨Int.le_refl _,by unfold maxI64; omega,by rw [e]; exact k2⟩ ?_))
    unfold beg17O
    rw [e]
    have k1':foldI (nxtM (r:=.task) fB17 gB17) w.T.length (beg17I w d) 0 = _:=k1
    rw [k1']
    refine .ret (.refl _) ?_
    simp only [beginW,hm,cond_true,List.length_nil,List.drop_zero,List.nil_append]
def conBegin17o:Con:=resCon (d2 dWorld (dView (.int .i64))) (fun x=>smallW x.1∧finB x.1.T) fun x=>bif mayW x.1 then resW x.1.Now (beginW x.1 x.2).1.T x.1.A x.1.Cur (beginW x.1 x.2).2 else nilW x.1
theorem conBegin17o_valid:ValidCon c155.P 7 conBegin17o:=resCon_valid c155_good 60 (by kernel_rfl) fun x h=>⟨_,fBegin17 x.1 x.2,beg17T_rez h.1 h.2⟩
def conBegin17:Con:=resCon (d2 dWorld (dView (.int .i64))) (fun x=>smallW x.1∧finB x.1.T) fun x=>resW x.1.Now (beginW x.1 x.2).1.T x.1.A x.1.Cur (beginW x.1 x.2).2
theorem conBegin17_valid:ValidCon c155.P 7 conBegin17:=conBegin17o_valid.nilTail fun args r hr=>by
  unfold conBegin17 resCon at hr
  unfold conBegin17o resCon
  split at hr
  · rename_i x hx
    obtain ⟨h1,h2⟩:=hr
    cases hm:mayW x.1 with
    | true=>exact .inl ⟨_,.refl _,h1,by simp only [hm,cond_true]; exact h2⟩
    | false =>
      refine .inr ⟨.agg [.int .i64 x.1.Now,.own 0,.own 1,.int .i64 x.1.Cur],(nilW x.1).2,.int .i64,3,?_,h1,?_⟩
      · rw [← h2]
        have e:beginW x.1 x.2 = (x.1,[]):=by unfold beginW; rw [hm]; rfl
        show resW x.1.Now (beginW x.1 x.2).1.T x.1.A x.1.Cur (beginW x.1 x.2).2 = _
        rw [e]
        rfl
      · simp only [hm,cond_false]; rfl
  · exact hr.elim
def conBegin17F:Con:=flatCon (d2 dWorld (dView (.int .i64))) (fun x=>smallW x.1∧finB x.1.T) fun x=>.tup [.agg (encW ⟨x.1.Now,(beginW x.1 x.2).1.T,x.1.A,x.1.Cur⟩),.view (.int .i64) (beginW x.1 x.2).2]
theorem conBegin17F_valid:ValidCon c155.P 7 conBegin17F:=resCon_frozen conBegin17_valid fun _=>⟨_,rfl,.refl _⟩
noncomputable def c156:Cfg:=c155.addQuiet 7 conBegin17F
theorem c156_good:GoodCfg c156:=c155_good.addQuiet conBegin17F_valid flatCon_quiet
def conBegFt:Con:=flatCon (d2 dWorld (dView (.int .i64))) (fun x=>smallW x.1) fun x=>.tup [.agg (encW ⟨x.1.Now,(beginW x.1 x.2).1.T,x.1.A,x.1.Cur⟩),.view (.int .i64) (beginW x.1 x.2).2]
theorem conBegFt_valid:ValidCon c156.P 6 conBegFt:=resCon_frozen conRBegin_valid fun _=>⟨_,rfl,.refl _⟩
noncomputable def c157:Cfg:=c156.addQuiet 6 conBegFt
theorem c157_good:GoodCfg c157:=c156_good.addQuiet conBegFt_valid flatCon_quiet
def conEndFt:Con:=flatCon (d1 dWorld) smallW fun w=>.tup [.agg (encW (endW w)),.view (.int .i64) (missedW w)]
theorem conEndFt_valid:ValidCon c157.P 8 conEndFt:=resCon_frozen conEnd_valid fun _=>⟨_,rfl,.refl _⟩
noncomputable def c158:Cfg:=c157.addQuiet 8 conEndFt
theorem c158_good:GoodCfg c158:=c157_good.addQuiet conEndFt_valid flatCon_quiet
end Go.Fx
