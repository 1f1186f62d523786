import Derived.Test.YtdmlnbfejgdhaaaGreatE0
import Derived.Test.YtdmlnbfejgdhaaaGreatP0
namespace Go.Fx
open Go Go.Proofs
theorem ValidCon.either {P:Program} {g:Nat} {a b con:Con} (h1:ValidCon P g a) (h2:ValidCon P g b) (h:∀ args r,(con args).Out r→(a args).Out r∨(b args).Out r):ValidCon P g con :=
 ⟨h1.1,fun args r hr w S vals hS hv=>(h args r hr).elim (fun x=>h1.2 args r x w S vals hS hv) (fun x=>h2.2 args r x w S vals hS hv)⟩
theorem frozenCon_validA {C:Cfg} (G:GoodCfg C) {g:Nat} (n:Nat) {α:Type} {D:Ds α} {ok:α→Prop} {res:α→AV} (he:entersB C.P g=true) (h:∀ a,ok a→∃ args t,AsArgs (D.enc a) args∧frozen (callC C n g) args=t∧Rez t (res a,[])):ValidCon C.P g (flatCon D ok res):=by
 have V:ValidCon C.P g (frozen (callC C n g)):=ValidCon.frozen (con_of_call G (enters_of he) fun args r hr=>⟨args,hr,fun _ _ _ _ hv=>hv⟩)
 refine ⟨V.1,fun args r hr w S vals hS hv=>?_⟩
 unfold flatCon resCon at hr
 split at hr
 ·rename_i a ha
  obtain ⟨h1,h2⟩:=hr
  cases h2
  obtain ⟨args',t,ha',h3,v,h4,h5⟩:=h a h1
  refine (V.2 args' (v,[]) (h3 ▸ h5) w S vals hS (ha'.reps ((D.ok _ _ ha).reps hv))).mono ?_
  rintro e w' ⟨x,ψ,rfl,hp⟩
  exact ⟨x,ψ,rfl,⟨hp.ext,h4.reps hp.val,hp.blks⟩⟩
 ·exact hr.elim
def opK (k:Int) (o:Fu.Op):AV:=.agg (.lit .i64 k :: (encOp o).tail)
theorem opK_arg {k:Int} {o:Fu.Op} (h:o.Kind=k):AsArg (.agg (encOp o)) (opK k o):=.agg (.cons (.toLit h) (AsArgs.refl _))
def noTr:Trc:=(0,0,0,0,[],[],[])
def errD (e:Int) (s:Fu.Serv):Fu.Serv × (Int × Int) × Trc:=(s,(e,0),noTr)
def argA (o:Fu.Op):Bool:=o.Within == 0 || (decide (o.C < 1) || (decide (o.C > 40) || (decide (o.V < 1) || decide (o.V > 1000))))
def fullA (s:Fu.Serv):Bool:=(s.W.A.length:Int) == 4 || s.NextAp == 65536
def subS (s:Fu.Serv) (o:Fu.Op):Fu.Serv:=⟨{ s.W with A:=s.W.A ++ [⟨s.NextAp,s.W.Now+o.Within,o.C,o.V,0⟩] },s.R,s.NextID,s.NextAp+1⟩
def doJ (s:Fu.Serv) (o:Fu.Op):Fu.Serv × (Int × Int) × Trc:=bif (joinR s o.S).2 != 0 then errD (joinR s o.S).2 s else ((joinR s o.S).1.1,(0,maxI (joinR s o.S).1.2 0),noTr)
def doR (s:Fu.Serv) (o:Fu.Op):Fu.Serv × (Int × Int) × Trc:=bif (rateR s o.ID o.T o.Max).2 != 0 then errD (rateR s o.ID o.T o.Max).2 s else ((rateR s o.ID o.T o.Max).1,(0,0),noTr)
def doL (s:Fu.Serv) (o:Fu.Op):Fu.Serv × (Int × Int) × Trc:=bif (leaveR s o.ID).2 != 0 then errD (leaveR s o.ID).2 s else ((leaveR s o.ID).1,(0,0),noTr)
def doA (s:Fu.Serv) (o:Fu.Op):Fu.Serv × (Int × Int) × Trc:=bif argA o then errD 1 s else bif fullA s then errD 3 s else (subS s o,(0,s.NextAp),noTr)
def doT (s:Fu.Serv) (o:Fu.Op):Fu.Serv × (Int × Int) × Trc:=({ (moveV s).1 with W:=tickW (moveV s).1.W o.D },(0,(tickW (moveV s).1.W o.D).Now),trTick (moveV s).1.W o.D)
def doK (s:Fu.Serv) (o:Fu.Op):Fu.Serv × (Int × Int) × Trc:=bif o.Kind == 0 then doJ s o else bif o.Kind == 1 then doR s o else bif o.Kind == 2 then doL s o else bif o.Kind == 3 then doA s o else doT s o
def doV (s:Fu.Serv) (o:Fu.Op):Fu.Serv × (Int × Int) × Trc:=bif whyV s (mayOp o) != 0 then errD (whyV s (mayOp o)) s else doK s o
def encD (x:Fu.Serv × (Int × Int) × Trc):AV:=.tup [.agg (encS x.1),.agg [.int .i64 x.2.1.1,.int .i64 x.2.1.2],.agg (encTrc x.2.2)]
theorem whyV_zero {s:Fu.Serv} {f:Bool} (h:whyV s f=0):mayE s=true∧f=true∧s.W.Now≠274877906944:=by
 unfold whyV at h
 cases hm:mayE s with
 | false=>rw [hm] at h; exact absurd h (by show ¬ (1:Int)=0; decide)
 | true =>
  rw [hm] at h
  cases hf:f with
  | false=>rw [hf] at h; exact absurd h (by show ¬ (7:Int)=0; decide)
  | true =>
   rw [hf] at h
   cases hn:s.W.Now == 274877906944 with
   | true=>rw [hn] at h; exact absurd h (by show ¬ (8:Int)=0; decide)
   | false=>exact ⟨rfl,rfl,by intro e; rw [e] at hn; exact absurd hn (by decide)⟩
theorem mayOp_kind {o:Fu.Op} (h:mayOp o=true):0≤o.Kind∧o.Kind < 5:=by
 unfold mayOp at h
 simp only [Bool.and_eq_true,Bool.not_eq_true',Bool.or_eq_false_iff,decide_eq_false_iff_not] at h
 omega
def nilTr:AV:=.agg [.lit .i64 0,.lit .i64 0,.lit .i64 0,.lit .i64 0,.nils,.nils,.nils]
theorem nilTr_arg:AsArg nilTr (.agg (encTrc noTr)):=.agg (.cons (.lit rfl) (.cons (.lit rfl) (.cons (.lit rfl) (.cons (.lit rfl) (.cons (.view rfl) (.cons (.view rfl) (.cons (.view rfl) .nil)))))))
def errAV (e:AV) (s:Fu.Serv):AV:=.tup [.agg [.int .i64 s.W.Now,.view .task s.W.T,.view .ape s.W.A,.int .i64 s.W.Cur,.bool s.R.On,.int .i64 s.R.Since,.int .i64 s.R.By,.int .i64 s.R.New,.view .aim s.R.L,.int .i64 s.NextID,.int .i64 s.NextAp],.agg [e,.lit .i64 0],nilTr]
theorem err_arg {s:Fu.Serv} {e:AV} {n:Int} (h:AsArg e (.int .i64 n)):AsArg (errAV e s) (encD (errD n s)):=.tup (.cons (.refl _) (.cons (.agg (.cons h (.cons (.lit rfl) .nil))) (.cons nilTr_arg .nil)))
def okAV (s:Fu.Serv) (n:AV):AV:=.tup [.agg [.int .i64 s.W.Now,.view .task s.W.T,.view .ape s.W.A,.int .i64 s.W.Cur,.bool s.R.On,.int .i64 s.R.Since,.int .i64 s.R.By,.int .i64 s.R.New,.view .aim s.R.L,.int .i64 s.NextID,.int .i64 s.NextAp],.agg [.lit .i64 0,n],nilTr]
theorem ok_arg {s:Fu.Serv} {e:AV} {n:Int} (h:AsArg e (.int .i64 n)):AsArg (okAV s e) (encD (s,(0,n),noTr)):=.tup (.cons (.refl _) (.cons (.agg (.cons (.lit rfl) (.cons h .nil))) (.cons nilTr_arg .nil)))
def doTree (f:Tree (AV × List Blk)→Tree (AV × List Blk)) (s:Fu.Serv) (o:Fu.Op) (mid:Tree (AV × List Blk)):Tree (AV × List Blk) :=
 .asrt ((o.D.length:Int)≤17592186044415) (.asrt (smallS s) (f (.ite (whyV s (mayOp o) == 0) (.asrt True mid) (.ite (whyV s (mayOp o) != 0) (f (.ret (errAV (.int .i64 (whyV s (mayOp o))) s,[]))) (.ret (errAV (.lit .i64 0) s,[]))))))
theorem doTree_rez {f : Tree (AV × List Blk) → Tree (AV × List Blk)} {s : Fu.Serv} {o : Fu.Op} {mid : Tree (AV × List Blk)} (hf : ∀ t r, Rez t r → Rez (f t) r) (hs : smallS s) (hd : (o.D.length : Int) ≤ 17592186044415)
    (h:whyV s (mayOp o)=0→Rez mid (encD (doK s o),[])):Rez (doTree f s o mid) (encD (doV s o),[]):=by
  refine .asrt hd (.asrt hs (hf _ _ ?_))
  cases hw:whyV s (mayOp o) == 0 with
  | true =>
    have hw:=eq_of_beq hw
    have e:doV s o=doK s o:=by unfold doV; rw [hw]; rfl
    rw [e]
    exact .itet rfl (.asrt trivial (h hw))
  | false =>
    have e:(whyV s (mayOp o) != 0)=true:=by unfold bne; rw [hw]; rfl
    have e2:doV s o=errD (whyV s (mayOp o)) s:=by unfold doV; rw [e]; rfl
    rw [e2]
    exact .itee rfl (.itet e (hf _ _ (.ret (err_arg (.refl _)) rfl)))
theorem fOwnE (s:Fu.Serv):frozen (callC c215 60 58) [.agg (encS s)]=ownOk s (.ret (.agg (encS s),[])):=by kernel_rfl
def conOwnE:Con:=flatCon (d1 dServ) smallS fun s=>.agg (encS s)
theorem conOwnE_valid:ValidCon c215.P 58 conOwnE:=frozenCon_valid c215_good 60 (by kernel_rfl) fun s h=>⟨_,fOwnE s,ownOk_rez h (.ret (.refl _) rfl)⟩
noncomputable def xOwn:Cfg:=c215.addQuiet 58 conOwnE
theorem xOwn_good:GoodCfg xOwn:=c215_good.addQuiet conOwnE_valid flatCon_quiet
theorem quiet_P (C:Cfg) (g:Nat) (c:Con):(C.addQuiet g c).P=C.P:=rfl
theorem xOwn_P:xOwn.P=c215.P:=quiet_P c215 58 conOwnE
def smA (s:Fu.Serv) (t:Tree (AV × List Blk)):Tree (AV × List Blk):=.asrt (smallS s) t
theorem smA_rez {s:Fu.Serv} (h:smallS s):∀ t r,Rez t r→Rez (smA s t) r:=fun _ _ x=>.asrt h x
theorem fDoX (s:Fu.Serv) (o:Fu.Op):callC xOwn 80 23 [.agg (encS s),.agg (encOp o)]=doTree (smA s) s o .fail:=by kernel_rfl
theorem fDo0 (s:Fu.Serv) (o:Fu.Op):callC xOwn 80 23 [.agg (encS s),opK 0 o]=doTree (smA s) s { o with Kind:=0 } (.asrt (smallS s) (.ite ((joinR s o.S).2 != 0) (.asrt (smallS s) (.ret (errAV (.int .i64 (joinR s o.S).2) s,[]))) (.ret (okAV (joinR s o.S).1.1 (.int .i64 (maxI (joinR s o.S).1.2 0)),[])))):=by kernel_rfl
theorem fDo1 (s:Fu.Serv) (o:Fu.Op):callC xOwn 80 23 [.agg (encS s),opK 1 o]=doTree (smA s) s { o with Kind:=1 } (.asrt (smallS s) (.ite ((rateR s o.ID o.T o.Max).2 != 0) (.asrt (smallS s) (.ret (errAV (.int .i64 (rateR s o.ID o.T o.Max).2) s,[]))) (.ret (okAV (rateR s o.ID o.T o.Max).1 (.lit .i64 0),[])))):=by kernel_rfl
theorem fDo2 (s:Fu.Serv) (o:Fu.Op):callC xOwn 80 23 [.agg (encS s),opK 2 o]=doTree (smA s) s { o with Kind:=2 } (.asrt (smallS s) (.ite ((leaveR s o.ID).2 != 0) (.asrt (smallS s) (.ret (errAV (.int .i64 (leaveR s o.ID).2) s,[]))) (.ret (okAV (leaveR s o.ID).1 (.lit .i64 0),[])))):=by kernel_rfl
theorem fDo4 (s:Fu.Serv) (o:Fu.Op):callC xOwn 80 23 [.agg (encS s),opK 4 o]=doTree (smA s) s { o with Kind:=4 } (.asrt (smallS s) (.asrt (tickY ((moveV s).1.W,o.D)) (.ret (.tup [.agg (encS { (moveV s).1 with W:=tickW (moveV s).1.W o.D }),.agg [.lit .i64 0,.int .i64 (tickW (moveV s).1.W o.D).Now],.agg (encTrc (trTick (moveV s).1.W o.D))],[])))):=by kernel_rfl
theorem fDo3 (s : Fu.Serv) (o : Fu.Op) : frozen (callC c215 80 23) [.agg (encS s), opK 3 o] = doTree (ownOk s) s { o with Kind := 3 } (.ite (argA o) (ownOk s (.ret (errAV (.lit .i64 1) s, []))) (.ite (fullA s) (ownOk s (.ret (errAV (.lit .i64 3) s, [])))
    (.asrt ((s.W.A ++ [(⟨s.NextAp,IntKind.i64.wrap (s.W.Now+o.Within),o.C,o.V,0⟩:Fu.Ape)]).length*40≤140737488355328) (.ret (okAV ⟨{ s.W with A:=s.W.A ++ [⟨s.NextAp,IntKind.i64.wrap (s.W.Now+o.Within),o.C,o.V,0⟩] },s.R,s.NextID,IntKind.i64.wrap (s.NextAp+1)⟩ (.int .i64 s.NextAp),[]))))):=by kernel_rfl
theorem shr_op {n:Int} (k:Nat) (hk:k≤64):shrI .i64 n (k:Int)=n / 2 ^ k:=by
 unfold shrI
 have h1:(k:Int).toNat=k:=by simp
 have h2:min k IntKind.i64.bits=k:=by simp [IntKind.bits]; omega
 rw [h1,h2,Int.fdiv_eq_ediv_of_nonneg _ (Int.le_of_lt (Int.pow_pos (by omega)))]
theorem badOp1 (n:Int):badOp n 1=!(decide (0≤n) && decide (n≤255)):=by
 have e:IntKind.i64.wrap (8*1)=((8:Nat):Int):=by decide
 unfold badOp
 rw [e,shr_op 8 (by omega),Bool.eq_iff_iff]
 simp only [Bool.or_eq_true,decide_eq_true_eq,Bool.not_eq_true',Bool.and_eq_false_iff,decide_eq_false_iff_not]
 omega
theorem badOp2 (n:Int):badOp n 2=!(decide (0≤n) && decide (n≤65535)):=by
 have e:IntKind.i64.wrap (8*2)=((16:Nat):Int):=by decide
 unfold badOp
 rw [e,shr_op 16 (by omega),Bool.eq_iff_iff]
 simp only [Bool.or_eq_true,decide_eq_true_eq,Bool.not_eq_true',Bool.and_eq_false_iff,decide_eq_false_iff_not]
 omega
theorem mayOp_parts {o:Fu.Op} (h:mayOp o=true):(hasOf o).1.all (fun p=>!badOp p.1 p.2)=true∧o=(hasOf o).2∧o.D.length≤4∧anyOdd o.D=false:=by
 unfold mayOp endOpB at h
 simp only [Bool.and_eq_true,decide_eq_true_eq,Bool.not_eq_true'] at h
 exact ⟨h.2.1,h.2.2.1,by omega,h.2.2.2.2⟩
theorem mayOp_sub {o:Fu.Op} (h:mayOp o=true) (hk:o.Kind=3):(0≤o.Within∧o.Within≤255)∧(0≤o.V∧o.V≤65535):=by
 have h1:=(mayOp_parts h).1
 simp only [hasOf,hk,if_true,if_neg (show ¬ (3:Int)=0 by decide),if_neg (show ¬ (3:Int)=1 by decide),if_neg (show ¬ (3:Int)=2 by decide),List.all_cons,List.all_nil,badOp1,badOp2,Bool.not_not,Bool.and_true,Bool.and_eq_true,decide_eq_true_eq] at h1
 exact ⟨h1.1,h1.2.2⟩
theorem move_now {s:Fu.Serv} (h:mayE s=true):(moveV s).1.W.Now=s.W.Now:=by
 unfold moveV
 cases (tryV s).2 with
 | true=>exact (try_keep h).2.2.2.1
 | false=>rfl
theorem move_tick {s:Fu.Serv} {d:List Int} (h:mayE s=true) (hn:s.W.Now≠274877906944):tickY ((moveV s).1.W,d):=by
 have hm:=move_may h
 refine ⟨(mayE_small hm).1,?_⟩
 show (!mayW (moveV s).1.W || (moveV s).1.W.Now == 274877906944)=false
 rw [safeE_may hm,move_now h,show (s.W.Now == 274877906944)=false from beq_eq_false_iff_ne.2 hn]
 rfl
theorem kind_eq {o:Fu.Op} {k:Int} (h:o.Kind=k):{ o with Kind:=k }=o:=by cases o; cases h; rfl
def okDo (x:Fu.Serv × Fu.Op):Prop:=smallS x.1∧(x.2.D.length:Int)≤17592186044415
def conDoN:Con:=flatCon (d2 dServ dOp) (fun x=>okDo x∧x.2.Kind≠3) fun x=>encD (doV x.1 x.2)
def conDo3:Con:=flatCon (d2 dServ dOp) (fun x=>okDo x∧x.2.Kind=3) fun x=>encD (doV x.1 x.2)
def conDo:Con:=flatCon (d2 dServ dOp) okDo fun x=>encD (doV x.1 x.2)
theorem args_k {s:Fu.Serv} {o:Fu.Op} {k:Int} (h:o.Kind=k):AsArgs ((d2 dServ dOp).enc (s,o)) [.agg (encS s),opK k o]:=.cons (.refl _) (.cons (opK_arg h) .nil)
theorem doK_eq {s:Fu.Serv} {o:Fu.Op} {k:Int} {x:Fu.Serv × (Int × Int) × Trc} (h:o.Kind=k) (e:(bif k == 0 then doJ s o else bif k == 1 then doR s o else bif k == 2 then doL s o else bif k == 3 then doA s o else doT s o)=x):doK s o=x:=by
 unfold doK
 rw [h]
 exact e
theorem doN_rez (x:Fu.Serv × Fu.Op) (hx:okDo x∧x.2.Kind≠3):∃ args t,AsArgs ((d2 dServ dOp).enc x) args∧callC xOwn 80 23 args=t∧Rez t (encD (doV x.1 x.2),[]):=by
 obtain ⟨s,o⟩:=x
 obtain ⟨⟨h1,h2⟩,h3⟩:=hx
 have h1:smallS s:=h1
 have h2:(o.D.length:Int)≤17592186044415:=h2
 have h3:o.Kind≠3:=h3
 by_cases k0:o.Kind=0
 ·refine ⟨_,_,args_k k0,fDo0 s o,?_⟩
  rw [kind_eq k0]
  refine doTree_rez (smA_rez h1) h1 h2 fun hw=>?_
  rw [doK_eq (x:=doJ s o) k0 rfl]
  unfold doJ
  refine .asrt h1 ?_
  cases hb:(joinR s o.S).2 != 0 with
  | true=>exact .itet rfl (.asrt h1 (.ret (err_arg (.refl _)) rfl))
  | false=>exact .itee rfl (.ret (ok_arg (.refl _)) rfl)
 by_cases k1:o.Kind=1
 ·refine ⟨_,_,args_k k1,fDo1 s o,?_⟩
  rw [kind_eq k1]
  refine doTree_rez (smA_rez h1) h1 h2 fun hw=>?_
  rw [doK_eq (x:=doR s o) k1 rfl]
  unfold doR
  refine .asrt h1 ?_
  cases hb:(rateR s o.ID o.T o.Max).2 != 0 with
  | true=>exact .itet rfl (.asrt h1 (.ret (err_arg (.refl _)) rfl))
  | false=>exact .itee rfl (.ret (ok_arg (.lit rfl)) rfl)
 by_cases k2:o.Kind=2
 ·refine ⟨_,_,args_k k2,fDo2 s o,?_⟩
  rw [kind_eq k2]
  refine doTree_rez (smA_rez h1) h1 h2 fun hw=>?_
  rw [doK_eq (x:=doL s o) k2 rfl]
  unfold doL
  refine .asrt h1 ?_
  cases hb:(leaveR s o.ID).2 != 0 with
  | true=>exact .itet rfl (.asrt h1 (.ret (err_arg (.refl _)) rfl))
  | false=>exact .itee rfl (.ret (ok_arg (.lit rfl)) rfl)
 by_cases k4:o.Kind=4
 ·refine ⟨_,_,args_k k4,fDo4 s o,?_⟩
  rw [kind_eq k4]
  refine doTree_rez (smA_rez h1) h1 h2 fun hw=>?_
  rw [doK_eq (x:=doT s o) k4 rfl]
  obtain ⟨w1,w2,w3⟩:=whyV_zero hw
  exact .asrt h1 (.asrt (move_tick w1 w3) (.ret (.tup (.cons (.refl _) (.cons (.agg (.cons (.lit rfl) (.cons (.refl _) .nil))) (.cons (.refl _) .nil)))) rfl))
 ·refine ⟨_,_,AsArgs.refl _,fDoX s o,?_⟩
  refine doTree_rez (smA_rez h1) h1 h2 fun hw=>?_
  have:=mayOp_kind (whyV_zero hw).2.1
  omega
theorem conDoN_valid:ValidCon c215.P 23 conDoN:=xOwn_P ▸ (resCon_validA xOwn_good 80 (by kernel_rfl) doN_rez:ValidCon xOwn.P 23 conDoN)
theorem do3_rez (x:Fu.Serv × Fu.Op) (hx:okDo x∧x.2.Kind=3):∃ args t,AsArgs ((d2 dServ dOp).enc x) args∧frozen (callC c215 80 23) args=t∧Rez t (encD (doV x.1 x.2),[]):=by
 obtain ⟨s,o⟩:=x
 obtain ⟨⟨h1,h2⟩,h3⟩:=hx
 have h1:smallS s:=h1
 have h2:(o.D.length:Int)≤17592186044415:=h2
 have h3:o.Kind=3:=h3
 refine ⟨_,_,args_k h3,fDo3 s o,?_⟩
 rw [kind_eq h3]
 refine doTree_rez (fun _ _ h=>ownOk_rez h1 h) h1 h2 fun hw=>?_
 rw [doK_eq (x:=doA s o) h3 rfl]
 obtain ⟨w1,w2,w3⟩:=whyV_zero hw
 have hm:=(mayW_iff.1 (safeE_may w1))
 have hA:=(mayE_small w1).1.2
 have hap:=(mayE_safe w1).2.2
 have hwi:=(mayOp_sub w2 h3).1
 unfold doA
 cases hb:argA o with
 | true=>exact .itet rfl (ownOk_rez h1 (.ret (err_arg (.lit rfl)) rfl))
 | false =>
  refine .itee rfl ?_
  cases hf:fullA s with
  | true=>exact .itet rfl (ownOk_rez h1 (.ret (err_arg (.lit rfl)) rfl))
  | false =>
   have hl:(s.W.A.length:Int)≤4:=by
    have:=hm.2.2.2.1
    unfold mayA at this
    simp only [Bool.and_eq_true,decide_eq_true_eq] at this
    omega
   refine .itee rfl (.asrt ?_ (.ret ?_ rfl))
   ·rw [List.length_append]
    show (s.W.A.length+1)*40≤140737488355328
    omega
   ·rw [wrap_fits (n:=s.W.Now+o.Within) (by omega) (by omega),wrap_fits (n:=s.NextAp+1) (by omega) (by omega)]
    exact ok_arg (.refl _)
theorem conDo3_valid:ValidCon c215.P 23 conDo3:=frozenCon_validA c215_good 80 (by kernel_rfl) do3_rez
theorem conDo_valid:ValidCon c215.P 23 conDo:=.either conDoN_valid conDo3_valid fun args r h=>by
 unfold conDo flatCon resCon at h
 unfold conDoN conDo3 flatCon resCon
 split at h
 ·rename_i a ha
  obtain ⟨h1,h2⟩:=h
  by_cases hk:a.2.Kind=3
  ·exact .inr ⟨⟨h1,hk⟩,h2⟩
  ·exact .inl ⟨⟨h1,hk⟩,h2⟩
 ·exact h.elim
noncomputable def c216:Cfg:=c215.addQuiet 23 conDo
theorem c216_good:GoodCfg c216:=c215_good.addQuiet conDo_valid flatCon_quiet
end Go.Fx
