import Derived.Test.YtdmlnbfejgdhaaaGreatE2
namespace Go.Fx
open Go Go.Proofs
theorem rdV_len {N:Int} {b:List Int} {s:Int} {v:Int→List Int→Fu.Op × Bool} (h0:0≤N) (h:∀ n r,((v n r).1.D.length:Int)≤N):((rdV b s v).1.D.length:Int)≤N:=by
 unfold rdV
 cases decide ((b.length:Int) < s) with
 | true=>exact h0
 | false=>exact h _ _
theorem finV_len {N:Int} {o:Fu.Op} {b:List Int} (h0:0≤N) (h:(o.D.length:Int)≤N):((finV o b).1.D.length:Int)≤N:=by
 unfold finV
 cases decide ((b.length:Int) > 0) || !mayOp o with
 | true=>exact h0
 | false=>exact h
def smD (N:Int) (x:Fu.Op × Bool):Prop:=(x.1.D.length:Int)≤N
theorem smD.rd {N:Int} {b:List Int} {s:Int} {v:Int→List Int→Fu.Op × Bool} (h0:0≤N) (h:∀ n r,smD N (v n r)):smD N (rdV b s v):=rdV_len h0 h
theorem smD.fin {N:Int} {o:Fu.Op} {b:List Int} (h0:0≤N) (h:o.D=[]):smD N (finV o b):=finV_len h0 (by rw [h]; exact h0)
theorem smD.no {N:Int} (h0:0≤N):smD N noO:=h0
theorem get0V_len {N:Int} (z:0≤N) (b:List Int):smD N (get0V b):=by
 unfold get0V
 exact .rd z fun _ _=>.rd z fun _ _=>.rd z fun _ _=>.rd z fun _ _=>.rd z fun _ _=>.rd z fun _ _=>.fin z rfl
theorem get1V_len {N:Int} (z:0≤N) (b:List Int):smD N (get1V b):=by
 unfold get1V
 exact .rd z fun _ _=>.rd z fun _ _=>.rd z fun _ _=>.fin z rfl
theorem get2V_len {N:Int} (z:0≤N) (b:List Int):smD N (get2V b):=by
 unfold get2V
 exact .rd z fun _ _=>.fin z rfl
theorem get3V_len {N:Int} (z:0≤N) (b:List Int):smD N (get3V b):=by
 unfold get3V
 exact .rd z fun _ _=>.rd z fun _ _=>.rd z fun _ _=>.fin z rfl
theorem get4V_len {N:Int} (z:0≤N) (b c:List Int) (h:(c.length:Int)≤N):smD N (get4V b c):=by
 unfold get4V
 cases bad4 c with
 | true=>exact .no z
 | false =>
  cases !mayOp (opD (dsOf b c)) with
  | true=>exact .no z
  | false =>
   show ((dsOf b c).1.length:Int)≤_
   unfold dsOf
   rw [fold11_len,List.length_nil,List.length_drop]
   have h2:=dpB_len c (s:=1) (by omega)
   omega
theorem getV_len (b:List Int):((getV b).1.D.length:Int)≤b.length:=by
 have z:(0:Int)≤b.length:=by omega
 show smD b.length (getV b)
 unfold getV
 cases (b.length:Int) == 0 with
 | true=>exact .no z
 | false =>
 cases kindOf b == 0 with
 | true=>exact get0V_len z b
 | false =>
 cases kindOf b == 1 with
 | true=>exact get1V_len z b
 | false =>
 cases kindOf b == 2 with
 | true=>exact get2V_len z b
 | false =>
 cases kindOf b == 3 with
 | true=>exact get3V_len z b
 | false =>
 cases kindOf b == 4 with
 | false=>exact .fin z rfl
 | true=>exact get4V_len z b _ (dpB_len b (by omega))
def stepV (s:Fu.Serv) (b:List Int):Fu.Serv × (Int × Int) × Trc:=bif whyV s (getV b).2 != 0 then errD (whyV s (getV b).2) s else doV s (getV b).1
theorem fStepE (s:Fu.Serv) (b:List Int):frozen (callC c234 80 26) [.agg (encS s),.view (.int .u8) b]=.asrt ((b.length:Int) < 17592186044416) (.asrt (smallS s) (.ite (whyV s (getV b).2 != 0) (ownOk s (.ret (errAV (.int .i64 (whyV s (getV b).2)) s,[]))) (.asrt (okDo (s,(getV b).1)) (.ret (encD (doV s (getV b).1),[]))))):=by kernel_rfl
def conStepE:Con:=flatCon (d2 dServ (dView (.int .u8))) (fun x=>smallS x.1∧(x.2.length:Int)≤17592186044415) fun x=>encD (stepV x.1 x.2)
theorem conStepE_valid:ValidCon c234.P 26 conStepE:=frozenCon_valid c234_good 80 (by kernel_rfl) fun x h=>⟨_,fStepE x.1 x.2,by
 obtain ⟨s,b⟩:=x
 obtain ⟨h1,h2⟩:=h
 have h1:smallS s:=h1
 have h2:(b.length:Int)≤17592186044415:=h2
 have h3:=getV_len b
 refine .asrt (by show (b.length:Int) < _; omega) (.asrt h1 ?_)
 unfold stepV
 cases hw:whyV s (getV b).2 != 0 with
 | true=>exact .itet rfl (ownOk_rez h1 (.ret (err_arg (.refl _)) rfl))
 | false=>exact .itee rfl (.asrt ⟨h1,by show ((getV b).1.D.length:Int)≤_; omega⟩ (.ret (.refl _) rfl))⟩
noncomputable def c235:Cfg:=c234.addQuiet 26 conStepE
theorem c235_good:GoodCfg c235:=c234_good.addQuiet conStepE_valid flatCon_quiet
def newE:Fu.Serv:=⟨⟨0,[],[],-1⟩,⟨false,0,0,-1,[]⟩,0,0⟩
theorem fNewE:callC c235 60 25 []=.ret (.agg [.lit .i64 0,.nils,.nils,.lit .i64 (-1),.blit false,.lit .i64 0,.lit .i64 0,.lit .i64 (-1),.nils,.lit .i64 0,.lit .i64 0],[]):=by kernel_rfl
def conNewE:Con:=plainCon Ds.none fun _=>.agg (encS newE)
theorem conNewE_valid:ValidCon c235.P 25 conNewE:=plainCon_valid c235_good 60 (by kernel_rfl) fun _=>⟨_,fNewE,.ret (.agg (.cons (.lit rfl) (.cons (.view rfl) (.cons (.view rfl) (.cons (.lit rfl) (.cons (.blit rfl) (.cons (.lit rfl) (.cons (.lit rfl) (.cons (.lit rfl) (.cons (.view rfl) (.cons (.lit rfl) (.cons (.lit rfl) .nil)))))))))))) rfl⟩
noncomputable def c236:Cfg:=c235.addQuiet 25 conNewE
theorem c236_good:GoodCfg c236:=c235_good.addQuiet conNewE_valid plainCon_quiet
def stillV (s:Fu.Serv):Int:=bif !mayE s then 0 else 274877906944-s.W.Now
theorem fStill (s:Fu.Serv):callC c236 60 36 [.agg (encS s)]=.asrt (smallS s) (.ite (!mayE s) (.ret (.lit .i64 0,[])) (.ret (.int .i64 (IntKind.i64.wrap (274877906944-s.W.Now)),[]))):=by kernel_rfl
def conStill:Con:=flatCon (d1 dServ) smallS fun s=>.int .i64 (stillV s)
theorem conStill_valid:ValidCon c236.P 36 conStill:=flatCon_valid c236_good 60 (by kernel_rfl) fun s h=>⟨_,fStill s,.asrt h (by
 unfold stillV
 cases hm:mayE s with
 | false=>exact .itet rfl (.ret (.lit rfl) rfl)
 | true =>
  have:=(mayW_iff.1 (safeE_may hm)).1
  rw [wrap_fits (n:=274877906944-s.W.Now) (by omega) (by omega)]
  exact .itee rfl (.ret (.refl _) rfl))⟩
noncomputable def c237:Cfg:=c236.addQuiet 36 conStill
theorem c237_good:GoodCfg c237:=c236_good.addQuiet conStill_valid flatCon_quiet
end Go.Fx
