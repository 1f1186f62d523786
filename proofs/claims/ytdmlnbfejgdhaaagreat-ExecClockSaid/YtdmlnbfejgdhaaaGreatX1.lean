import Derived.Test.YtdmlnbfejgdhaaaGreatO4
import Derived.Test.YtdmlnbfejgdhaaaGreatQA
namespace Go.Fx
open Go Go.Proofs
def good2O (args:List AV):Prop:=∃ (s:Fu.Serv) (o:Fu.Op),args = [.agg (encS s),.agg (encOp o)]∧smallS s
def clkT (s:Fu.Serv) (o:Fu.Op):Tree (AV × List Blk):=.asrt (smallS s) (.ite (nearE s) (.asrt (decide ((o.D.length:Int) > 100) = false→smallS s) (.asrt (decide ((o.D.length:Int) > 100) = false→(!mayE s) = false→(o.D.length:Int)≤17592186044415)
  (.ite (decide ((o.D.length:Int) > 100) || (!mayE s || !mayOp o)) (.ret (.blit true,[])) (.asrt (smallS s) (.asrt (okDo (s,o)) (.ite (stillV s == 0)
    (.asrt (((doV s o).2.1.1 == 8 && (doV s o).2.1.2 == 0) = true→smallS (doV s o).1) (.ret (.bool ((doV s o).2.1.1 == 8 && (doV s o).2.1.2 == 0 && decide ((doV s o).1 = s)),[])))
    (.ite (o.Kind == 4) (.ret (.bool ((doV s o).2.1.1 == 0 && (doV s o).2.1.2 == IntKind.i64.wrap (s.W.Now + 1) && (doV s o).1.W.Now == IntKind.i64.wrap (s.W.Now + 1)),[]))
      (.ret (.bool ((doV s o).1.W.Now == s.W.Now && ((doV s o).2.1.1 != 8 && (doV s o).2.1.1 != 7)),[]))))))))) (.ret (.blit true,[])))
theorem fClk (s:Fu.Serv) (o:Fu.Op):callC c240 80 8 [.agg (encS s),.agg (encOp o)] = clkT s o:=by kernel_rfl
theorem clkT_tru {s:Fu.Serv} {o:Fu.Op} (h:smallS s):Tru (clkT s o):=by
  refine .asrt h (.ite (fun _=>.asrt (fun _=>h) (.asrt (fun hd _=>?_) (.ite (fun _=>.yes) fun hb=>?_))) fun _=>.yes)
  · have:=of_decide_eq_false hd
    omega
  simp only [Bool.or_eq_false_iff,Bool.not_eq_false',decide_eq_false_iff_not] at hb
  obtain ⟨hl,hm,ho⟩:=hb
  have hr:=(mayW_iff.1 (safeE_may hm)).1
  have hst:stillV s = 274877906944 - s.W.Now:=by unfold stillV; rw [hm]; rfl
  refine .asrt h (.asrt ⟨h,by simp only; omega⟩ (.ite (fun hz=>?_) fun hz=>?_))
  · have hz:=eq_of_beq hz
    have hw:=why_end hm (show s.W.Now = 274877906944 by omega)
    rw [do_bar (e:=8) (by rw [ho]; exact hw) (by decide)]
    refine .asrt (fun _=>h) (.of ?_)
    show (true && true && decide (s = s)) = true
    rw [decide_eq_true rfl]
    rfl
  · have hz:=beq_eq_false_iff_ne.1 hz
    have hn:s.W.Now≠274877906944:=by omega
    have hw:=why_free hm ho hn
    refine .ite (fun hk=>?_) fun hk=>?_
    · have hk:=eq_of_beq hk
      have e:doV s o = doT s o:=by rw [do_free hw,doK_eq (x:=doT s o) hk rfl]
      have ht:=tick_now (safeE_may (move_may hm)) o.D
      rw [move_now hm] at ht
      rw [e,wrap_fits (n:=s.W.Now + 1) (by omega) (by omega)]
      refine .of ?_
      show ((0:Int) == 0 && (tickW (moveV s).1.W o.D).Now == s.W.Now + 1 && (tickW (moveV s).1.W o.D).Now == s.W.Now + 1) = true
      rw [ht]
      simp
    · have hk:=beq_eq_false_iff_ne.1 hk
      have hle:=do_le hw
      rcases do_now (o:=o) hm with e | ⟨k,_⟩
      · refine .of ?_
        rw [e,beq_self_eq_true,show ((doV s o).2.1.1 != 8) = true from bne_iff_ne.2 (by omega),show ((doV s o).2.1.1 != 7) = true from bne_iff_ne.2 (by omega)]
        rfl
      · exact absurd k hk
theorem conClk_valid:ValidCon c240.P 8 (lawCon good2O):=lawCon_of (n:=80) c240_good (by kernel_rfl) fun args ⟨s,o,h1,h2⟩=>by
  subst h1
  exact ⟨_,fClk s o,clkT_tru h2⟩
end Go.Fx
