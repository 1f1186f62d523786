import Derived.Test.YtdmlnbfejgdhaaaGreatO4
import Derived.Test.YtdmlnbfejgdhaaaGreatQA
namespace Go.Fx
open Go Go.Proofs
def good2Q (args:List AV):Prop:=∃ (s:Fu.Serv) (o:Fu.Op),args = [.agg (encS s),.agg (encOp o)]∧smallS s∧(o.D.length:Int)≤17592186044415
def lastA (s:Fu.Serv):Int:=IntKind.i64.wrap ((s.W.A.length:Int) - 1)
def sbmT (s:Fu.Serv) (o:Fu.Op):Tree (AV × List Blk):=.asrt (smallS s) (.ite (nearE s) (.asrt (smallS s) (.asrt ((!mayE s) = false→decide (s.W.Now > 137438953472) = false→(o.D.length:Int)≤17592186044415)
  (.ite (!mayE s || (decide (s.W.Now > 137438953472) || (!mayOp o || o.Kind != 3))) (.ret (.blit true,[])) (.asrt (okDo (s,o))
    (.ite (decide (o.Within < 1) || (decide (o.C < 1) || (decide (o.C > 40) || (decide (o.V < 1) || decide (o.V > 1000))))) (.ret (.bool ((doV s o).2.1.1 == 1 && (doV s o).2.1.2 == 0),[]))
    (.ite ((s.W.A.length:Int) == 4 || s.NextAp == 65536) (.ret (.bool ((doV s o).2.1.1 == 3 && (doV s o).2.1.2 == 0),[]))
    (.ite (!((doV s o).2.1.1 == 0 && (doV s o).2.1.2 == s.NextAp) || (lastA (doV s o).1 != (s.W.A.length:Int) || (doV s o).1.NextAp != IntKind.i64.wrap (s.NextAp + 1))) (.ret (.blit false,[]))
    (.asrt (0≤lastA (doV s o).1∧lastA (doV s o).1 < (doV s o).1.W.A.length) (.ret (.bool ((rd .ape (doV s o).1.W.A (lastA (doV s o).1)).ID == s.NextAp && ((rd .ape (doV s o).1.W.A (lastA (doV s o).1)).Due == IntKind.i64.wrap (s.W.Now + o.Within) && ((rd .ape (doV s o).1.W.A (lastA (doV s o).1)).C == o.C && ((rd .ape (doV s o).1.W.A (lastA (doV s o).1)).V == o.V && (rd .ape (doV s o).1.W.A (lastA (doV s o).1)).Ran == 0)))),[])))))))))) (.ret (.blit true,[])))
theorem fSbm (s:Fu.Serv) (o:Fu.Op):callC c240 80 9 [.agg (encS s),.agg (encOp o)] = sbmT s o:=by kernel_rfl
theorem sbmT_tru {s:Fu.Serv} {o:Fu.Op} (h:smallS s) (hd:(o.D.length:Int)≤17592186044415):Tru (sbmT s o):=by
  refine .asrt h (.ite (fun _=>.asrt h (.asrt (fun _ _=>hd) (.ite (fun _=>.yes) fun hb=>?_))) fun _=>.yes)
  simp only [Bool.or_eq_false_iff,Bool.not_eq_false',decide_eq_false_iff_not,bne_eq_false_iff_eq] at hb
  obtain ⟨hm,hn,ho,hk⟩:=hb
  have hr:=(mayW_iff.1 (safeE_may hm)).1
  have hw:=why_free hm ho (show s.W.Now≠274877906944 by omega)
  have e:doV s o = doA s o:=by rw [do_free hw,doK_eq (x:=doA s o) hk rfl]
  obtain ⟨⟨w1,w2⟩,_⟩:=mayOp_sub ho hk
  have ea:(decide (o.Within < 1) || (decide (o.C < 1) || (decide (o.C > 40) || (decide (o.V < 1) || decide (o.V > 1000))))) = argA o:=by
    unfold argA
    congr 1
    rw [Bool.eq_iff_iff,decide_eq_true_eq,beq_iff_eq]
    omega
  rw [e]
  unfold doA
  refine .asrt ⟨h,hd⟩ (.ite (fun hb=>?_) fun hb=>.ite (fun hf=>?_) fun hf=>?_)
  · rw [ea] at hb
    rw [hb]
    exact .of rfl
  · rw [ea] at hb
    rw [hb,show fullA s = true from hf]
    exact .of rfl
  · rw [ea] at hb
    rw [hb,show fullA s = false from hf]
    have hA:=(mayA_iff.1 (mayW_iff.1 (safeE_may hm)).2.2.2.1).2.2.1
    have hap:=(mayE_safe hm).2.2
    have hl:lastA (subS s o) = s.W.A.length:=by
      unfold lastA
      show IntKind.i64.wrap (((s.W.A ++ [_]).length:Int) - 1) = _
      rw [List.length_append,List.length_singleton,wrap_fits (by omega) (by omega)]
      omega
    simp only [cond_false,hl]
    refine .ite (fun hx=>?_) fun _=>.asrt ?_ (.of ?_)
    · rw [wrap_fits (n:=s.NextAp + 1) (by omega) (by omega)] at hx
      simp [subS] at hx
    · show 0≤(s.W.A.length:Int)∧(s.W.A.length:Int) < ((s.W.A ++ [_]).length:Int)
      rw [List.length_append,List.length_singleton]
      omega
    · rw [show (subS s o).W.A = s.W.A ++ [⟨s.NextAp,s.W.Now + o.Within,o.C,o.V,0⟩] from rfl,rd_last (r:=.ape),wrap_fits (n:=s.W.Now + o.Within) (by omega) (by omega)]
      simp
theorem conSbm_valid:ValidCon c240.P 9 (lawCon good2Q):=lawCon_of (n:=80) c240_good (by kernel_rfl) fun args ⟨s,o,h1,h2,h3⟩=>by
  subst h1
  exact ⟨_,fSbm s o,sbmT_tru h2 h3⟩
end Go.Fx
