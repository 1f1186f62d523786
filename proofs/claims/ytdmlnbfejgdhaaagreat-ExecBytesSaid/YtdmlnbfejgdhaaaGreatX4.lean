import Derived.Test.YtdmlnbfejgdhaaaGreatO4
import Derived.Test.YtdmlnbfejgdhaaaGreatQA
namespace Go.Fx
open Go Go.Proofs
def good2B (args:List AV):Prop:=∃ (s:Fu.Serv) (b:List Int),args = [.agg (encS s),.view (.int .u8) b]∧smallS s
def exbT (s:Fu.Serv) (b:List Int):Tree (AV × List Blk):=.asrt (smallS s) (.ite (nearE s) (.asrt (decide ((b.length:Int) > 100) = false→smallS s) (.ite (decide ((b.length:Int) > 100) || !mayE s) (.ret (.blit true,[])) (.asrt ((b.length:Int) < 17592186044416) (.asrt (smallS s∧(b.length:Int)≤17592186044415)
  (.ite (!(getV b).2) (.asrt (((stepV s b).2.1.1 == 7 && (stepV s b).2.1.2 == 0) = true → smallS (stepV s b).1) (.asrt (((stepV s b).2.1.1 == 7 && (stepV s b).2.1.2 == 0) = true → decide ((stepV s b).1 = s) = true → shortT (stepV s b).2.2)
      (.ret (.bool ((stepV s b).2.1.1 == 7 && (stepV s b).2.1.2 == 0 && (decide ((stepV s b).1 = s) && sameT19 (stepV s b).2.2 noTr)),[]))))
    (.asrt (okDo (s,(getV b).1)) (.asrt (smallS (stepV s b).1) (.asrt (decide ((stepV s b).1 = (doV s (getV b).1).1) = true→((stepV s b).2.1.1 == (doV s (getV b).1).2.1.1 && (stepV s b).2.1.2 == (doV s (getV b).1).2.1.2) = true→shortT (stepV s b).2.2)
      (.ret (.bool (decide ((stepV s b).1 = (doV s (getV b).1).1) && ((stepV s b).2.1.1 == (doV s (getV b).1).2.1.1 && (stepV s b).2.1.2 == (doV s (getV b).1).2.1.2 && sameT19 (stepV s b).2.2 (doV s (getV b).1).2.2)),[])))))))))) (.ret (.blit true,[])))
theorem fExb (s:Fu.Serv) (b:List Int):callC c240 80 7 [.agg (encS s),.view (.int .u8) b] = exbT s b:=by kernel_rfl
theorem exbT_tru {s:Fu.Serv} {b:List Int} (h:smallS s):Tru (exbT s b):=by
  refine .asrt h (.ite (fun _=>.asrt (fun _=>h) (.ite (fun _=>.yes) fun hb=>?_)) fun _=>.yes)
  simp only [Bool.or_eq_false_iff,Bool.not_eq_false',decide_eq_false_iff_not] at hb
  obtain ⟨hl,hm⟩:=hb
  refine .asrt (by omega) (.asrt ⟨h,by omega⟩ (.ite (fun hg=>?_) fun hg=>?_))
  · rw [step_no hm (by simpa using hg)]
    refine .asrt (fun _=>h) (.asrt (fun _ _=>noTr_short) (.of ?_))
    show (true && true && (decide (s = s) && sameT19 noTr noTr)) = true
    rw [decide_eq_true rfl,sameT19_self]
    rfl
  · rw [step_yes (by simpa using hg)]
    obtain ⟨k1,k2⟩:=do_small (getV b).1 hm
    have:=getV_len b
    refine .asrt ⟨h,by show ((getV b).1.D.length:Int)≤_; omega⟩ (.asrt k1 (.asrt (fun _ _=>k2) (.of ?_)))
    rw [decide_eq_true rfl,sameT19_self,beq_self_eq_true,beq_self_eq_true]
    rfl
theorem conExb_valid:ValidCon c240.P 7 (lawCon good2B):=lawCon_of (n:=80) c240_good (by kernel_rfl) fun args ⟨s,b,h1,h2⟩=>by
  subst h1
  exact ⟨_,fExb s b,exbT_tru h2⟩
end Go.Fx
