import Derived.Test.YtdmlnbfejgdhaaaGreatO4
import Derived.Test.YtdmlnbfejgdhaaaGreatQA
namespace Go.Fx
open Go Go.Proofs
def good2T (args:List AV):Prop:=∃ (s:Fu.Serv) (d:List Int),args = [.agg (encS s),.view (.int .i64) d]∧smallS s
def opT (d:List Int):Fu.Op:=⟨4,0,⟨0,0,0,0,0,0⟩,0,0,0,0,0,d⟩
def etkT (s:Fu.Serv) (d:List Int):Tree (AV × List Blk):=.asrt (smallS s) (.ite (nearE s) (.asrt (decide ((d.length:Int) > 100) = false→smallS s) (.asrt (decide ((d.length:Int) > 100) = false→(!mayE s) = false→(d.length:Int)≤17592186044415)
  (.ite (decide ((d.length:Int) > 100) || (!mayE s || (!mayOp (opT d) || decide (s.W.Now > 137438953472)))) (.ret (.blit true,[])) (.asrt (okDo (s,opT d)) (.asrt (smallS s) (.asrt (tickY ((moveV s).1.W,d)) (.asrt (smallS (doV s (opT d)).1)
    (.asrt (decide ((doV s (opT d)).1 = { (moveV s).1 with W:=tickW (moveV s).1.W d }) = true→shortT (doV s (opT d)).2.2)
      (.ret (.bool (decide ((doV s (opT d)).1 = { (moveV s).1 with W:=tickW (moveV s).1.W d }) && (sameT19 (doV s (opT d)).2.2 (trTick (moveV s).1.W d) && ((doV s (opT d)).2.1.1 == 0 && (doV s (opT d)).2.1.2 == (tickW (moveV s).1.W d).Now))),[])))))))))) (.ret (.blit true,[])))
theorem fEtk (s:Fu.Serv) (d:List Int):callC c240 80 10 [.agg (encS s),.view (.int .i64) d] = etkT s d:=by kernel_rfl
theorem etkT_tru {s:Fu.Serv} {d:List Int} (h:smallS s):Tru (etkT s d):=by
  refine .asrt h (.ite (fun _=>.asrt (fun _=>h) (.asrt (fun hd _=>?_) (.ite (fun _=>.yes) fun hb=>?_))) fun _=>.yes)
  · have:=of_decide_eq_false hd
    omega
  simp only [Bool.or_eq_false_iff,Bool.not_eq_false',decide_eq_false_iff_not] at hb
  obtain ⟨hl,hm,ho,hn⟩:=hb
  have hn':s.W.Now≠274877906944:=by omega
  have hw:=why_free hm ho hn'
  obtain ⟨k1,k2⟩:=do_small (opT d) hm
  have e:doV s (opT d) = doT s (opT d):=by rw [do_free hw,doK_eq (x:=doT s (opT d)) (show (opT d).Kind = 4 from rfl) rfl]
  refine .asrt ⟨h,by show (d.length:Int)≤_; omega⟩ (.asrt h (.asrt (move_tick hm hn') (.asrt k1 (.asrt (fun _=>k2) (.of ?_)))))
  rw [e]
  have e2:(doT s (opT d)).2.2 = trTick (moveV s).1.W d:=rfl
  have e1:(doT s (opT d)).1 = { (moveV s).1 with W:=tickW (moveV s).1.W d }:=rfl
  have e3:(doT s (opT d)).2.1 = (0,(tickW (moveV s).1.W d).Now):=rfl
  rw [e1,e2,e3,decide_eq_true rfl,sameT19_self]
  simp
theorem conEtk_valid:ValidCon c240.P 10 (lawCon good2T):=lawCon_of (n:=80) c240_good (by kernel_rfl) fun args ⟨s,d,h1,h2⟩=>by
  subst h1
  exact ⟨_,fEtk s d,etkT_tru h2⟩
end Go.Fx
