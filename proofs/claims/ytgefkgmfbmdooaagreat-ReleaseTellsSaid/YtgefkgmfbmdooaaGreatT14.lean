import Derived.Test.YtgefkgmfbmdooaaGreatB43
import Derived.Test.YtgefkgmfbmdooaaGreatC7
namespace Go.Fx
open Go Go.Proofs
theorem wfU_pos {n:Int} (h:(Lit.int .u64 n).wf = true):0≤n:=by
  unfold Lit.wf at h
  simp only [Bool.and_eq_true,decide_eq_true_eq] at h
  have h0:IntKind.u64.min = 0:=by decide +kernel
  rw [h0] at h
  exact h.1
theorem oRingB:Opens Tryz.prog 45 fun zs=>∃ r:Fu.Ring,zs = encRing r∧0≤r.B :=
  (Opens.struct Tryz.underlying45 (.cons oInt (by kernel_rfl) (.cons oU64 (by kernel_rfl) (.nil _))) (by kernel_rfl)).mono fun zs h=>by
    obtain ⟨_,_,rfl,⟨a,rfl,_⟩,_,_,rfl,⟨b,rfl,hb⟩,rfl⟩:=h
    exact ⟨⟨a,b⟩,rfl,wfU_pos hb⟩
theorem oTaskB:Opens Tryz.prog 47 fun zs=>∃ t:Fu.Task,zs = encTask t∧0≤t.H.B :=
  (Opens.struct Tryz.underlying47 (.cons oInt (by kernel_rfl) (.cons oSpec (by kernel_rfl) (.cons oInt (by kernel_rfl) (.cons oInt (by kernel_rfl) (.cons oInt (by kernel_rfl) (.cons oInt (by kernel_rfl) (.cons oJob (by kernel_rfl) (.cons oRingB (by kernel_rfl) (.cons oBool (by kernel_rfl) (.nil _)))))))))) (by kernel_rfl)).mono fun zs h=>by
    obtain ⟨_,_,rfl,⟨a,rfl,_⟩,_,_,rfl,⟨s,rfl⟩,_,_,rfl,⟨b,rfl,_⟩,_,_,rfl,⟨c,rfl,_⟩,_,_,rfl,⟨d,rfl,_⟩,_,_,rfl,⟨e,rfl,_⟩,_,_,rfl,⟨j,rfl⟩,_,_,rfl,⟨r,rfl,hr⟩,_,_,rfl,⟨k,rfl⟩,rfl⟩:=h
    exact ⟨⟨a,s,b,c,d,e,j,r,k⟩,rfl,hr⟩
theorem oTasksB:Opens Tryz.prog 22 fun zs=>∃ xs:List Fu.Task,zs = [.view .task xs]∧(xs.length:Int) * 176≤140737488355328∧finB xs :=
  (Opens.slice .task (ok:=fun t:Fu.Task=>0≤t.H.B) Tryz.underlying22 oTaskB (fun zs ⟨n,h,h'⟩=>⟨n,h,h'⟩) (by kernel_rfl) (by decide)).mono fun zs ⟨xs,h1,h2,h3⟩=>⟨xs,h1,by
    have e:Tryz.prog.bytesOf 47 = 176:=by kernel_rfl
    rw [e] at h2
    unfold reachBytes at h2
    omega,h3⟩
theorem oWorldB:Opens Tryz.prog 25 fun zs=>∃ w:Fu.World,zs = encW w∧smallW w∧finB w.T :=
  (Opens.struct Tryz.underlying25 (.cons oInt (by kernel_rfl) (.cons oTasksB (by kernel_rfl) (.cons oApes (by kernel_rfl) (.cons oInt (by kernel_rfl) (.nil _))))) (by kernel_rfl)).mono fun zs h=>by
    obtain ⟨_,_,rfl,⟨a,rfl,_⟩,_,_,rfl,⟨T,rfl,hT,hB⟩,_,_,rfl,⟨A,rfl,hA⟩,_,_,rfl,⟨c,rfl,_⟩,rfl⟩:=h
    exact ⟨⟨a,T,A,c⟩,rfl,⟨hT,hA⟩,hB⟩
def bW (w:Fu.World) (d:List Int):Fu.World:=⟨w.Now,(beginW w d).1.T,w.A,w.Cur⟩
def one17 (w:Fu.World) (d:List Int):Bool:=decide (bW w d = bW w d) && (decide ((beginW w d).2 = (beginW w d).2) && (decide (endW w = endW w) && decide (missedW w = missedW w)))
def two17 (w v:Fu.World):Bool:=decide (w = v) == decide (w = v) && decide (w = w)
def tellsT (w v:Fu.World) (d:List Int):Tree (AV × List Blk) :=
  .asrt (smallW w) (.ite (!(nearW w && (decide ((v.T.length:Int)≤10) && decide ((v.A.length:Int)≤10))) || decide ((d.length:Int) > 100)) (.ret (.blit true,[])) (.asrt (smallW w) (.asrt (smallW w∧finB w.T) (.asrt (smallW w) (.asrt (smallW w∧finB w.T)
    (.asrt (smallW (bW w d)) (.asrt (decide (bW w d = bW w d) = true→((beginW w d).2.length:Int) < 17592186044416) (.asrt (decide (bW w d = bW w d) = true→decide ((beginW w d).2 = (beginW w d).2) = true→smallW (endW w))
    (.asrt (decide (bW w d = bW w d) = true→decide ((beginW w d).2 = (beginW w d).2) = true→decide (endW w = endW w) = true→((missedW w).length:Int) < 17592186044416) (.asrt (smallW w) (.asrt (smallW w) (.asrt ((decide (w = v) == decide (w = v)) = true→smallW w)
    (.asrt (one17 w d = true→two17 w v = true→smallW w) (.asrt (one17 w d = true→two17 w v = true→smallW w) (.asrt (one17 w d = true→two17 w v = true→w.T.map liveK = w.T.map liveK∧smallL (w.T.map liveK))
    (.asrt (one17 w d = true→two17 w v = true→true = true→smallW w) (.asrt (one17 w d = true→two17 w v = true→true = true→smallW w∧finB w.T) (.asrt (one17 w d = true→two17 w v = true→true = true→(mayW w == mayW w) = true→smallW w)
    (.asrt (one17 w d = true→two17 w v = true→true = true→(mayW w == mayW w) = true→smallW w∧finB w.T) (.ret (.bool (one17 w d && (two17 w v && (true && (mayW w == mayW w && safeW w == safeW w)))),[])))))))))))))))))))))
theorem fTells (w v:Fu.World) (d:List Int):callC c161 90 3 [.agg (encW w),.agg (encW v),.view (.int .i64) d] = tellsT w v d:=by kernel_rfl
theorem tellsT_tru {w v:Fu.World} {d:List Int} (h:smallW w) (hf:finB w.T):Tru (tellsT w v d):=by
  have h':=h
  obtain ⟨h1,h2⟩:=h'
  have hl:(endW w).T.length = w.T.length:=by unfold endW; simp
  have he:smallW (endW w):=⟨by rw [hl]; exact h1,h2⟩
  have hm:(missedW w).length≤w.T.length:=by
    unfold missedW
    rw [List.length_map]
    exact List.length_filter_le _ _
  have hbl:(beginW w d).1.T.length = w.T.length∧(beginW w d).2.length≤w.T.length:=by
    unfold beginW
    cases mayW w with
    | true =>
      refine ⟨begTs_len w.Now w.T d,?_⟩
      have key:∀ (l:List Fu.Task) (d:List Int),(begTs w.Now d l).2.length≤l.length:=by
        intro l
        induction l with
        | nil=>intro d; exact Nat.le_refl _
        | cons t l ih =>
          intro d
          unfold begTs
          cases begOK t w.Now (lastD t d) with
          | true=>simp only [cond_true,List.length_cons]; have:=ih d.tail; omega
          | false=>simp only [cond_false,List.length_cons]; have:=ih d; omega
      exact key _ _
    | false=>exact ⟨rfl,Nat.zero_le _⟩
  have hb:smallW (bW w d):=⟨by show ((beginW w d).1.T.length:Int) * 176≤_; rw [hbl.1]; exact h1,h2⟩
  have hs:smallL (w.T.map liveK):=by unfold smallL; rw [List.length_map]; omega
  refine .asrt h (.ite (fun _=>.yes) fun _=>.asrt h (.asrt ⟨h,hf⟩ (.asrt h (.asrt ⟨h,hf⟩ (.asrt hb (.asrt (fun _=>by omega) (.asrt (fun _ _=>he) (.asrt (fun _ _ _=>by omega) (.asrt h (.asrt h (.asrt (fun _=>h) (.asrt (fun _ _=>h) (.asrt (fun _ _=>h) (.asrt (fun _ _=>⟨rfl,hs⟩)
    (.asrt (fun _ _ _=>h) (.asrt (fun _ _ _=>⟨h,hf⟩) (.asrt (fun _ _ _ _=>h) (.asrt (fun _ _ _ _=>⟨h,hf⟩) (.of ?_)))))))))))))))))))
  unfold one17 two17
  simp
def good17 (args:List AV):Prop:=∃ (w v:Fu.World) (d:List Int),args = [.agg (encW w),.agg (encW v),.view (.int .i64) d]∧smallW w∧finB w.T
theorem conTells_valid:ValidCon c161.P 3 (lawCon good17):=lawCon_of (n:=90) c161_good (by kernel_rfl) fun args ⟨w,v,d,h1,h2,h3⟩=>by
  subst h1
  exact ⟨_,fTells w v d,tellsT_tru h2 h3⟩
end Go.Fx
