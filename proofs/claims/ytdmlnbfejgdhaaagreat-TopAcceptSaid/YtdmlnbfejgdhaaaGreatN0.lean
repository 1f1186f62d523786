import Derived.Test.YtdmlnbfejgdhaaaGreatC8
import Derived.Test.YtdmlnbfejgdhaaaGreatD1
namespace Go.Fx
open Go Go.Proofs
def dTk:Ds (Fu.World × List Int):=d2 dWorld (dView (.int .i64))
def tickY (x:Fu.World × List Int):Prop:=smallW x.1∧(!mayW x.1 || x.1.Now == 274877906944)=false
theorem mayW_of {w:Fu.World} (hb:(!mayW w || w.Now == 274877906944)=false):mayW w=true∧w.Now≠274877906944:=by
 rw [Bool.or_eq_false_iff] at hb
 exact ⟨by simpa using hb.1,by simpa using hb.2⟩
def conTickY:Con:=resCon dTk tickY fun x=>tickR x.1 x.2
theorem conTickY_valid:ValidCon c132.P 38 conTickY:=con_ofG (C:=c132) (n:=100) (l:=lTick) c132_good lTick_weak (by kernel_rfl) fun args r hr=>by
 unfold conTickY resCon at hr
 split at hr
 ·rename_i a ha
  obtain ⟨⟨h1,hb⟩,h2⟩:=hr
  cases h2
  have hg:Gets (callW c132 lTick 100 38 (dTk.enc a)) ((tickR a.1 a.2).1,(tickR a.1 a.2).2):=callTick h1 hb (okTick_may h1 (mayW_of hb).1 a.2)
  exact ⟨dTk.enc a,(tickR a.1 a.2).1,dTk.ok _ _ ha,.refl _,hg⟩
 ·exact hr.elim
noncomputable def c133:Cfg:=c132.addCon 38 conTickY
theorem c133_good:GoodCfg c133:=c132_good.addCon conTickY_valid (by kernel_rfl)
end Go.Fx
