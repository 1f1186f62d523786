import Derived.Test.YtdmlnbfejgdhaaaGreatE1
namespace Go.Fx
open Go Go.Proofs
def runT {α:Type}:Tree α→Option (Prop × α)
 | .ret a=>some (True,a)
 | .fail=>none
 | .asrt p t=>match runT t with | some (q,a)=>some (p∧q,a) | none=>none
 | .ite c t e=>match c with | true=>runT t | false=>runT e
theorem runT_out {α:Type}:∀ {t:Tree α} {q:Prop} {a:α},runT t=some (q,a)→q→t.Out a
 | .ret _,_,_,h,_=>by cases h; rfl
 | .asrt p t,q,a,h,hq=>by
  unfold runT at h
  cases ht:runT t with
  | none=>rw [ht] at h; cases h
  | some x =>
   obtain ⟨q',a'⟩:=x
   rw [ht] at h
   cases h
   exact ⟨hq.1,runT_out ht hq.2⟩
 | .ite true t e,q,a,h,hq=>(Tree.out_ite_true rfl).2 (runT_out (t:=t) h hq)
 | .ite false t e,q,a,h,hq=>(Tree.out_ite_false rfl).2 (runT_out (t:=e) h hq)
theorem conTrue_run {C:Cfg} (G:GoodCfg C) {g:Nat} (n:Nat) {q:Prop} {v:AV} (he:entersB C.P g=true) (h:runT (callC C n g [])=some (q,v,[])) (hq:q) (hv:AsArg v (.blit true)):ValidCon C.P g conTrue :=
 conTrue_valid G n he ⟨_,rfl,v,hv,runT_out h hq⟩
def s00:Fu.Serv:=⟨⟨0,[],[],-1⟩,⟨false,0,0,-1,[]⟩,0,0⟩
def opZ (k:Int):Fu.Op:=⟨k,0,⟨0,0,0,0,0,0⟩,0,0,0,0,0,[]⟩
theorem s00_small:smallS s00:=⟨⟨by decide,by decide⟩,by decide⟩
def q21:Prop:=((([]:List Int).length:Nat):Int)≤17592186044415∧smallS s00∧okDo (s00,opZ (IntKind.i64.wrap 4))∧((([]:List Int).length:Nat):Int)≤17592186044415∧smallS s00∧boundLT []∧boundLA []∧boundLM []∧smallS (doV s00 (opZ (IntKind.i64.wrap 4))).1∧smallS (doV s00 (opZ (IntKind.i64.wrap 4))).1∧True
theorem fAw21:runT (callC c216 80 29 [])=some (q21,.bool true,[]):=by kernel_rfl
theorem q21_holds:q21:=by
 have h:smallS (doV s00 (opZ (IntKind.i64.wrap 4))).1:=⟨⟨by decide +kernel,by decide +kernel⟩,by decide +kernel⟩
 exact ⟨by decide,s00_small,⟨s00_small,by decide⟩,by decide,s00_small,s00_small.1.1,s00_small.1.2,s00_small.2,h,h,trivial⟩
theorem conAwake21_valid:ValidCon c216.P 29 conTrue:=conTrue_run c216_good 80 (by kernel_rfl) fAw21 q21_holds (.boolLit rfl)
noncomputable def c217:Cfg:=c216.addQuiet 29 conTrue
theorem c217_good:GoodCfg c217:=c216_good.addQuiet conAwake21_valid conTrue_quiet
def sT1:Fu.Serv:=(doV s00 ⟨0,0,oneS,0,0,0,0,0,[]⟩).1
def sT2:Fu.Serv:=(doV sT1 (opZ 4)).1
def sT3:Fu.Serv:=(doV sT2 (opZ 4)).1
def qTp:Prop:=okDo (s00,⟨0,0,oneS,0,0,0,0,0,[]⟩)∧okDo (sT1,opZ 4)∧okDo (sT2,opZ 4)∧(0≤(0:Int)∧(0:Int) < sT3.W.T.length)∧0≤minI (maxI 1 0) (ofRing (rd .task sT3.W.T 0).H).N∧True
theorem fAwTp:runT (callC c217 80 13 [])=some (qTp,.bool true,[]):=by kernel_rfl
theorem qTp_holds:qTp:=by
 have h1:smallS sT1:=⟨⟨by decide +kernel,by decide +kernel⟩,by decide +kernel⟩
 have h2:smallS sT2:=⟨⟨by decide +kernel,by decide +kernel⟩,by decide +kernel⟩
 exact ⟨⟨s00_small,by decide⟩,⟨h1,by decide⟩,⟨h2,by decide⟩,⟨by decide,by decide +kernel⟩,by decide +kernel,trivial⟩
theorem conAwakeTp_valid:ValidCon c217.P 13 conTrue:=conTrue_run c217_good 80 (by kernel_rfl) fAwTp qTp_holds (.boolLit rfl)
noncomputable def c218:Cfg:=c217.addQuiet 13 conTrue
theorem c218_good:GoodCfg c218:=c217_good.addQuiet conAwakeTp_valid conTrue_quiet
end Go.Fx
