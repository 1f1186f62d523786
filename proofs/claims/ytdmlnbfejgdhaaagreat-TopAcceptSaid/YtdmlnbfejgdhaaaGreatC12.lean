import Derived.Test.YtdmlnbfejgdhaaaGreatRN
namespace Go.Fx
open Go Go.Proofs
end Go.Fx
namespace Go.Fx
open Go Go.Proofs
def nearE (s:Fu.Serv):Bool:=nearW s.W && decide ((s.R.L.length:Int)≤10)
theorem fNear20 (s:Fu.Serv):callC c205 60 69 [.agg (encS s)]=.asrt (smallW s.W) (.ite (nearW s.W) (.ret (.bool (decide ((s.R.L.length:Int)≤10)),[])) (.ret (.blit false,[]))):=by kernel_rfl
def conNear20:Con:=flatCon (d1 dServ) smallS fun s=>.bool (nearE s)
theorem near20_rez {s:Fu.Serv} (h:smallS s):∃ t,callC c205 60 69 [.agg (encS s)]=t∧Rez t (.bool (nearE s),[]):=⟨_,fNear20 s,by
 refine .asrt h.1 ?_
 unfold nearE
 cases nearW s.W with
 | true=>exact .itet rfl (.ret (.refl _) rfl)
 | false=>exact .itee rfl (.ret (.blit rfl) rfl)⟩
theorem conNear20_valid:ValidCon c205.P 69 conNear20:=flatCon_valid c205_good 60 (by kernel_rfl) fun s h=>near20_rez h
noncomputable def c206:Cfg:=c205.addQuiet 69 conNear20
theorem c206_good:GoodCfg c206:=c205_good.addQuiet conNear20_valid flatCon_quiet
def oneS:Fu.Spec:=⟨2,10,20,1,2,3⟩
theorem fOne05:callC c206 60 39 []=.ret (.agg [.lit .i64 2,.lit .i64 10,.lit .i64 20,.lit .i64 1,.lit .i64 2,.lit .i64 3],[]):=by kernel_rfl
def conOne05:Con:=plainCon Ds.none fun _=>.agg (encSpec oneS)
theorem conOne05_valid:ValidCon c206.P 39 conOne05:=plainCon_valid c206_good 60 (by kernel_rfl) fun _=>⟨_,fOne05,.ret (.agg (.cons (.lit rfl) (.cons (.lit rfl) (.cons (.lit rfl) (.cons (.lit rfl) (.cons (.lit rfl) (.cons (.lit rfl) .nil))))))) rfl⟩
noncomputable def c207:Cfg:=c206.addQuiet 39 conOne05
theorem c207_good:GoodCfg c207:=c206_good.addQuiet conOne05_valid plainCon_quiet
end Go.Fx
