import Derived.Test.YtgefkgmfbmdooaaGreatC6
namespace Go.Fx
open Go Go.Proofs
end Go.Fx
namespace Go.Fx
open Go Go.Proofs
end Go.Fx
namespace Go.Fx
open Go Go.Proofs
end Go.Fx
namespace Go.Fx
open Go Go.Proofs
end Go.Fx
namespace Go.Fx
open Go Go.Proofs
theorem oU64:Opens Tryz.prog 43 fun zs=>∃ n,zs = [.int .u64 n]∧(Lit.int .u64 n).wf = true:=Opens.int Tryz.underlying43
theorem oApe:Opens Tryz.prog 49 fun zs=>∃ a:Fu.Ape,zs = encApe a :=
  (Opens.struct Tryz.underlying49 (.cons oInt (by kernel_rfl) (.cons oInt (by kernel_rfl) (.cons oInt (by kernel_rfl) (.cons oInt (by kernel_rfl) (.cons oInt (by kernel_rfl) (.nil _)))))) (by kernel_rfl)).mono fun zs h=>by
    obtain ⟨_,_,rfl,⟨a,rfl,_⟩,_,_,rfl,⟨b,rfl,_⟩,_,_,rfl,⟨c,rfl,_⟩,_,_,rfl,⟨d,rfl,_⟩,_,_,rfl,⟨e,rfl,_⟩,rfl⟩:=h
    exact ⟨⟨a,b,c,d,e⟩,rfl⟩
theorem oApes:Opens Tryz.prog 23 fun zs=>∃ xs:List Fu.Ape,zs = [.view .ape xs]∧(xs.length:Int) * 40≤140737488355328 :=
  (Opens.slice .ape (ok:=fun _=>True) Tryz.underlying23 oApe (fun zs ⟨n,h⟩=>⟨n,h,trivial⟩) (by kernel_rfl) (by decide)).mono fun zs ⟨xs,h1,h2,_⟩=>⟨xs,h1,by
    have e:Tryz.prog.bytesOf 49 = 40:=by kernel_rfl
    rw [e] at h2
    unfold reachBytes at h2
    omega⟩
end Go.Fx
