import Derived.Test.YtdmlnbfejgdhaaaGreatQA
namespace Go.Fx
open Go Go.Proofs
theorem oOp:Opens Tryz.prog 73 fun zs=>∃ o:Fu.Op,zs=encOp o∧(o.D.length:Int)≤17592186044415 :=
 (Opens.struct Tryz.underlying73 (.cons oInt (by kernel_rfl) (.cons oInt (by kernel_rfl) (.cons oSpec (by kernel_rfl) (.cons oInt (by kernel_rfl) (.cons oInt (by kernel_rfl) (.cons oInt (by kernel_rfl) (.cons oInt (by kernel_rfl) (.cons oInt (by kernel_rfl) (.cons oInts (by kernel_rfl) (.nil _)))))))))) (by kernel_rfl)).mono fun zs h=>by
  obtain ⟨_,_,rfl,⟨a,rfl,_⟩,_,_,rfl,⟨b,rfl,_⟩,_,_,rfl,⟨c,rfl⟩,_,_,rfl,⟨d,rfl,_⟩,_,_,rfl,⟨e,rfl,_⟩,_,_,rfl,⟨f,rfl,_⟩,_,_,rfl,⟨g,rfl,_⟩,_,_,rfl,⟨h,rfl,_⟩,_,_,rfl,⟨i,rfl,hi,_⟩,rfl⟩:=h
  exact ⟨⟨a,b,c,d,e,f,g,h,i⟩,rfl,by simp only; omega⟩
theorem oOps:Opens Tryz.prog 22 fun zs=>∃ xs:List Fu.Op,zs=[.view .op xs]∧∀ o ∈ xs,(o.D.length:Int)≤17592186044415 :=
 (Opens.slice .op (ok:=fun o:Fu.Op=>(o.D.length:Int)≤17592186044415) Tryz.underlying22 oOp (fun zs ⟨n,h,h'⟩=>⟨n,h,h'⟩) (by kernel_rfl) (by decide)).mono fun zs ⟨xs,h1,_,h3⟩=>⟨xs,h1,h3⟩
end Go.Fx
