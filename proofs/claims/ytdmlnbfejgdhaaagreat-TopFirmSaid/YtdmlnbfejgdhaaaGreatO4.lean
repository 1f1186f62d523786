import Derived.Test.YtdmlnbfejgdhaaaGreatQA
namespace Go.Fx
open Go Go.Proofs
theorem oOp:Opens Tryz.prog 73 fun zs=>∃ o:Fu.Op,zs = encOp o∧(o.D.length:Int)≤17592186044415 :=
  (Opens.struct Tryz.underlying73 (.cons oInt (by kernel_rfl) (.cons oInt (by kernel_rfl) (.cons oSpec (by kernel_rfl) (.cons oInt (by kernel_rfl) (.cons oInt (by kernel_rfl) (.cons oInt (by kernel_rfl) (.cons oInt (by kernel_rfl) (.cons oInt (by kernel_rfl) (.cons oInts (by kernel_rfl) (.nil _)))))))))) (by kernel_rfl)).mono fun zs h=>by
    obtain ⟨_,_,rfl,⟨a,rfl,_⟩,_,_,rfl,⟨b,rfl,_⟩,_,_,rfl,⟨c,rfl⟩,_,_,rfl,⟨d,rfl,_⟩,_,_,rfl,⟨e,rfl,_⟩,_,_,rfl,⟨f,rfl,_⟩,_,_,rfl,⟨g,rfl,_⟩,_,_,rfl,⟨h,rfl,_⟩,_,_,rfl,⟨i,rfl,hi,_⟩,rfl⟩:=h
    exact ⟨⟨a,b,c,d,e,f,g,h,i⟩,rfl,by simp only; omega⟩
theorem oOps:Opens Tryz.prog 22 fun zs=>∃ xs:List Fu.Op,zs = [.view .op xs]∧∀ o ∈ xs,(o.D.length:Int)≤17592186044415 :=
  (Opens.slice .op (ok:=fun o:Fu.Op=>(o.D.length:Int)≤17592186044415) Tryz.underlying22 oOp (fun zs ⟨n,h,h'⟩=>⟨n,h,h'⟩) (by kernel_rfl) (by decide)).mono fun zs ⟨xs,h1,_,h3⟩=>⟨xs,h1,h3⟩
theorem oByte:Opens Tryz.prog 5 fun zs=>∃ n,zs = [.int .u8 n]:=(Opens.int Tryz.underlying5).mono fun _ ⟨n,h1,_⟩=>⟨n,h1⟩
theorem oBytes:Opens Tryz.prog 79 fun zs=>∃ xs:List Int,zs = [.view (.int .u8) xs] :=
  (Opens.slice (.int .u8) (ok:=fun _=>True) Tryz.underlying79 oByte (fun zs ⟨n,h⟩=>⟨n,h,trivial⟩) (by kernel_rfl) (by decide)).mono fun zs ⟨xs,h1,_,_⟩=>⟨xs,h1⟩
theorem oBB:Opens Tryz.prog 75 fun zs=>∃ xs:List (List Int),zs = [.view (.ints .u8) xs] :=
  (Opens.slice (.ints .u8) (ok:=fun _=>True) Tryz.underlying75 oBytes (fun zs ⟨n,h⟩=>⟨n,h,trivial⟩) (by kernel_rfl) (by decide)).mono fun zs ⟨xs,h1,_,_⟩=>⟨xs,h1⟩
end Go.Fx
