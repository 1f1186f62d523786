/- Contracts: descriptions. -/
import Derived.Test.YtccfojgceohciaaB2
namespace Go.Fx
open Go Go.Proofs

theorem pSpec1 (b off : Nat) : inlineX c4 (exec c4 20) 79 [.ptr b off] [] (b + 1) = .ret (.ptr b (off + 0), [], b + 1) := by kernel_rfl
noncomputable def c5 : Cfg := c4.addPcon 79 (ptrCon fun off => off + 0)
theorem c5_good : GoodCfg c5 := c4_good.addPcon (pcon_of c4_good (n := 20) (by kernel_rfl) fun b off => ⟨_, .of_eq (pSpec1 b off) rfl⟩)
theorem pSpec2 (b off : Nat) : inlineX c5 (exec c5 20) 81 [.ptr b off] [] (b + 1) = .ret (.ptr b (off + 1), [], b + 1) := by kernel_rfl
noncomputable def c6 : Cfg := c5.addPcon 81 (ptrCon fun off => off + 1)
theorem c6_good : GoodCfg c6 := c5_good.addPcon (pcon_of c5_good (n := 20) (by kernel_rfl) fun b off => ⟨_, .of_eq (pSpec2 b off) rfl⟩)
theorem pSpec5 (b off : Nat) : inlineX c6 (exec c6 20) 84 [.ptr b off] [] (b + 1) = .ret (.ptr b (off + 2), [], b + 1) := by kernel_rfl
noncomputable def c7 : Cfg := c6.addPcon 84 (ptrCon fun off => off + 2)
theorem c7_good : GoodCfg c7 := c6_good.addPcon (pcon_of c6_good (n := 20) (by kernel_rfl) fun b off => ⟨_, .of_eq (pSpec5 b off) rfl⟩)
theorem pSpec6 (b off : Nat) : inlineX c7 (exec c7 20) 85 [.ptr b off] [] (b + 1) = .ret (.ptr b (off + 3), [], b + 1) := by kernel_rfl
noncomputable def c8 : Cfg := c7.addPcon 85 (ptrCon fun off => off + 3)
theorem c8_good : GoodCfg c8 := c7_good.addPcon (pcon_of c7_good (n := 20) (by kernel_rfl) fun b off => ⟨_, .of_eq (pSpec6 b off) rfl⟩)
theorem pSpec8 (b off : Nat) : inlineX c8 (exec c8 20) 87 [.ptr b off] [] (b + 1) = .ret (.ptr b (off + 4), [], b + 1) := by kernel_rfl
noncomputable def c9 : Cfg := c8.addPcon 87 (ptrCon fun off => off + 4)
theorem c9_good : GoodCfg c9 := c8_good.addPcon (pcon_of c8_good (n := 20) (by kernel_rfl) fun b off => ⟨_, .of_eq (pSpec8 b off) rfl⟩)
theorem pSpec9 (b off : Nat) : inlineX c9 (exec c9 20) 88 [.ptr b off] [] (b + 1) = .ret (.ptr b (off + 5), [], b + 1) := by kernel_rfl
noncomputable def c10 : Cfg := c9.addPcon 88 (ptrCon fun off => off + 5)
theorem c10_good : GoodCfg c10 := c9_good.addPcon (pcon_of c9_good (n := 20) (by kernel_rfl) fun b off => ⟨_, .of_eq (pSpec9 b off) rfl⟩)

end Go.Fx
