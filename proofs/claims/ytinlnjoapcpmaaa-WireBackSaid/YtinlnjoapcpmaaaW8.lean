/- The wire seat's functions: where a kind's numbers stand. -/
import Derived.Test.YtinlnjoapcpmaaaW7
namespace Go.Fx
open Go Go.Proofs

theorem p32 (b off : Nat) : inlineX w16 (exec w16 20) 32 [.ptr b off] [] (b + 1) = .ret (.ptr b (off + 1), [], b + 1) := by kernel_rfl
noncomputable def w17 : Cfg := w16.addPcon 32 (ptrCon fun off => off + 1)
theorem w17_good : GoodCfg w17 := w16_good.addPcon (pcon_of w16_good (n := 20) (by kernel_rfl) fun b off => ⟨_, .of_eq (p32 b off) rfl⟩)
theorem p33 (b off : Nat) : inlineX w17 (exec w17 20) 33 [.ptr b off] [] (b + 1) = .ret (.ptr b (off + 2), [], b + 1) := by kernel_rfl
noncomputable def w18 : Cfg := w17.addPcon 33 (ptrCon fun off => off + 2)
theorem w18_good : GoodCfg w18 := w17_good.addPcon (pcon_of w17_good (n := 20) (by kernel_rfl) fun b off => ⟨_, .of_eq (p33 b off) rfl⟩)
theorem p34 (b off : Nat) : inlineX w18 (exec w18 20) 34 [.ptr b off] [] (b + 1) = .ret (.ptr b (off + 3), [], b + 1) := by kernel_rfl
noncomputable def w19 : Cfg := w18.addPcon 34 (ptrCon fun off => off + 3)
theorem w19_good : GoodCfg w19 := w18_good.addPcon (pcon_of w18_good (n := 20) (by kernel_rfl) fun b off => ⟨_, .of_eq (p34 b off) rfl⟩)
theorem p35 (b off : Nat) : inlineX w19 (exec w19 20) 35 [.ptr b off] [] (b + 1) = .ret (.ptr b (off + 4), [], b + 1) := by kernel_rfl
noncomputable def w20 : Cfg := w19.addPcon 35 (ptrCon fun off => off + 4)
theorem w20_good : GoodCfg w20 := w19_good.addPcon (pcon_of w19_good (n := 20) (by kernel_rfl) fun b off => ⟨_, .of_eq (p35 b off) rfl⟩)
theorem p36 (b off : Nat) : inlineX w20 (exec w20 20) 36 [.ptr b off] [] (b + 1) = .ret (.ptr b (off + 5), [], b + 1) := by kernel_rfl
noncomputable def w21 : Cfg := w20.addPcon 36 (ptrCon fun off => off + 5)
theorem w21_good : GoodCfg w21 := w20_good.addPcon (pcon_of w20_good (n := 20) (by kernel_rfl) fun b off => ⟨_, .of_eq (p36 b off) rfl⟩)
theorem p37 (b off : Nat) : inlineX w21 (exec w21 20) 37 [.ptr b off] [] (b + 1) = .ret (.ptr b (off + 6), [], b + 1) := by kernel_rfl
noncomputable def w22 : Cfg := w21.addPcon 37 (ptrCon fun off => off + 6)
theorem w22_good : GoodCfg w22 := w21_good.addPcon (pcon_of w21_good (n := 20) (by kernel_rfl) fun b off => ⟨_, .of_eq (p37 b off) rfl⟩)
theorem p38 (b off : Nat) : inlineX w22 (exec w22 20) 38 [.ptr b off] [] (b + 1) = .ret (.ptr b (off + 7), [], b + 1) := by kernel_rfl
noncomputable def w23 : Cfg := w22.addPcon 38 (ptrCon fun off => off + 7)
theorem w23_good : GoodCfg w23 := w22_good.addPcon (pcon_of w22_good (n := 20) (by kernel_rfl) fun b off => ⟨_, .of_eq (p38 b off) rfl⟩)
theorem p39 (b off : Nat) : inlineX w23 (exec w23 20) 39 [.ptr b off] [] (b + 1) = .ret (.ptr b (off + 8), [], b + 1) := by kernel_rfl
noncomputable def w24 : Cfg := w23.addPcon 39 (ptrCon fun off => off + 8)
theorem w24_good : GoodCfg w24 := w23_good.addPcon (pcon_of w23_good (n := 20) (by kernel_rfl) fun b off => ⟨_, .of_eq (p39 b off) rfl⟩)
theorem p40 (b off : Nat) : inlineX w24 (exec w24 20) 40 [.ptr b off] [] (b + 1) = .ret (.ptr b (off + 9), [], b + 1) := by kernel_rfl
noncomputable def w25 : Cfg := w24.addPcon 40 (ptrCon fun off => off + 9)
theorem w25_good : GoodCfg w25 := w24_good.addPcon (pcon_of w24_good (n := 20) (by kernel_rfl) fun b off => ⟨_, .of_eq (p40 b off) rfl⟩)
theorem p41 (b off : Nat) : inlineX w25 (exec w25 20) 41 [.ptr b off] [] (b + 1) = .ret (.ptr b (off + 10), [], b + 1) := by kernel_rfl
noncomputable def w26 : Cfg := w25.addPcon 41 (ptrCon fun off => off + 10)
theorem w26_good : GoodCfg w26 := w25_good.addPcon (pcon_of w25_good (n := 20) (by kernel_rfl) fun b off => ⟨_, .of_eq (p41 b off) rfl⟩)
theorem p42 (b off : Nat) : inlineX w26 (exec w26 20) 42 [.ptr b off] [] (b + 1) = .ret (.ptr b (off + 11), [], b + 1) := by kernel_rfl
noncomputable def w27 : Cfg := w26.addPcon 42 (ptrCon fun off => off + 11)
theorem w27_good : GoodCfg w27 := w26_good.addPcon (pcon_of w26_good (n := 20) (by kernel_rfl) fun b off => ⟨_, .of_eq (p42 b off) rfl⟩)
theorem p43 (b off : Nat) : inlineX w27 (exec w27 20) 43 [.ptr b off] [] (b + 1) = .ret (.ptr b (off + 12), [], b + 1) := by kernel_rfl
noncomputable def w28 : Cfg := w27.addPcon 43 (ptrCon fun off => off + 12)
theorem w28_good : GoodCfg w28 := w27_good.addPcon (pcon_of w27_good (n := 20) (by kernel_rfl) fun b off => ⟨_, .of_eq (p43 b off) rfl⟩)

end Go.Fx
