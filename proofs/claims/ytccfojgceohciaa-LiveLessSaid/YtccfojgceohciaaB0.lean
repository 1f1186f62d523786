/- A seat's configuration: which types are rows. -/
import Derived.Test.YtccfojgceohciaaFxY
import Derived.Test.YtccfojgceohciaaFxZ
import Derived.Test.YtccfojgceohciaaProg
import Derived.KernelRfl
namespace Go.Fx
open Go Go.Proofs

noncomputable def rtyS : TypeId → Option RTy
  | 3 => some (.int .i64)
  | 5 => some (.int .u8)
  | 4 => some (.bool)
  | 9 => some (.str)
  | 33 => some (.ints .i64)
  | 37 => some (.spec)
  | 63 => some (.fix)
  | 39 => some (.live)
  | _ => none
noncomputable def c0 : Cfg := ⟨Try.prog, rtyS, [], [], [], []⟩
theorem c0_good : GoodCfg c0 := GoodCfg.base (by kernel_rfl) rfl rfl rfl rfl

end Go.Fx
