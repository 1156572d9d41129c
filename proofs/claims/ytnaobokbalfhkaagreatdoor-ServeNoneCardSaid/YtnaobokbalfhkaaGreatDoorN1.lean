/- ServeNone returns true for every string in the clean run, by the kernel. Conditions: none. -/
import Derived.Test.YtnaobokbalfhkaaGreatDoorB2
import Derived.Test.YtnaobokbalfhkaaGreatDoorA9
namespace Go.CE
open Go.Proofs
noncomputable def afterAwakeN : Opts := base.opts [] [(7, [awakeI])]
def noneI (b : List UInt8) : Iso := ⟨4, [plain (.str b)], plain (.bool true)⟩
noncomputable def noneBody : Code := match Tryz.f4.body with | some c => c | none => .skip
theorem none_body : Tryz.f4.body = some noneBody := by kernel_rfl
theorem none_fn : Tryz.prog.funcs[4]? = some Tryz.f4 := by kernel_rfl
theorem none_cond (b : List UInt8) : forkCond Tryz.prog (afterAwakeN.mt 4) (afterAwakeN.od 4) (callF Tryz.prog afterAwakeN 100) 100 noneBody (start [plain (.str b)]) St.none = some (plain (.bool (Nat.blt 2000 b.length))) := by kernel_rfl
theorem none_run (b : List UInt8) (c : Bool) : isoEq (noneI b) (endC Tryz.prog (callD Tryz.prog afterAwakeN 100) Tryz.f4 St.none (afterAwakeN.keep 4) (forkRun Tryz.prog (afterAwakeN.mt 4) (afterAwakeN.od 4) (callF Tryz.prog afterAwakeN 100) 100 c noneBody (start [plain (.str b)]) St.none)) = true := by
  cases c <;> kernel_rfl
theorem none_iso (b : List UInt8) : IsoOk Tryz.prog (noneI b) := by
  have F : Fit Tryz.prog afterAwakeN := Base.fit base_fit recs_nil (isos_one rfl awake_iso isos_nil)
  have hp : afterAwakeN.prim 4 = 0 := by kernel_rfl
  exact iso_fork F (i := noneI b) none_fn none_body hp (none_cond b) rfl (none_run b _)
end Go.CE
