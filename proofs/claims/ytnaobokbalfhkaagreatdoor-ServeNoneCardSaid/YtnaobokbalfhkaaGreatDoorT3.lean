/- The seat's program starts no goroutine: no function of it bears a go statement. A closed fact, and what follows of it for a row. -/
import Derived.Test.YtnaobokbalfhkaaGreatDoorRows
import Derived.SevenTiedAt
namespace Go.Proofs.YtnaobokbalfhkaaGreatDoor
open Go
theorem g_goes : (Tryz.prog.funcs.toList.all fun fn => !fn.goes) = true := by kernel_rfl
theorem goes_none {P : Program} (h : (P.funcs.toList.all fun fn => !fn.goes) = true) (c : OpenClaim) (hs : c.start = .entering) : false = c.goesBy P := by
  have hall : ∀ fn ∈ P.funcs.toList, fn.goes = false := by
    intro fn hfn
    simpa using List.all_eq_true.1 h fn hfn
  have hany : P.funcs.any Func.goes = false := by
    rw [← Array.any_toList, List.any_eq_false]
    intro fn hfn
    simp [hall fn hfn]
  have hgoes : ∀ f, P.goes f = false := by
    intro f
    unfold Program.goes
    rw [hany, Bool.and_false, Bool.or_false, List.any_eq_false]
    intro g _ hg
    cases hx : P.funcs[g]? with
    | none => simp [hx] at hg
    | some fn =>
      have hm : fn ∈ P.funcs.toList := Array.mem_toList_iff.2 (Array.mem_of_getElem? hx)
      simp [hx, hall fn hm] at hg
  unfold OpenClaim.goesBy Program.goesAt Program.goesFrom
  rw [hs]
  cases P.funcNamed c.func with
  | none => rfl
  | some f => simp [hgoes f]
end Go.Proofs.YtnaobokbalfhkaaGreatDoor
