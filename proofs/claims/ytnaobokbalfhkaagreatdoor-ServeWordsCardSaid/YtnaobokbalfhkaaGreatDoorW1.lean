/- ServeWords returns true for every pair of integers in the clean run, by the kernel, case by case. Conditions: none. -/
import Derived.Test.YtnaobokbalfhkaaGreatDoorB2
namespace Go.CE
open Go.Proofs
def wordsI (a b : Int) : Iso := ⟨3, [plain (.int .i64 a), plain (.int .i64 b)], plain (.bool true)⟩
noncomputable def afterAwake : Opts := base.opts [] [(7, [awakeI])]
noncomputable def wordsRun (a b : Int) : Bool := isoEq (wordsI a b) (callF Tryz.prog afterAwake 100 3 [plain (.int .i64 a), plain (.int .i64 b)] St.none)
def allBelow (f : Nat → Bool) : Nat → Bool
  | 0 => true
  | n + 1 => match f n with | true => allBelow f n | false => false
theorem wNeg : ∀ (m : Nat) (b : Int), wordsRun (.negSucc m) b = true := fun m b => by kernel_rfl
theorem wBig : ∀ (m : Nat) (b : Int), wordsRun (.ofNat (m + 15)) b = true := fun m b => by kernel_rfl
theorem w0 : allBelow (fun b => wordsRun (.ofNat 0) (.ofNat b)) 15 = true := by kernel_rfl
theorem wn0 : ∀ m : Nat, wordsRun (.ofNat 0) (.negSucc m) = true := fun m => by kernel_rfl
theorem wb0 : ∀ m : Nat, wordsRun (.ofNat 0) (.ofNat (m + 15)) = true := fun m => by kernel_rfl
theorem w1 : allBelow (fun b => wordsRun (.ofNat 1) (.ofNat b)) 15 = true := by kernel_rfl
theorem wn1 : ∀ m : Nat, wordsRun (.ofNat 1) (.negSucc m) = true := fun m => by kernel_rfl
theorem wb1 : ∀ m : Nat, wordsRun (.ofNat 1) (.ofNat (m + 15)) = true := fun m => by kernel_rfl
theorem w2 : allBelow (fun b => wordsRun (.ofNat 2) (.ofNat b)) 15 = true := by kernel_rfl
theorem wn2 : ∀ m : Nat, wordsRun (.ofNat 2) (.negSucc m) = true := fun m => by kernel_rfl
theorem wb2 : ∀ m : Nat, wordsRun (.ofNat 2) (.ofNat (m + 15)) = true := fun m => by kernel_rfl
theorem w3 : allBelow (fun b => wordsRun (.ofNat 3) (.ofNat b)) 15 = true := by kernel_rfl
theorem wn3 : ∀ m : Nat, wordsRun (.ofNat 3) (.negSucc m) = true := fun m => by kernel_rfl
theorem wb3 : ∀ m : Nat, wordsRun (.ofNat 3) (.ofNat (m + 15)) = true := fun m => by kernel_rfl
theorem w4 : allBelow (fun b => wordsRun (.ofNat 4) (.ofNat b)) 15 = true := by kernel_rfl
theorem wn4 : ∀ m : Nat, wordsRun (.ofNat 4) (.negSucc m) = true := fun m => by kernel_rfl
theorem wb4 : ∀ m : Nat, wordsRun (.ofNat 4) (.ofNat (m + 15)) = true := fun m => by kernel_rfl
theorem w5 : allBelow (fun b => wordsRun (.ofNat 5) (.ofNat b)) 15 = true := by kernel_rfl
theorem wn5 : ∀ m : Nat, wordsRun (.ofNat 5) (.negSucc m) = true := fun m => by kernel_rfl
theorem wb5 : ∀ m : Nat, wordsRun (.ofNat 5) (.ofNat (m + 15)) = true := fun m => by kernel_rfl
theorem w6 : allBelow (fun b => wordsRun (.ofNat 6) (.ofNat b)) 15 = true := by kernel_rfl
theorem wn6 : ∀ m : Nat, wordsRun (.ofNat 6) (.negSucc m) = true := fun m => by kernel_rfl
theorem wb6 : ∀ m : Nat, wordsRun (.ofNat 6) (.ofNat (m + 15)) = true := fun m => by kernel_rfl
theorem w7 : allBelow (fun b => wordsRun (.ofNat 7) (.ofNat b)) 15 = true := by kernel_rfl
theorem wn7 : ∀ m : Nat, wordsRun (.ofNat 7) (.negSucc m) = true := fun m => by kernel_rfl
theorem wb7 : ∀ m : Nat, wordsRun (.ofNat 7) (.ofNat (m + 15)) = true := fun m => by kernel_rfl
theorem w8 : allBelow (fun b => wordsRun (.ofNat 8) (.ofNat b)) 15 = true := by kernel_rfl
theorem wn8 : ∀ m : Nat, wordsRun (.ofNat 8) (.negSucc m) = true := fun m => by kernel_rfl
theorem wb8 : ∀ m : Nat, wordsRun (.ofNat 8) (.ofNat (m + 15)) = true := fun m => by kernel_rfl
theorem w9 : allBelow (fun b => wordsRun (.ofNat 9) (.ofNat b)) 15 = true := by kernel_rfl
theorem wn9 : ∀ m : Nat, wordsRun (.ofNat 9) (.negSucc m) = true := fun m => by kernel_rfl
theorem wb9 : ∀ m : Nat, wordsRun (.ofNat 9) (.ofNat (m + 15)) = true := fun m => by kernel_rfl
theorem w10 : allBelow (fun b => wordsRun (.ofNat 10) (.ofNat b)) 15 = true := by kernel_rfl
theorem wn10 : ∀ m : Nat, wordsRun (.ofNat 10) (.negSucc m) = true := fun m => by kernel_rfl
theorem wb10 : ∀ m : Nat, wordsRun (.ofNat 10) (.ofNat (m + 15)) = true := fun m => by kernel_rfl
theorem w11 : allBelow (fun b => wordsRun (.ofNat 11) (.ofNat b)) 15 = true := by kernel_rfl
theorem wn11 : ∀ m : Nat, wordsRun (.ofNat 11) (.negSucc m) = true := fun m => by kernel_rfl
theorem wb11 : ∀ m : Nat, wordsRun (.ofNat 11) (.ofNat (m + 15)) = true := fun m => by kernel_rfl
theorem w12 : allBelow (fun b => wordsRun (.ofNat 12) (.ofNat b)) 15 = true := by kernel_rfl
theorem wn12 : ∀ m : Nat, wordsRun (.ofNat 12) (.negSucc m) = true := fun m => by kernel_rfl
theorem wb12 : ∀ m : Nat, wordsRun (.ofNat 12) (.ofNat (m + 15)) = true := fun m => by kernel_rfl
theorem w13 : allBelow (fun b => wordsRun (.ofNat 13) (.ofNat b)) 15 = true := by kernel_rfl
theorem wn13 : ∀ m : Nat, wordsRun (.ofNat 13) (.negSucc m) = true := fun m => by kernel_rfl
theorem wb13 : ∀ m : Nat, wordsRun (.ofNat 13) (.ofNat (m + 15)) = true := fun m => by kernel_rfl
theorem w14 : allBelow (fun b => wordsRun (.ofNat 14) (.ofNat b)) 15 = true := by kernel_rfl
theorem wn14 : ∀ m : Nat, wordsRun (.ofNat 14) (.negSucc m) = true := fun m => by kernel_rfl
theorem wb14 : ∀ m : Nat, wordsRun (.ofNat 14) (.ofNat (m + 15)) = true := fun m => by kernel_rfl
end Go.CE
