/- seinelaw36.ServeNone, for every string: the law returns true and leaves its argument as it was; the card ties the listed package variables to the program's text. No condition but the row's own. -/
import Derived.Test.YtnaobokbalfhkaaGreatDoorA9
import Derived.Test.YtnaobokbalfhkaaGreatDoorN1
import Derived.Test.YtnaobokbalfhkaaGreatDoorT1
import Derived.Test.YtnaobokbalfhkaaGreatDoorT2
import Derived.Test.YtnaobokbalfhkaaGreatDoorT3
import Derived.Test.YtnaobokbalfhkaaGreatDoorN3
import Derived.Test.YtnaobokbalfhkaaGreatDoorCards
import Derived.WalkKit
import Derived.ProofKit
import Derived.OpenShut
import Derived.Deep.DeepHandedRow
import Derived.Deep.DeepWitnessRowRef
import Derived.Lay
import Derived.SevenTiedAt
import Derived.RowKit
import Derived.ChangeMaps5
namespace Go.Proofs.YtnaobokbalfhkaaGreatDoor
open Go.ChangeShapes Go.WideShapes Go.ChangeAt Go.RowKit Go.ChangeMaps

theorem none_walk (b : ByteArray) (W : World) : Calls Tryz.prog 4 #[.string b] W fun e w' => e = .returned (.bool true) ∧ Grown W w' := by
  obtain ⟨c, hc⟩ := CE.bodyOf (fn := Tryz.f4) (by kernel_rfl)
  exact CE.calls_of_iso (CE.none_iso b.data.toList) (fn := Tryz.f4) (c := c) Tryz.func4 hc (by kernel_rfl) rfl
    (show CE.tvrels CE.Ghost.none [CE.plain (.str b.data.toList)] [.string b] from ⟨_, _, rfl, CE.plain_rel (by simp only [CE.vrel]), rfl⟩) W

theorem none_facts : joinedFacts Tryz.pinned.checked.prog 4 Tryz.f4 (OpenSpec.ofChange Rows.serveNoneSpec).bare Rows.serveNoneRow = true :=
  joined_parts (P := Tryz.prog) (by kernel_rfl) g_laid g_maps (by kernel_rfl) g_stops (by kernel_rfl) g_knobs none_reach none_vars (by kernel_rfl) g_heard g_enter (by kernel_rfl)
theorem none_okWide (os : Os) : Input.okWideB Tryz.prog (theWorld os #[.string ⟨#[]⟩]) 4 ⟨#[], #[.string ⟨#[]⟩], []⟩ = true := by kernel_rfl
theorem none_reads (os : Os) {H : Type} (enc : TypeId × Value → H) : DataW.whole enc Tryz.prog (theWorld os #[.string ⟨#[]⟩]).memory Tryz.f4.params.toList (OpenSpec.ofChange Rows.serveNoneSpec).vars false (#[Value.string ⟨#[]⟩] : Array Value).toList 8 = some ([.lit (.string [])], [], []) := by kernel_rfl
theorem none_sized (os : Os) {H : Type} (enc : TypeId × Value → H) : (OpenSpec.ofChange Rows.serveNoneSpec).bare.sizedB enc Tryz.prog Tryz.f4 false (theWorld os #[.string ⟨#[]⟩]).memory #[.string ⟨#[]⟩] 8 = true := by kernel_rfl
set_option maxRecDepth 100000 in
theorem none_lifted (os : Os) (started : os.Started) (H : Type) (enc : TypeId × Value → H) (F : Stop.Interp) :
    ReturnsInHanded {} Tryz.checked os 4 .any ((OpenSpec.ofChange Rows.serveNoneSpec).preRow enc Tryz.prog Tryz.f4 Rows.serveNoneRow.domain false Rows.serveNoneRow.laid) (((OpenSpec.ofChange Rows.serveNoneSpec).at F).post enc Tryz.prog Tryz.f4 false true false false) := by
  refine returnsInHanded_of_row (C := Tryz.checked) (s := OpenSpec.ofChange Rows.serveNoneSpec) g_own started (by kernel_rfl) Tryz.func4
    (witness_row_atRef (enc := enc) (C := Tryz.checked) false (World.laidAll Tryz.prog os Rows.serveNoneRow.laid) #[.string ⟨#[]⟩] (World.laidAll_os _ _ _) (g_vars os _) (g_heap os _) (none_okWide os)
      (OpenSpec.preRow_of_cond 8 (none_reads os enc) (by kernel_rfl) (fun k hk => by cases hk) (none_sized os enc) (g_met os _))) ?_
  intro W base args ds gs before hval hW _ _ _ hL _ _
  have hW' := hW
  obtain ⟨p, q, hA0, hV, rfl, hfz, hnd⟩ := hW
  have hA : DataW.TrodAll enc Tryz.prog W 0 (fun _ => true) true Tryz.f4.params.toList args.toList ds p := hA0
  rw [Tryz.params4] at hA hval
  obtain ⟨v0, vs0, d0, ds0, p0, q0, hargs, rfl, rfl, h0, r0⟩ := trodAll_cons hA
  obtain ⟨rfl, rfl, rfl⟩ := trodAll_nil r0
  obtain rfl : args = #[v0] := by cases args; simp_all
  obtain ⟨rfl, rfl⟩ := trodVars_none hV
  obtain ⟨a, rfl, rfl, rfl, wa⟩ := open_string Tryz.underlying9 (hval 0 9 v0 rfl rfl) h0
  clear hA0
  simp only [List.append_nil] at hW'
  refine (none_walk a W).mono fun e W' ⟨he, hg⟩ => ?_
  subst he
  exact ⟨_, rfl, post_of_same (pa := []) (pv := []) hW' (fun _ _ _ => trodAll_cons_mk (shut_bool Tryz.underlying4 _) trodAll_mk0)
    (fun _ _ => trodAll_cons_mk (shut_string Tryz.underlying9 wa) trodAll_mk0) (fun _ _ => rfl) rfl
    (hg.frame _) hg.2.1 (ok_one (by kernel_rfl) rfl (okWide_bool_mk Tryz.underlying4 _))⟩
theorem none_said : Rows.ServeNoneSaid :=
  OpenClaim.holds_of_cond 4 Tryz.f4 rfl rfl rfl rfl rfl rfl rfl ⟨rfl, rfl, rfl, rfl, rfl⟩ rfl rfl rfl rfl rfl none_named Tryz.func4 none_facts
    (of_decide_eq_true (by kernel_rfl)) (by unfold Func.isWrapper; first | (rw [if_pos (by decide +kernel)]; kernel_rfl) | (rw [if_neg (by decide +kernel)]; exact ⟨rfl, rfl⟩))
    (fun os started H enc _ F => by rw [OpenClaim.pre_eq_preRow]; exact none_lifted os started H enc F)
theorem none_row_tie : Rows.serveNoneRow.laidByTextAt .later Tryz.pinned [.sentinel, .sentinel, .data, .data, .data, .pinned, .data] true :=
  OpenClaim.laidByTextAt_pinned rfl rfl the_tie rfl rfl rfl rfl (fun y hy _e => by
    simp only [Rows.serveNoneRow, List.zip_cons_cons, List.zip_nil_right, List.mem_cons, List.mem_nil_iff, or_false] at hy
    rcases hy with rfl | rfl | rfl | rfl | rfl | rfl | rfl
    · cases _e
    · cases _e
    · cases _e
    · cases _e
    · cases _e
    · exact ⟨the_pin, by kernel_rfl⟩
    · cases _e) the_fits
/-- No parameter wants a stand-in; the program's own looks are on. -/
theorem none_plain (f : FuncId) (fn : Func) (hf : Tryz.pinned.checked.prog.funcNamed "seine/seinelaw36.ServeNone" = some f) (hfn : Tryz.pinned.checked.prog.funcs[f]? = some fn) :
    true = Tryz.pinned.checked.prog.looks [] ∧ ∀ (j : Nat) t, fn.params[j]? = some t → Tryz.pinned.checked.prog.wantsStandIn t = false := by
  obtain rfl : f = 4 := Option.some.inj (none_named.symm.trans hf) |>.symm
  obtain rfl : fn = Tryz.f4 := (Option.some.inj (Tryz.func4.symm.trans hfn)).symm
  refine ⟨by kernel_rfl, fun j t ht => ?_⟩
  rw [Tryz.params4] at ht
  obtain rfl : t = 9 := by simpa using Array.mem_of_getElem? ht
  exact (show Tryz.prog.wantsStandIn 9 = false by kernel_rfl)
/-- ████ THE CARD ████ -/
theorem none_card : Rows.ServeNoneCardSaid :=
  Claim7.holds_tied_plain_at .later [] _ _ _ _ none_said (fun _ h => by cases h) (by kernel_rfl) (fun _ h => by cases h) none_row_tie rfl ⟨rfl, rfl⟩ (by kernel_rfl) rfl none_plain (goes_none g_goes Rows.serveNoneRow rfl)
end Go.Proofs.YtnaobokbalfhkaaGreatDoor
