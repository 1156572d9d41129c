/- seinelaw36.ServeWords, for every pair of integers: the law returns true and leaves its arguments as they were; the card ties the listed package variables to the program's text. No condition but the row's own. -/
import Derived.Test.YtnaobokbalfhkaaGreatDoorA9
import Derived.Test.YtnaobokbalfhkaaGreatDoorW1
import Derived.Test.YtnaobokbalfhkaaGreatDoorT1
import Derived.Test.YtnaobokbalfhkaaGreatDoorT2
import Derived.Test.YtnaobokbalfhkaaGreatDoorT3
import Derived.Test.YtnaobokbalfhkaaGreatDoorW3
import Derived.Test.YtnaobokbalfhkaaGreatDoorCards
import Derived.WalkKit
import Derived.ProofKit
import Derived.OpenShut
import Derived.Deep.DeepHandedRow
import Derived.Deep.DeepWitnessRowRef
import Derived.Lay
import Derived.SevenTiedAt
import Derived.RowKit
namespace Go.Proofs.YtnaobokbalfhkaaGreatDoor
open Go.ChangeShapes Go.WideShapes Go.ChangeAt Go.RowKit
open Go.CE (wordsI)

theorem words_below {f : Nat → Bool} : ∀ {n : Nat}, CE.allBelow f n = true → ∀ k, k < n → f k = true
  | 0, _, k, h => by omega
  | n + 1, h, k, hk => by
    simp only [CE.allBelow] at h
    split at h
    · rename_i hf
      by_cases e : k = n
      · subst e; exact hf
      · exact words_below h k (by omega)
    · cases h
theorem words_cases {b : Int} {f : Int → Bool} (h1 : CE.allBelow (fun k => f (.ofNat k)) 15 = true) (h2 : ∀ m, f (.negSucc m) = true) (h3 : ∀ m, f (.ofNat (m + 15)) = true) : f b = true := by
  cases b with
  | negSucc m => exact h2 m
  | ofNat k =>
    rcases Nat.lt_or_ge k 15 with e | e
    · exact words_below h1 k e
    · obtain ⟨m, rfl⟩ : ∃ m, k = m + 15 := ⟨k - 15, by omega⟩
      exact h3 m
theorem words_run (a b : Int) : CE.wordsRun a b = true := by
  cases a with
  | negSucc m => exact CE.wNeg m b
  | ofNat k =>
    rcases Nat.lt_or_ge k 15 with e | e
    · have hk : k = 0 ∨ k = 1 ∨ k = 2 ∨ k = 3 ∨ k = 4 ∨ k = 5 ∨ k = 6 ∨ k = 7 ∨ k = 8 ∨ k = 9 ∨ k = 10 ∨ k = 11 ∨ k = 12 ∨ k = 13 ∨ k = 14 := by omega
      rcases hk with rfl | rfl | rfl | rfl | rfl | rfl | rfl | rfl | rfl | rfl | rfl | rfl | rfl | rfl | rfl
      · exact words_cases CE.w0 CE.wn0 CE.wb0
      · exact words_cases CE.w1 CE.wn1 CE.wb1
      · exact words_cases CE.w2 CE.wn2 CE.wb2
      · exact words_cases CE.w3 CE.wn3 CE.wb3
      · exact words_cases CE.w4 CE.wn4 CE.wb4
      · exact words_cases CE.w5 CE.wn5 CE.wb5
      · exact words_cases CE.w6 CE.wn6 CE.wb6
      · exact words_cases CE.w7 CE.wn7 CE.wb7
      · exact words_cases CE.w8 CE.wn8 CE.wb8
      · exact words_cases CE.w9 CE.wn9 CE.wb9
      · exact words_cases CE.w10 CE.wn10 CE.wb10
      · exact words_cases CE.w11 CE.wn11 CE.wb11
      · exact words_cases CE.w12 CE.wn12 CE.wb12
      · exact words_cases CE.w13 CE.wn13 CE.wb13
      · exact words_cases CE.w14 CE.wn14 CE.wb14
    · obtain ⟨m, rfl⟩ : ∃ m, k = m + 15 := ⟨k - 15, by omega⟩
      exact CE.wBig m b
theorem words_iso (a b : Int) : CE.IsoOk Tryz.prog (wordsI a b) :=
  CE.iso_of_eq (O := CE.afterAwake) (CE.Base.fit CE.base_fit CE.recs_nil (CE.isos_one rfl CE.awake_iso CE.isos_nil)) (k := 100) (words_run a b)
theorem words_walk (a b : Int) (W : World) : Calls Tryz.prog 3 #[.int .i64 a, .int .i64 b] W fun e w' => e = .returned (.bool true) ∧ Grown W w' := by
  obtain ⟨c, hc⟩ := CE.bodyOf (fn := Tryz.f3) (by kernel_rfl)
  exact CE.calls_of_iso (words_iso a b) (fn := Tryz.f3) (c := c) Tryz.func3 hc (by kernel_rfl) rfl
    (show CE.tvrels CE.Ghost.none [CE.plain (.int .i64 a), CE.plain (.int .i64 b)] [.int .i64 a, .int .i64 b] from ⟨_, _, rfl, CE.plain_rel (by simp [CE.vrel]), _, _, rfl, CE.plain_rel (by simp [CE.vrel]), rfl⟩) W

theorem words_facts : joinedFacts Tryz.pinned.checked.prog 3 Tryz.f3 (OpenSpec.ofChange Rows.serveWordsSpec).bare Rows.serveWordsRow = true :=
  joined_parts (P := Tryz.prog) (by kernel_rfl) g_laid g_maps (by kernel_rfl) g_stops (by kernel_rfl) g_knobs words_reach words_vars (by kernel_rfl) g_heard g_enter (by kernel_rfl)
theorem words_okWide (os : Os) : Input.okWideB Tryz.prog (theWorld os #[.int .i64 0, .int .i64 0]) 3 ⟨#[], #[.int .i64 0, .int .i64 0], []⟩ = true := by kernel_rfl
theorem words_reads (os : Os) {H : Type} (enc : TypeId × Value → H) : DataW.whole enc Tryz.prog (theWorld os #[.int .i64 0, .int .i64 0]).memory Tryz.f3.params.toList (OpenSpec.ofChange Rows.serveWordsSpec).vars false (#[Value.int .i64 0, .int .i64 0] : Array Value).toList 8 = some ([.lit (.int .i64 0), .lit (.int .i64 0)], [], []) := by kernel_rfl
theorem words_sized (os : Os) {H : Type} (enc : TypeId × Value → H) : (OpenSpec.ofChange Rows.serveWordsSpec).bare.sizedB enc Tryz.prog Tryz.f3 false (theWorld os #[.int .i64 0, .int .i64 0]).memory #[.int .i64 0, .int .i64 0] 8 = true := by kernel_rfl
set_option maxRecDepth 100000 in
theorem words_lifted (os : Os) (started : os.Started) (H : Type) (enc : TypeId × Value → H) (F : Stop.Interp) :
    ReturnsInHanded {} Tryz.checked os 3 .any ((OpenSpec.ofChange Rows.serveWordsSpec).preRow enc Tryz.prog Tryz.f3 Rows.serveWordsRow.domain false Rows.serveWordsRow.laid) (((OpenSpec.ofChange Rows.serveWordsSpec).at F).post enc Tryz.prog Tryz.f3 false true false false) := by
  refine returnsInHanded_of_row (C := Tryz.checked) (s := OpenSpec.ofChange Rows.serveWordsSpec) g_own started (by kernel_rfl) Tryz.func3
    (witness_row_atRef (enc := enc) (C := Tryz.checked) false (World.laidAll Tryz.prog os Rows.serveWordsRow.laid) #[.int .i64 0, .int .i64 0] (World.laidAll_os _ _ _) (g_vars os _) (g_heap os _) (words_okWide os)
      (OpenSpec.preRow_of_cond 8 (words_reads os enc) (by kernel_rfl) (fun k hk => by cases hk) (words_sized os enc) (g_met os _))) ?_
  intro W base args ds gs before hval hW _ _ _ hL _ _
  have hW' := hW
  obtain ⟨p, q, hA0, hV, rfl, hfz, hnd⟩ := hW
  have hA : DataW.TrodAll enc Tryz.prog W 0 (fun _ => true) true Tryz.f3.params.toList args.toList ds p := hA0
  rw [Tryz.params3] at hA hval
  obtain ⟨v0, vs0, d0, ds0, p0, q0, hargs, rfl, rfl, h0, r0⟩ := trodAll_cons hA
  obtain ⟨v1, vs1, d1, ds1, p1, q1, rfl, rfl, rfl, h1, r1⟩ := trodAll_cons r0
  obtain ⟨rfl, rfl, rfl⟩ := trodAll_nil r1
  obtain rfl : args = #[v0, v1] := by cases args; simp_all
  obtain ⟨rfl, rfl⟩ := trodVars_none hV
  obtain ⟨a, rfl, rfl, rfl, wa⟩ := open_int Tryz.underlying3 (hval 0 3 v0 rfl rfl) h0
  obtain ⟨b, rfl, rfl, rfl, wb⟩ := open_int Tryz.underlying3 (hval 1 3 v1 rfl rfl) h1
  clear hA0
  simp only [List.append_nil] at hW'
  refine (words_walk a b W).mono fun e W' ⟨he, hg⟩ => ?_
  subst he
  exact ⟨_, rfl, post_of_same (pa := []) (pv := []) hW' (fun _ _ _ => trodAll_cons_mk (shut_bool Tryz.underlying4 _) trodAll_mk0)
    (fun _ _ => trodAll_cons_mk (shut_int Tryz.underlying3 wa) (trodAll_cons_mk (shut_int Tryz.underlying3 wb) trodAll_mk0)) (fun _ _ => rfl) rfl
    (hg.frame _) hg.2.1 (ok_one (by kernel_rfl) rfl (okWide_bool_mk Tryz.underlying4 _))⟩
theorem words_said : Rows.ServeWordsSaid :=
  OpenClaim.holds_of_cond 3 Tryz.f3 rfl rfl rfl rfl rfl rfl rfl ⟨rfl, rfl, rfl, rfl, rfl⟩ rfl rfl rfl rfl rfl words_named Tryz.func3 words_facts
    (of_decide_eq_true (by kernel_rfl)) (by unfold Func.isWrapper; first | (rw [if_pos (by decide +kernel)]; kernel_rfl) | (rw [if_neg (by decide +kernel)]; exact ⟨rfl, rfl⟩))
    (fun os started H enc _ F => by rw [OpenClaim.pre_eq_preRow]; exact words_lifted os started H enc F)
theorem words_row_tie : Rows.serveWordsRow.laidByTextAt .later Tryz.pinned [.sentinel, .sentinel, .data, .data, .data, .pinned, .data] true :=
  OpenClaim.laidByTextAt_pinned rfl rfl the_tie rfl rfl rfl rfl (fun y hy _e => by
    simp only [Rows.serveWordsRow, List.zip_cons_cons, List.zip_nil_right, List.mem_cons, List.mem_nil_iff, or_false] at hy
    rcases hy with rfl | rfl | rfl | rfl | rfl | rfl | rfl
    · cases _e
    · cases _e
    · cases _e
    · cases _e
    · cases _e
    · exact ⟨the_pin, by kernel_rfl⟩
    · cases _e) the_fits
/-- No parameter wants a stand-in; the program's own looks are on. -/
theorem words_plain (f : FuncId) (fn : Func) (hf : Tryz.pinned.checked.prog.funcNamed "seine/seinelaw36.ServeWords" = some f) (hfn : Tryz.pinned.checked.prog.funcs[f]? = some fn) :
    true = Tryz.pinned.checked.prog.looks [] ∧ ∀ (j : Nat) t, fn.params[j]? = some t → Tryz.pinned.checked.prog.wantsStandIn t = false := by
  obtain rfl : f = 3 := Option.some.inj (words_named.symm.trans hf) |>.symm
  obtain rfl : fn = Tryz.f3 := (Option.some.inj (Tryz.func3.symm.trans hfn)).symm
  refine ⟨by kernel_rfl, fun j t ht => ?_⟩
  rw [Tryz.params3] at ht
  have hm : t ∈ [3, 3] := by simpa using Array.mem_of_getElem? ht
  obtain rfl : t = 3 := by simpa using hm
  exact (show Tryz.prog.wantsStandIn 3 = false by kernel_rfl)
/-- ████ THE CARD ████ -/
theorem words_card : Rows.ServeWordsCardSaid :=
  Claim7.holds_tied_plain_at .later [] _ _ _ _ words_said (fun _ h => by cases h) (by kernel_rfl) (fun _ h => by cases h) words_row_tie rfl ⟨rfl, rfl⟩ (by kernel_rfl) rfl words_plain (goes_none g_goes Rows.serveWordsRow rfl)
end Go.Proofs.YtnaobokbalfhkaaGreatDoor
