/- All code, results, deferred calls, recover, whole calls: where the clean run answers, the model answers alike. Conditions: the closed facts of Fit. -/
import Derived.Test.YtnaobokbalfhkaaGreatDoorA5
import Derived.Scope
import GoSem.Extern.BytealgIndexByte
namespace Go.CE
variable {P : Program} {W : Frm} {G : Ghost} {s : St} {w : World} {n : Nat} {a : CAct} {A : Act} {mt : Bool}

def opsFit (n : Nat) (ops : List Oper) : Prop := ∀ o ∈ ops, ∀ d, o.dst = some d → d < n
/-- every operation writes a temporary that there is -/
def codeFit (n : Nat) : Code → Prop
  | .region _ ops _ => opsFit n ops.toList
  | .seq x y => codeFit n x ∧ codeFit n y
  | .cond _ x y => codeFit n x ∧ codeFit n y
  | .block _ b => codeFit n b
  | .loop b => codeFit n b
  | .scope b => codeFit n b
  | _ => True

/-- regions whose order is drawn -/
def DrawSim (P : Program) : Prop := ∀ (W : Frm) (mt : Bool) (call : CallF) (n : Nat) (ops : List Oper) (tab : Tab) (a : CAct) (s : St) (r : CExit × CAct × St) (G : Ghost) (w : World) (A : Act),
  (∀ W, CallOk P W call) → drawOK ops tab = true → opsFit n ops → Rel W G s w → arel G n a A → drawGo P mt call ops tab [] a s = some r → wpAny P .any ⟨ops⟩ (CPost W G n r) ops.length (Array.replicate ops.length false) A w
/-- a variable that the tape sets -/
def HedgeSim (P : Program) : Prop := ∀ (W : Frm) (mt : Bool) (call : CallF) (n : Nat) (ops : List Oper) (a : CAct) (s : St) (a1 a2 : CAct) (s1 s2 : St) (G : Ghost) (w : World) (A : Act),
  CallOk P W call → hedgeOf ops = true → opsFit n ops → Rel W G s w → arel G n a A → hedgeRun P mt call ops a s = some ((a1, s1), (a2, s2)) →
  wpAny P .any ⟨ops⟩ (fun e A' w' => e = .normal ∧ ∃ G', G.le G' ∧ ((Rel W G' s1 w' ∧ arel G' n a1 A') ∨ (Rel W G' s2 w' ∧ arel G' n a2 A'))) ops.length (Array.replicate ops.length false) A w

theorem wp_region_any' {id : Nat} {ops : Array Oper} {Q : Exit → Act → World → Prop} (hm : P.follows .mixedOrders = true)
    (h : wpAny P .any ops Q ops.size (Array.replicate ops.size false) A { w with drawn := w.drawn + 1 }) : (Code.region id ops true).wp P Q A w := wp_region_any hm h

def LoopWp (P : Program) (c : Code) (Q : Exit → Act → World → Prop) (a : Act) (w : World) : Prop :=
  ∀ (b : Frame) (k : List Item) (cs : List Frame), ∃ e a' w', Q e a' w' ∧ Arrives P (lone (b.at a (.code c :: .inLoop c :: k)) cs w) b k cs e a' w'
theorem wp_of_loop {c : Code} {Q : Exit → Act → World → Prop} {a : Act} (h : LoopWp P c Q a w) : (Code.loop c).wp P Q a w := by
  intro b k cs
  obtain ⟨e, a', w', hq, harr⟩ := h b k cs
  exact ⟨e, a', w', hq, .of_steps (.one step_loop) harr⟩
theorem loop_round {c : Code} {Q : Exit → Act → World → Prop} {a : Act} (h : c.wp P (Exit.then (LoopWp P c Q) Q) a w) : LoopWp P c Q a w := by
  intro b k cs
  obtain ⟨e, a₁, w₁, hq, harr⟩ := h b (.inLoop c :: k) cs
  cases e with
  | normal =>
    obtain ⟨e₂, a₂, w₂, hq₂, harr₂⟩ := hq b k cs
    exact ⟨e₂, a₂, w₂, hq₂, .of_steps (Steps.trans harr (.one step_inLoop)) harr₂⟩
  | exit id => exact ⟨_, a₁, w₁, hq, .pass (x := .inLoop c) rfl (fun _ _ => .inl (by simp)) harr⟩
  | goto l => exact ⟨_, a₁, w₁, hq, .pass (x := .inLoop c) rfl (fun _ _ => .inl (by simp)) harr⟩
  | ret => exact ⟨_, a₁, w₁, hq, .pass (x := .inLoop c) rfl (fun _ _ => .inl (by simp)) harr⟩
  | panic ch => exact ⟨_, a₁, w₁, hq, .pass (x := .inLoop c) rfl (fun _ _ => .inl (by simp)) harr⟩
  | outgrown => exact ⟨_, a₁, w₁, hq, .pass (x := .inLoop c) rfl (fun _ _ => .inl (by simp)) harr⟩
theorem LoopWp.mono {c : Code} {Q Q' : Exit → Act → World → Prop} {a : Act} (h : LoopWp P c Q a w) (hq : ∀ e a w, Q e a w → Q' e a w) : LoopWp P c Q' a w :=
  fun b k cs => let ⟨e, a', w', q, r⟩ := h b k cs; ⟨e, a', w', hq _ _ _ q, r⟩

/-- what follows a piece of code -/
theorem then_sim {k : CAct → St → CodeR} {r : CodeR} {res : CExit × CAct × St} (h : thenC k r = some res) {Q : Act → World → Prop}
    (hk : ∀ a' s', r = some (.normal, a', s') → k a' s' = some res → ∀ G' A' w', G.le G' → Rel W G' s' w' → arel G' n a' A' → Q A' w') :
    ∃ r', r = some r' ∧ ∀ e A' w', CPost W G n r' e A' w' → Exit.then Q (CPost W G n res) e A' w' := by
  unfold thenC at h
  split at h
  · rename_i a' s'
    refine ⟨_, rfl, ?_⟩
    rintro e A' w' ⟨G', h1, h2, h3, h4⟩
    cases e <;> simp only [ExOk] at h4
    exact hk a' s' rfl h G' A' w' h1 h2 h3
  · rename_i hne
    refine ⟨res, h, ?_⟩
    intro e A' w' hp
    cases e with
    | normal =>
      obtain ⟨G', h1, h2, h3, h4⟩ := hp
      obtain ⟨ex, a', s'⟩ := res
      cases ex <;> simp only [ExOk] at h4
      exact (hne a' s' h).elim
    | _ => exact hp

theorem bool_eq {a b : Bool} (h : (match a, b with | true, true => true | false, false => true | _, _ => false) = true) : a = b := by
  cases a <;> cases b <;> first | rfl | (simp at h; done)
mutual
theorem cvEq_eq : ∀ {x y : CV}, cvEq x y = true → x = y
  | .bool a, y, h => by
    cases y <;> simp only [cvEq] at h <;> first | (cases h; done) | rw [bool_eq h]
  | .int k a, y, h => by
    cases y <;> simp only [cvEq, Bool.and_eq_true] at h <;> first | (cases h; done) | skip
    obtain ⟨h1, h2⟩ := h
    rw [intEq_eq] at h2
    rw [kindEq_eq h1, eq_of_beq h2]
  | .str a, y, h => by
    cases y <;> simp only [cvEq] at h <;> first | (cases h; done) | (rw [bytesEq_eq] at h; rw [eq_of_beq h])
  | .nilptr, y, h => by cases y <;> simp only [cvEq] at h <;> first | (cases h; done) | rfl
  | .ptr i o, y, h => by
    cases y <;> simp only [cvEq, Bool.and_eq_true] at h <;> first | (cases h; done) | skip
    rw [Nat.eq_of_beq_eq_true h.1, Nat.eq_of_beq_eq_true h.2]
  | .gptr g, y, h => by
    cases y <;> simp only [cvEq] at h <;> first | (cases h; done) | rw [Nat.eq_of_beq_eq_true h]
  | .imm a o, y, h => by
    cases y <;> simp only [cvEq, Bool.and_eq_true] at h <;> first | (cases h; done) | skip
    rw [cvsEq_eq h.1, Nat.eq_of_beq_eq_true h.2]
  | .slice a, y, h => by
    cases y <;> simp only [cvEq] at h <;> first | (cases h; done) | rw [rowsEq_eq h]
  | .bsl i o l, y, h => by
    cases y <;> simp only [cvEq, Bool.and_eq_true] at h <;> first | (cases h; done) | skip
    rw [Nat.eq_of_beq_eq_true h.1.1, Nat.eq_of_beq_eq_true h.1.2, Nat.eq_of_beq_eq_true h.2]
  | .nilmap, y, h => by cases y <;> simp only [cvEq] at h <;> first | (cases h; done) | rfl
  | .map i, y, h => by
    cases y <;> simp only [cvEq] at h <;> first | (cases h; done) | rw [Nat.eq_of_beq_eq_true h]
  | .fn f a, y, h => by
    cases y <;> simp only [cvEq, Bool.and_eq_true] at h <;> first | (cases h; done) | skip
    rw [Nat.eq_of_beq_eq_true h.1, cvsEq_eq h.2]
  | .nilFunc, y, h => by cases y <;> simp only [cvEq] at h <;> first | (cases h; done) | rfl
  | .iface t a, y, h => by
    cases y <;> simp only [cvEq, Bool.and_eq_true] at h <;> first | (cases h; done) | skip
    rw [Nat.eq_of_beq_eq_true h.1, cvEq_eq h.2]
  | .nilIface, y, h => by cases y <;> simp only [cvEq] at h <;> first | (cases h; done) | rfl
  | .agg a, y, h => by
    cases y <;> simp only [cvEq] at h <;> first | (cases h; done) | rw [cvsEq_eq h]
  | .tuple a, y, h => by
    cases y <;> simp only [cvEq] at h <;> first | (cases h; done) | rw [cvsEq_eq h]
  | .unk, y, h => by cases y <;> simp only [cvEq] at h <;> first | (cases h; done) | rfl
theorem cvsEq_eq : ∀ {x y : List CV}, cvsEq x y = true → x = y
  | [], [], _ => rfl
  | [], _ :: _, h => by simp [cvsEq] at h
  | _ :: _, [], h => by simp [cvsEq] at h
  | a :: x, b :: y, h => by
    simp only [cvsEq, Bool.and_eq_true] at h
    rw [cvEq_eq h.1, cvsEq_eq h.2]
theorem rowsEq_eq : ∀ {x y : List (List CV)}, rowsEq x y = true → x = y
  | [], [], _ => rfl
  | [], _ :: _, h => by simp [rowsEq] at h
  | _ :: _, [], h => by simp [rowsEq] at h
  | a :: x, b :: y, h => by
    simp only [rowsEq, Bool.and_eq_true] at h
    rw [cvsEq_eq h.1, rowsEq_eq h.2]
end
theorem shEq_eq {x y : Sh} (h : shEq x y = true) : x = y := by
  cases x <;> cases y <;> simp only [shEq] at h <;> first
    | rfl
    | (cases h; done)
    | (simp only [Bool.and_eq_true] at h; rw [Nat.eq_of_beq_eq_true h.1, Nat.eq_of_beq_eq_true h.2])
theorem shsEq_eq : ∀ {x y : List Sh}, shsEq x y = true → x = y
  | [], [], _ => rfl
  | [], _ :: _, h => by simp [shsEq] at h
  | _ :: _, [], h => by simp [shsEq] at h
  | a :: x, b :: y, h => by
    simp only [shsEq, Bool.and_eq_true] at h
    rw [shEq_eq h.1, shsEq_eq h.2]
theorem tvEq_eq {x y : TV} (h : tvEq x y = true) : x = y := by
  obtain ⟨a, b⟩ := x
  obtain ⟨c, d⟩ := y
  simp only [tvEq, Bool.and_eq_true] at h
  rw [cvEq_eq h.1, shsEq_eq h.2]

theorem meetRow_get : ∀ (x y : List TV) (i : Nat), nth undefC (meetRow x y) i = unkC ∨ (nth undefC (meetRow x y) i = nth undefC x i ∧ nth undefC (meetRow x y) i = nth undefC y i)
  | [], [], i => by simp [meetRow]
  | [], b :: y, 0 => by simp [meetRow, nth]
  | [], b :: y, i + 1 => by
    have := meetRow_get [] y i
    simp only [meetRow, nth]
    rcases this with h | ⟨h1, h2⟩
    · exact .inl h
    · exact .inr ⟨by rw [h1]; exact nth_nil _ _, h2⟩
  | a :: x, [], 0 => by simp [meetRow, nth]
  | a :: x, [], i + 1 => by
    have := meetRow_get x [] i
    simp only [meetRow, nth]
    rcases this with h | ⟨h1, h2⟩
    · exact .inl h
    · exact .inr ⟨h1, by rw [h2]; exact nth_nil _ _⟩
  | a :: x, b :: y, 0 => by
    simp only [meetRow, nth]
    cases h : tvEq a b with
    | true => exact .inr ⟨rfl, tvEq_eq h⟩
    | false => exact .inl rfl
  | a :: x, b :: y, i + 1 => by
    simp only [meetRow, nth]
    exact meetRow_get x y i
theorem meetSlots_get : ∀ (x y : List (List TV)) (i : Nat), nth [] (meetSlots x y) i = meetRow (nth [] x i) (nth [] y i)
  | [], [], i => by simp only [meetSlots, nth_nil, meetRow]
  | [], b :: y, 0 => by simp [meetSlots, nth]
  | [], b :: y, i + 1 => by
    have := meetSlots_get [] y i
    simp only [meetSlots, nth]
    rw [this, nth_nil]
  | a :: x, [], 0 => by simp [meetSlots, nth]
  | a :: x, [], i + 1 => by
    have := meetSlots_get x [] i
    simp only [meetSlots, nth]
    rw [this, nth_nil]
  | a :: x, b :: y, 0 => by simp [meetSlots, nth]
  | a :: x, b :: y, i + 1 => by
    simp only [meetSlots, nth]
    exact meetSlots_get x y i
theorem cellsEq_eq : ∀ {x y : List (CV × Sh)}, cvsEq (x.map (·.1)) (y.map (·.1)) = true → shsEq (x.map (·.2)) (y.map (·.2)) = true → x = y
  | [], [], _, _ => rfl
  | [], _ :: _, h, _ => by simp [cvsEq] at h
  | _ :: _, [], h, _ => by simp [cvsEq] at h
  | (a, b) :: x, (c, d) :: y, h, k => by
    simp only [List.map_cons, cvsEq, shsEq, Bool.and_eq_true] at h k
    rw [cvEq_eq h.1, shEq_eq k.1, cellsEq_eq h.2 k.2]
theorem entriesEq_eq : ∀ {x y : List (CV × CV)}, cvsEq (x.map (·.1)) (y.map (·.1)) = true → cvsEq (x.map (·.2)) (y.map (·.2)) = true → x = y
  | [], [], _, _ => rfl
  | [], _ :: _, h, _ => by simp [cvsEq] at h
  | _ :: _, [], h, _ => by simp [cvsEq] at h
  | (a, b) :: x, (c, d) :: y, h, k => by
    simp only [List.map_cons, cvsEq, Bool.and_eq_true] at h k
    rw [cvEq_eq h.1, cvEq_eq k.1, entriesEq_eq h.2 k.2]
theorem boxEq_eq {x y : Box} (h : boxEq x y = true) : x = y := by
  cases x <;> cases y <;> simp only [boxEq, Bool.and_eq_true] at h <;> first
    | rfl
    | (cases h; done)
    | rw [cellsEq_eq h.1 h.2]
    | rw [entriesEq_eq h.1 h.2]
    | rw [Nat.eq_of_beq_eq_true h.1.1, cellsEq_eq h.1.2 h.2]
theorem boxesEq_eq : ∀ {x y : List (Nat × Box)}, boxesEq x y = true → x = y
  | [], [], _ => rfl
  | [], _ :: _, h => by simp [boxesEq] at h
  | _ :: _, [], h => by simp [boxesEq] at h
  | (i, a) :: x, (j, b) :: y, h => by
    simp only [boxesEq, Bool.and_eq_true] at h
    rw [Nat.eq_of_beq_eq_true h.1.1, boxEq_eq h.1.2, boxesEq_eq h.2]
theorem toksEq_eq : ∀ {x y : List (Nat × (Nat × Nat))}, toksEq x y = true → x = y
  | [], [], _ => rfl
  | [], _ :: _, h => by simp [toksEq] at h
  | _ :: _, [], h => by simp [toksEq] at h
  | (i, (a, c)) :: x, (j, (b, d)) :: y, h => by
    simp only [toksEq, Bool.and_eq_true] at h
    rw [Nat.eq_of_beq_eq_true h.1.1.1, Nat.eq_of_beq_eq_true h.1.1.2, Nat.eq_of_beq_eq_true h.1.2, toksEq_eq h.2]
theorem stEq_eq {x y : St} (h : stEq x y = true) : x = y := by
  obtain ⟨a, b, c, d⟩ := x
  obtain ⟨e, f, g, i⟩ := y
  simp only [stEq, Bool.and_eq_true] at h
  obtain ⟨⟨⟨h1, h2⟩, h3⟩, h4⟩ := h
  rw [boxesEq_eq h1, Nat.eq_of_beq_eq_true h2, toksEq_eq h3, Nat.eq_of_beq_eq_true h4]
theorem both_sim {x y : CodeR} {r : CExit × CAct × St} (h : both x y = some r) :
    ∃ r1 r2, x = some r1 ∧ y = some r2 ∧ ∀ G e A w, CPost W G n r1 e A w ∨ CPost W G n r2 e A w → CPost W G n r e A w := by
  unfold both at h
  split at h
  · rename_i a1 s1 a2 s2
    unfold bothEnd at h
    split at h
    · rename_i hd1 hd2
      split at h
      · rename_i hst
        have hst := stEq_eq hst
        subst hst
        cases h
        refine ⟨_, _, rfl, rfl, ?_⟩
        have slot : ∀ (t : Nat), (Slots.get (meetSlots a1.slots a2.slots) t = unkC) ∨ (Slots.get (meetSlots a1.slots a2.slots) t = a1.slots.get t ∧ Slots.get (meetSlots a1.slots a2.slots) t = a2.slots.get t) := by
          intro t
          have e1 : Slots.get (meetSlots a1.slots a2.slots) t = nth undefC (meetRow (nth [] (a1.slots : List (List TV)) (t / 8)) (nth [] (a2.slots : List (List TV)) (t / 8))) (t % 8) :=
            congrArg (fun r => nth undefC r (t % 8)) (meetSlots_get a1.slots a2.slots (t / 8))
          rw [e1]
          exact meetRow_get _ _ _
        rintro G e A w (⟨G', h1, h2, h3, h4⟩ | ⟨G', h1, h2, h3, h4⟩)
        · refine ⟨G', h1, h2, ⟨h3.size, fun t => ?_, by have := h3.defers; rw [hd1] at this; exact this⟩, h4⟩
          rcases slot t with q | ⟨q, _⟩
          · show tvrel G' (Slots.get (meetSlots a1.slots a2.slots) t) _
            rw [q]; exact unk_rel
          · show tvrel G' (Slots.get (meetSlots a1.slots a2.slots) t) _
            rw [q]; exact h3.slot t
        · refine ⟨G', h1, h2, ⟨h3.size, fun t => ?_, by have := h3.defers; rw [hd2] at this; exact this⟩, h4⟩
          rcases slot t with q | ⟨_, q⟩
          · show tvrel G' (Slots.get (meetSlots a1.slots a2.slots) t) _
            rw [q]; exact unk_rel
          · show tvrel G' (Slots.get (meetSlots a1.slots a2.slots) t) _
            rw [q]; exact h3.slot t
      · cases h
    · cases h
  · cases h
theorem wpAny_mono {ops : Array Oper} {md : Region.Mode} {Q Q' : Exit → Act → World → Prop} (hq : ∀ e a w, Q e a w → Q' e a w) : ∀ (fuel : Nat) (listed : Array Bool) (A : Act) (w : World),
    wpAny P md ops Q fuel listed A w → wpAny P md ops Q' fuel listed A w
  | 0, _, _, _, h => ⟨h.1, hq _ _ _ h.2⟩
  | fuel + 1, listed, A, w, h => by
    refine ⟨fun e => hq _ _ _ (h.1 e), fun i hi => ?_⟩
    have := h.2 i hi
    unfold wpOp at this ⊢
    split at this
    · exact wpAny_mono hq fuel _ _ _ this
    · split at this
      · rename_i hw
        simp only [hw, if_true]
        exact this.imp (fun h => upon_mono (fun a w h => wpAny_mono hq fuel _ a w h) hq h) (fun ⟨h1, a0, w0, h2⟩ => ⟨h1, a0, w0, hq _ _ _ h2⟩)
      · rename_i hw
        simp only [hw]
        exact wpAny_mono hq fuel _ _ _ this

theorem code_sim {call : CallF} (hm : P.follows .mixedOrders = true) (hZ : ZeroOk P) (hD : DrawSim P) (hH : HedgeSim P) {od : List (Nat × Tab)} (hcall : ∀ W, CallOk P W call) {k : Nat} : ∀ (c : Code) {n : Nat} {G : Ghost} {s : St} {w : World} {a : CAct} {A : Act} {r : CExit × CAct × St},
    drawsOk od c = true → codeFit n c → Rel W G s w → arel G n a A → runCode P mt od call k c a s = some r → c.wp P (CPost W G n r) A w
  | .skip, n, G, s, w, a, A, r, ho, _, hr, ha, h => by
    simp only [runCode, Option.some.injEq] at h
    subst h
    exact wp_skip ⟨G, G.le_refl, hr, ha, trivial⟩
  | .label l, n, G, s, w, a, A, r, ho, _, hr, ha, h => by
    simp only [runCode, Option.some.injEq] at h
    subst h
    exact wp_label ⟨G, G.le_refl, hr, ha, trivial⟩
  | .region id ops false, n, G, s, w, a, A, r, ho, hf, hr, ha, h => by
    simp only [runCode] at h
    refine wp_region ?_
    have := ops_sim hZ (hcall _) hf ops.toList 0 G s w a A r rfl hr ha h
    rw [← List.range_eq_range'] at this
    simpa using this
  | .region id ops true, n, G, s, w, a, A, r, ho, hf, hr, ha, h => by
    simp only [runCode] at h
    refine wp_region_any hm ?_
    cases hl : look od id with
    | none => rw [hl] at h; simp [runDraw] at h
    | some tab =>
      rw [hl] at h
      simp only [drawsOk, hl] at ho
      have := hD W mt call n ops.toList tab a s r G { w with drawn := w.drawn + 1 } A hcall ho hf (hr.same_heap rfl rfl rfl) ha h
      simpa using this
  | .seq x y, n, G, s, w, a, A, r, ho, hf, hr, ha, h => by
    simp only [drawsOk, Bool.and_eq_true] at ho
    simp only [runCode] at h
    split at h
    · rename_i ops hh
      cases x <;> simp only [hedgeIn] at hh <;> (try (cases hh; done))
      rename_i id ops' draw
      cases draw <;> simp only [] at hh <;> (try (cases hh; done))
      split at hh
      · rename_i hho
        cases hh
        refine wp_seq (wp_region_any hm ?_)
        cases hrun : hedgeRun P mt call ops'.toList a s with
        | none => rw [hrun] at h; simp [hedgeEnd] at h
        | some q =>
          obtain ⟨⟨a1, s1⟩, ⟨a2, s2⟩⟩ := q
          rw [hrun] at h
          simp only [hedgeEnd] at h
          have hw := hH W mt call n ops'.toList a s a1 a2 s1 s2 G { w with drawn := w.drawn + 1 } A (hcall W) hho hf.1 (hr.same_heap rfl rfl rfl) ha hrun
          have e1 : (⟨ops'.toList⟩ : Array Oper) = ops' := by simp
          rw [e1, Array.length_toList] at hw
          refine wpAny_mono ?_ _ _ _ _ hw
          rintro e A' w' ⟨rfl, G', h1, h2⟩
          obtain ⟨r1, r2, e1, e2, hmeet⟩ := both_sim (W := W) (n := n) h
          rcases h2 with ⟨h2, h3⟩ | ⟨h2, h3⟩
          · exact wp_mono (code_sim hm hZ hD hH hcall y ho.2 hf.2 (h2.kill _) h3 e1) fun e A w hp => (hmeet G' e A w (.inl hp)).le h1
          · exact wp_mono (code_sim hm hZ hD hH hcall y ho.2 hf.2 (h2.kill _) h3 e2) fun e A w hp => (hmeet G' e A w (.inr hp)).le h1
      · cases hh
    · obtain ⟨r', h1, h2⟩ := then_sim (G := G) (W := W) (n := n) h (Q := y.wp P (CPost W G n r)) (fun a' s' _ hk G' A' w' le hr' ha' =>
        wp_mono (code_sim hm hZ hD hH hcall y ho.2 hf.2 hr' ha' hk) fun e A w hp => hp.le le)
      exact wp_seq (wp_mono (code_sim hm hZ hD hH hcall x ho.1 hf.1 hr ha h1) h2)
  | .cond c x y, n, G, s, w, a, A, r, ho, hf, hr, ha, h => by
    simp only [drawsOk, Bool.and_eq_true] at ho
    simp only [runCode] at h
    unfold condC at h
    split at h
    · rename_i v hv
      have hev := (ha.eval hv).rv
      split at h
      · rename_i hb
        rw [hb] at hev
        simp only [vrel] at hev
        exact wp_cond_true hev (code_sim hm hZ hD hH hcall x ho.1 hf.1 hr ha h)
      · rename_i hb
        rw [hb] at hev
        simp only [vrel] at hev
        exact wp_cond_false hev (code_sim hm hZ hD hH hcall y ho.2 hf.2 hr ha h)
      · cases h
    · cases h
  | .block id b, n, G, s, w, a, A, r, ho, hf, hr, ha, h => by
    simp only [drawsOk] at ho
    simp only [runCode] at h
    refine wp_block ?_
    unfold blockC at h
    split at h
    · rename_i i a' s' hb
      refine wp_mono (code_sim hm hZ hD hH hcall b ho hf hr ha hb) ?_
      rintro e A' w' ⟨G', h1, h2, h3, h4⟩
      split at h
      · rename_i hid
        have hid := Nat.eq_of_beq_eq_true hid
        cases h
        cases e <;> simp only [ExOk] at h4
        rename_i j
        subst h4
        simp only [Exit.inBlock, hid, if_true]
        exact ⟨G', h1, h2, h3, trivial⟩
      · rename_i hid
        cases h
        cases e <;> simp only [ExOk] at h4
        rename_i j
        subst h4
        have hne : ¬ (i = id) := fun q => by subst q; simp at hid
        simp only [Exit.inBlock, hne, if_false]
        exact ⟨G', h1, h2, h3, rfl⟩
    · rename_i hne
      refine wp_mono (code_sim hm hZ hD hH hcall b ho hf hr ha h) ?_
      intro e A' w' hp
      cases e with
      | exit j =>
        obtain ⟨G', h1, h2, h3, h4⟩ := hp
        obtain ⟨ex, a', s'⟩ := r
        cases ex <;> simp only [ExOk] at h4
        exact (hne _ _ _ h).elim
      | _ => exact hp
  | .loop b, n, G, s, w, a, A, r, ho, hf, hr, ha, h => by
    simp only [drawsOk] at ho
    simp only [runCode] at h
    refine wp_of_loop ?_
    have : ∀ (m : Nat) (G : Ghost) (s : St) (w : World) (a : CAct) (A : Act), Rel W G s w → arel G n a A → iterate (runCode P mt od call k b) m a s = some r → LoopWp P b (CPost W G n r) A w := by
      intro m
      induction m with
      | zero => intro G s w a A _ _ h; simp [iterate] at h
      | succ m ih =>
        intro G s w a A hr ha h
        simp only [iterate] at h
        obtain ⟨r', h1, h2⟩ := then_sim (G := G) (W := W) (n := n) h (Q := LoopWp P b (CPost W G n r)) (fun a' s' _ hk G' A' w' le hr' ha' =>
          (ih G' s' w' a' A' hr' ha' hk).mono fun e A w hp => hp.le le)
        exact loop_round (wp_mono (code_sim hm hZ hD hH hcall b ho hf hr ha h1) h2)
    exact this _ _ _ _ _ _ hr ha h
  | .exit id, n, G, s, w, a, A, r, ho, _, hr, ha, h => by
    simp only [runCode, Option.some.injEq] at h
    subst h
    exact wp_exit ⟨G, G.le_refl, hr, ha, rfl⟩
  | .scope b, n, G, s, w, a, A, r, ho, hf, hr, ha, h => by
    simp only [drawsOk] at ho
    simp only [runCode] at h
    refine wp_scope_straight ?_
    unfold scopeC at h
    split at h
    · cases h
    · rename_i hne
      refine wp_mono (code_sim hm hZ hD hH hcall b ho hf hr ha h) ?_
      intro e A' w' hp
      cases e with
      | goto l =>
        obtain ⟨G', h1, h2, h3, h4⟩ := hp
        obtain ⟨ex, a', s'⟩ := r
        cases ex <;> simp only [ExOk] at h4
        exact (hne _ _ _ h).elim
      | _ => exact hp
  | .goto l, n, G, s, w, a, A, r, ho, _, hr, ha, h => by
    simp only [runCode, Option.some.injEq] at h
    subst h
    exact wp_goto ⟨G, G.le_refl, hr, ha, rfl⟩
  | .ret, n, G, s, w, a, A, r, ho, _, hr, ha, h => by
    simp only [runCode, Option.some.injEq] at h
    subst h
    exact wp_ret ⟨G, G.le_refl, hr, ha, trivial⟩
  | .rangeFunc _ _ _ _, n, G, s, w, a, A, r, ho, _, hr, ha, h => by simp [runCode] at h
  | .refuse _, n, G, s, w, a, A, r, ho, _, hr, ha, h => by simp [runCode] at h
end Go.CE

namespace Go.CE
variable {P : Program} {W : Frm} {G : Ghost} {s : St} {w : World} {n : Nat} {a : CAct} {A : Act} {mt : Bool}

/-! results -/
def resOf (A : Act) : ResultVar → Sem Value
  | .tmp t => pure (A.tmps.getD t undef)
  | .cell p t => do loadVar t (← asAddr (A.tmps.getD p undef))
theorem results_eq (fn : Func) (A : Act) : results fn A.tmps = (do
    let vs ← fn.results.mapM (resOf A)
    pure (if h : vs.size = 1 then vs[0] else .tuple vs)) := by
  unfold results
  congr 1
theorem resultsC_sim (r : Rel W G s w) (ha : arel G n a A) : ∀ {l : List ResultVar} {xs : List TV}, resultsC P a s l = some xs →
    ∃ vs : List Value, (l.mapM (resOf A)).run P w = .ok vs w ∧ tvrels G xs vs
  | [], xs, h => by
    simp only [resultsC, Option.some.injEq] at h
    subst h
    exact ⟨[], by simp, rfl⟩
  | .tmp t :: l, xs, h => by
    simp only [resultsC] at h
    split at h
    · rename_i l' hl
      cases h
      obtain ⟨vs, h1, h2⟩ := resultsC_sim r ha hl
      exact ⟨A.tmps.getD t undef :: vs, by simp [List.mapM_cons, h1, resOf], _, _, rfl, ha.slot t, h2⟩
    · cases h
  | .cell p t :: l, xs, h => by
    simp only [resultsC] at h
    split at h
    · rename_i x hx
      split at h
      · rename_i l' hl
        cases h
        obtain ⟨vs, h1, h2⟩ := resultsC_sim r ha hl
        obtain ⟨v, ad, h3, h4, h5⟩ := loadC_sim (P := P) r (ha.slot p).rv hx
        refine ⟨v :: vs, ?_, _, _, rfl, h5, h2⟩
        rw [List.mapM_cons]
        simp only [Sem.run_bind, resOf, h3, asAddr, Sem.run_pure, Result.andThen_ok, h4, h1]
      · cases h
    · cases h
theorem resultC_sim (r : Rel W G s w) (ha : arel G n a A) {fn : Func} {x : TV} (h : resultC P fn a s = some x) : ∃ v, (results fn A.tmps).run P w = .ok v w ∧ tvrel G x v := by
  unfold resultC at h
  have key : ∀ xs, resultsC P a s fn.results.toList = some xs → ∃ vs : List Value, (results fn A.tmps).run P w = .ok (if h : vs.toArray.size = 1 then vs.toArray[0] else .tuple vs.toArray) w ∧ tvrels G xs vs := by
    intro xs hxs
    obtain ⟨vs, h1, h2⟩ := resultsC_sim (P := P) r ha hxs
    refine ⟨vs, ?_, h2⟩
    rw [results_eq, Array.mapM_eq_mapM_toList]
    simp only [Sem.run_bind, Sem.run_map, h1, Result.andThen_ok, Sem.run_pure]
  split at h
  · rename_i y hy
    obtain ⟨vs, h1, v, t, rfl, h2, h3⟩ := key _ hy
    have : t = [] := h3
    subst this
    cases h
    exact ⟨v, by simpa using h1, h2⟩
  · rename_i l hne hl
    obtain ⟨vs, h1, h2⟩ := key _ hl
    cases h
    refine ⟨.tuple vs.toArray, ?_, plain_rel ?_⟩
    · have hlen := tvrels_length h2
      have : ¬ (vs.toArray.size = 1) := by
        intro q
        simp only [List.size_toArray] at q
        cases l with
        | nil => simp only [List.length_nil] at hlen; omega
        | cons y ys =>
          cases ys with
          | nil => exact hne y rfl
          | cons _ _ => simp only [List.length_cons] at hlen; omega
      rw [h1]
      simp only [this, dite_false]
    · simp only [vrel]
      exact ⟨vs, rfl, vrels_of_tv h2⟩
  · cases h

/-! deferred calls -/
def panRel (G : Ghost) : Option CV → FrameMode → Prop
  | none, u => u = .returning
  | some c, u => ∃ v, u = .panicking [{ v, recovered := false }] ∧ vrel G c v
theorem panRel.mono {G G' : Ghost} (le : G.le G') {p : Option CV} {u : FrameMode} (h : panRel G p u) : panRel G' p u := by
  cases p with
  | none => exact h
  | some c => obtain ⟨v, h1, h2⟩ := h; exact ⟨v, h1, vrel_mono le _ _ h2⟩
/-- a deferred call: it returns; what was on its way is recovered, or not -/
def DPost (W : Frm) (G : Ghost) (s' : St) (took : Bool) (u : FrameMode) : Ending → FrameMode → World → Prop
  | .returned _, u', w' => (∃ G', G.le G' ∧ Rel W G' s' w') ∧ settle u' = (if took then .returning else u)
  | _, _, _ => False
def CallDOk (P : Program) (W : Frm) (d : CallD) : Prop :=
  ∀ f targs pan s cr took s', d f targs pan s = some (cr, took, s') → ∀ G w (vargs : Array Value) u, Rel W G s w → tvrels G targs vargs.toList → panRel G pan u →
    (∃ x, cr = .ret x) ∧ (callFunc f vargs).run P w = .ok (.enter f vargs) w ∧ CallsD P f vargs u w (DPost W G s' took u)

theorem EndOk.le {G G' : Ghost} {cr : CRes} {s' : St} {e : Ending} {w : World} (h : EndOk W G' cr s' e w) (le : G.le G') : EndOk W G cr s' e w := by
  cases e with
  | returned v => obtain ⟨G2, h1, h2⟩ := h; exact ⟨G2, Ghost.le_trans le h1, h2⟩
  | panicked c => obtain ⟨G2, h1, h2⟩ := h; exact ⟨G2, Ghost.le_trans le h1, h2⟩
  | outgrown => exact h
theorem Leaves.mono {fn : Func} {tmps : Array Value} {R R' : Ending → World → Prop} (hr : ∀ e w, R e w → R' e w) : ∀ (ds : List Deferred) (u : FrameMode) (w : World), Leaves P fn tmps R ds u w → Leaves P fn tmps R' ds u w
  | [], .returning, w, h => by obtain ⟨v, h1, h2⟩ := h; exact ⟨v, h1, hr _ _ h2⟩
  | [], .panicking c, w, h => hr _ _ h
  | [], .run, w, h => h.elim
  | d :: ds, u, w, h => by
    obtain ⟨h1, fv, cap, f, args, h2, h3, h4⟩ := h
    refine ⟨h1, fv, cap, f, args, h2, h3, h4.mono fun e u' w' he => ?_⟩
    cases e with
    | returned v => exact Leaves.mono hr ds _ _ he
    | panicked c => exact Leaves.mono hr ds _ _ he
    | outgrown => exact hr _ _ he

theorem finish_sim {d : CallD} (hd : CallDOk P W d) {fn : Func} : ∀ (ds : List (FuncId × List TV)) (pan : Option CV) (G : Ghost) (s : St) (w : World) (a : CAct) (A : Act) (Ads : List Deferred) (u : FrameMode) (cr : CRes) (s' : St),
    Rel W G s w → arel G n a A → dsrel G ds Ads → panRel G pan u → finishC P d fn a ds pan s = some (cr, s') → Leaves P fn A.tmps (EndOk W G cr s') Ads u w
  | [], some c, G, s, w, a, A, Ads, u, cr, s', hr, ha, hds, hp, h => by
    have : Ads = [] := hds
    subst this
    obtain ⟨v, rfl, hv⟩ := hp
    simp only [finishC, Option.some.injEq, Prod.mk.injEq] at h
    obtain ⟨rfl, rfl⟩ := h
    exact ⟨G, G.le_refl, hr, c, v, rfl, rfl, hv⟩
  | [], none, G, s, w, a, A, Ads, u, cr, s', hr, ha, hds, hp, h => by
    have : Ads = [] := hds
    subst this
    have : u = .returning := hp
    subst this
    simp only [finishC] at h
    split at h
    · rename_i x hx
      cases h
      obtain ⟨v, h1, h2⟩ := resultC_sim hr ha hx
      exact ⟨v, h1, G, G.le_refl, hr, x, rfl, h2⟩
    · cases h
  | (f, args) :: ds, pan, G, s, w, a, A, Ads, u, cr, s', hr, ha, hds, hp, h => by
    obtain ⟨dd, t, rfl, ⟨cap, dargs, rfl, h2⟩, h3⟩ := hds
    simp only [finishC] at h
    split at h
    · rename_i x took s1 hc
      obtain ⟨_, e1, e2⟩ := hd _ _ _ _ _ _ _ hc G w (dargs ++ cap) u hr (by simpa using h2) hp
      have hu : u ≠ .run := by
        cases pan with
        | none => have : u = .returning := hp; rw [this]; simp
        | some c => obtain ⟨v, rfl, _⟩ := hp; simp
      refine leaves_cons hu (f := f) (args := dargs ++ cap) (by simpa [invoke] using e1) (e2.mono ?_)
      intro e u' w' he
      cases e with
      | returned v =>
        obtain ⟨⟨G', q1, q2⟩, q3⟩ := he
        show Leaves P fn A.tmps (EndOk W G cr s') t (settle u') w'
        rw [q3]
        refine Leaves.mono (fun e w h => EndOk.le h q1) _ _ _ ?_
        cases took with
        | true => exact finish_sim hd ds none G' s1 w' a A t _ cr s' q2 (ha.mono q1) (dsrel_mono q1 h3) rfl h
        | false => exact finish_sim hd ds pan G' s1 w' a A t _ cr s' q2 (ha.mono q1) (dsrel_mono q1 h3) (hp.mono q1) h
      | panicked c => exact he.elim
      | outgrown => exact he.elim
    · cases h
end Go.CE

namespace Go.CE
variable {P : Program} {W : Frm} {G : Ghost} {s : St} {w : World} {n : Nat} {a : CAct} {A : Act} {mt : Bool}

/-- what the clean run leans on, of the program -/
structure Fit (P : Program) (O : Opts) : Prop where
  mixed : P.follows .mixedOrders = true
  zero : ZeroOk P
  name : ∀ (f : FuncId) (fn : Func) (c : Code), P.funcs[f]? = some fn → fn.body = some c → (fn.name == "runtime.NumGoroutine") = false
  fit : ∀ (f : FuncId) (fn : Func) (c : Code), P.funcs[f]? = some fn → fn.body = some c → codeFit fn.ntmps c
  draws : ∀ (f : FuncId) (fn : Func) (c : Code), P.funcs[f]? = some fn → fn.body = some c → drawsOk (O.od f) c = true
  draw : DrawSim P
  hedge : HedgeSim P
  prim : ∀ f k args s cr s', O.prim f = k + 1 → primR O (k + 1) args s = some (cr, s') → ∀ W G w (vargs : Array Value), Rel W G s w → tvrels G args vargs.toList → InvOk P W G cr s' ((callFunc f vargs).run P w)

theorem run_callFunc {f : FuncId} {fn : Func} {c : Code} {vargs : Array Value} (hf : P.funcs[f]? = some fn) (hb : fn.body = some c) (hn : (fn.name == "runtime.NumGoroutine") = false) :
    (callFunc f vargs).run P w = .ok (.enter f vargs) w := by
  have hn' : ¬ fn.name = "runtime.NumGoroutine" := by simpa using hn
  simp [callFunc, hf, hb, hn']

theorem codeFit_le {n m : Nat} (h : n ≤ m) (c : Code) (hc : codeFit n c) : codeFit m c := by
  induction c with
  | region _ ops _ => exact fun o ho d hd => Nat.lt_of_lt_of_le (hc o ho d hd) h
  | seq x y ih1 ih2 => exact ⟨ih1 hc.1, ih2 hc.2⟩
  | cond _ x y ih1 ih2 => exact ⟨ih1 hc.1, ih2 hc.2⟩
  | block _ b ih => exact ih hc
  | loop b ih => exact ih hc
  | scope b ih => exact ih hc
  | _ => trivial

theorem ofArgs_get : ∀ (xs : List TV) (i : Nat) (l : Slots) (t : Nat), (Slots.ofArgs xs i l).get t = if i ≤ t ∧ t < i + xs.length then (xs[t - i]?).getD undefC else l.get t
  | [], i, l, t => by
    have : ¬ (i ≤ t ∧ t < i + ([] : List TV).length) := by simp only [List.length_nil]; omega
    simp only [this, if_false]
    rfl
  | x :: xs, i, l, t => by
    simp only [Slots.ofArgs]
    rw [ofArgs_get xs (i + 1) (l.put i x) t, get_put]
    simp only [List.length_cons]
    by_cases e : t = i
    · subst e
      have h1 : ¬ (t + 1 ≤ t ∧ t < t + 1 + xs.length) := by omega
      have h2 : t ≤ t ∧ t < t + (xs.length + 1) := by omega
      simp [h1, h2]
    · by_cases k : i ≤ t ∧ t < i + (xs.length + 1)
      · have h1 : i + 1 ≤ t ∧ t < i + 1 + xs.length := by omega
        obtain ⟨q, hq⟩ : ∃ q, t - i = q + 1 := ⟨t - i - 1, by omega⟩
        have hq' : t - (i + 1) = q := by omega
        simp only [h1, k, and_self, if_true, hq, hq', List.getElem?_cons_succ]
      · have h1 : ¬ (i + 1 ≤ t ∧ t < i + 1 + xs.length) := by omega
        simp only [h1, k, e, if_false]
theorem tvrels_get : ∀ {xs : List TV} {l : List Value}, tvrels G xs l → ∀ (t : Nat) x, xs[t]? = some x → ∃ v : Value, l[t]? = some v ∧ tvrel G x v
  | [], _, _, t, x, h => by simp at h
  | y :: xs, _, ⟨v, r, rfl, h2, h3⟩, 0, x, h => by simp at h; subst h; exact ⟨v, by simp, h2⟩
  | y :: xs, _, ⟨v, r, rfl, h2, h3⟩, t + 1, x, h => by simpa using tvrels_get h3 t x (by simpa using h)
theorem start_rel {args : List TV} {vargs : Array Value} (h : tvrels G args vargs.toList) (k : Nat) :
    arel G (vargs ++ Array.replicate k undef).size (start args) { tmps := vargs ++ Array.replicate k undef, defers := [] } := by
  refine ⟨rfl, fun t => ?_, rfl⟩
  have hst : (start args).slots.get t = if 0 ≤ t ∧ t < 0 + args.length then (args[t - 0]?).getD undefC else Slots.get ([] : List (List TV)) t := ofArgs_get args 0 _ t
  rw [hst]
  have hlen := tvrels_length h
  simp only [Array.length_toList] at hlen
  have hg : Slots.get ([] : List (List TV)) t = undefC := by
    show nth undefC (nth ([] : List TV) ([] : List (List TV)) (t / 8)) (t % 8) = undefC
    rw [nth_nil, nth_nil]
  split
  · rename_i k'
    have hlt : t < args.length := by omega
    have : args[t]? = some args[t] := by simp [hlt]
    obtain ⟨v, h1, h2⟩ := tvrels_get h t _ this
    have hv : (vargs ++ Array.replicate k undef).getD t undef = v := by
      rw [Array.getD_eq_getD_getElem?, Array.getElem?_append_left (by omega)]
      rw [Array.getElem?_toList] at h1
      rw [h1]
      rfl
    rw [hv]
    simpa [this] using h2
  · rename_i k'
    have hv : (vargs ++ Array.replicate k undef).getD t undef = undef := by
      rw [Array.getD_eq_getD_getElem?, Array.getElem?_append_right (by omega)]
      rw [Array.getElem?_replicate]
      split <;> rfl
    rw [hv]
    exact (show tvrel G (Slots.get ([] : List (List TV)) t) undef by rw [hg]; exact undef_rel)

theorem Rel.cutC (r : Rel W G s w) (s0 : St) (keep : Bool) : Rel W G (CE.cutC s0 keep s) w := by
  unfold CE.cutC
  split
  · exact r
  · exact r.cut _
theorem EndOk.cut {cr : CRes} {s' s0 : St} {keep : Bool} {e : Ending} {w : World} (h : EndOk W G cr s' e w) : EndOk W G cr (cutC s0 keep s') e w := by
  cases e with
  | returned v => obtain ⟨G2, h1, h2, h3⟩ := h; exact ⟨G2, h1, h2.cutC _ _, h3⟩
  | panicked c => obtain ⟨G2, h1, h2, h3⟩ := h; exact ⟨G2, h1, h2.cutC _ _, h3⟩
  | outgrown => exact h

theorem body_sim {O : Opts} (F : Fit P O) {d : CallD} {call : CallF} (hd : CallDOk P W d) (hc : ∀ W, CallOk P W call) {k : Nat} {f : FuncId} {fn : Func} {args : List TV} {cr : CRes} {s' : St}
    (hf : P.funcs[f]? = some fn) (h : bodyC P O d call k f fn args s fn.body = some (cr, s')) {vargs : Array Value} (hr : Rel W G s w) (hx : tvrels G args vargs.toList) :
    InvOk P W G cr s' ((callFunc f vargs).run P w) := by
  cases hb : fn.body with
  | none => rw [hb] at h; simp [bodyC] at h
  | some c =>
    rw [hb] at h
    simp only [bodyC] at h
    refine .inr ⟨f, vargs, w, run_callFunc hf hb (F.name f fn c hf hb), calls_of_wp_defers hf hb ?_⟩
    have ha := start_rel hx (fn.ntmps - vargs.size)
    have hfit : codeFit (vargs ++ Array.replicate (fn.ntmps - vargs.size) undef).size c := codeFit_le (by simp; omega) c (F.fit f fn c hf hb)
    have fin : ∀ {a : CAct} {s1 : St} {pan : Option CV} {G' : Ghost} {A : Act} {w' : World} {u : FrameMode}, cutR s (O.keep f) (finishC P d fn a a.defers pan s1) = some (cr, s') → G.le G' → Rel W G' s1 w' →
        arel G' (vargs ++ Array.replicate (fn.ntmps - vargs.size) undef).size a A → panRel G' pan u → Leaves P fn A.tmps (EndOk W G cr s') A.defers u w' := by
      intro a s1 pan G' A w' u h1 le hr' ha' hp
      unfold cutR at h1
      split at h1
      · rename_i cr' s2 h2
        cases h1
        exact Leaves.mono (fun e w h => (EndOk.le h le).cut) _ _ _ (finish_sim hd a.defers pan G' s1 w' a A A.defers u cr s2 hr' ha' ha'.defers hp h2)
      · cases h1
    unfold endC at h
    split at h
    · rename_i a s1 hrun
      refine wp_mono (code_sim F.mixed F.zero F.draw F.hedge hc c (F.draws f fn c hf hb) hfit hr ha hrun) ?_
      rintro e A' w' ⟨G', h1, h2, h3, h4⟩
      cases e <;> simp only [ExOk] at h4
      exact fin h h1 h2 h3 rfl
    · rename_i a s1 hrun
      refine wp_mono (code_sim F.mixed F.zero F.draw F.hedge hc c (F.draws f fn c hf hb) hfit hr ha hrun) ?_
      rintro e A' w' ⟨G', h1, h2, h3, h4⟩
      cases e <;> simp only [ExOk] at h4
      exact fin h h1 h2 h3 rfl
    · rename_i v a s1 hrun
      refine wp_mono (code_sim F.mixed F.zero F.draw F.hedge hc c (F.draws f fn c hf hb) hfit hr ha hrun) ?_
      rintro e A' w' ⟨G', h1, h2, h3, h4⟩
      cases e <;> simp only [ExOk] at h4
      obtain ⟨v', rfl, h5⟩ := h4
      exact fin h h1 h2 h3 ⟨v', rfl, h5⟩
    · cases h

theorem wpOpsS_mono {ops : Array Oper} {Q Q' : Exit → Act → List Frame → World → Prop} (hq : ∀ e a cs w, Q e a cs w → Q' e a cs w) : ∀ (l : List Nat) (A : Act) (cs : List Frame) (w : World), wpOpsS P ops Q l A cs w → wpOpsS P ops Q' l A cs w
  | [], _, _, _, h => hq _ _ _ _ h
  | i :: l, A, cs, w, h => by
    simp only [wpOpsS] at h ⊢
    split at h
    · exact wpOpsS_mono hq l _ _ _ h
    · split at h
      · rename_i hw
        simp only [hw, if_true]
        split at h
        · rename_i w' hrec
          split at h
          · exact wpOpsS_mono hq l _ _ _ h
          · exact wpOpsS_mono hq l _ _ _ h
        · exact upon_mono (fun a w h => wpOpsS_mono hq l a cs w h) (fun e a w h => hq e a cs w h) h
      · rename_i hw
        simp only [hw]
        exact wpOpsS_mono hq l _ _ _ h
theorem opsS_sim {call : CallF} (hZ : ZeroOk P) (hcall : CallOk P W call) {ops : List Oper} (hfit : ∀ o ∈ ops, ∀ d, o.dst = some d → d < n) (cs : List Frame) :
    ∀ (rest : List Oper) (i : Nat) (G : Ghost) (s : St) (w : World) (a : CAct) (A : Act) (r : CExit × CAct × St), rest = ops.drop i → Rel W G s w → arel G n a A → runOps P mt call ops rest a s = some r →
      wpOpsS P ⟨ops⟩ (fun e A cs' w => cs' = cs ∧ CPost W G n r e A w) (List.range' i rest.length) A cs w
  | [], i, G, s, w, a, A, r, _, hr, ha, h => by
    simp only [runOps, Option.some.injEq] at h
    subst h
    exact ⟨rfl, G, G.le_refl, hr, ha, trivial⟩
  | o :: rest, i, G, s, w, a, A, r, hrest, hr, ha, h => by
    simp only [runOps] at h
    have hi : ops[i]? = some o := by
      have : (ops.drop i)[0]? = some o := by rw [← hrest]; rfl
      simpa using this
    have hrest' : rest = ops.drop (i + 1) := by
      rw [← List.tail_drop, ← hrest]
      rfl
    have ho : o ∈ ops := List.mem_of_getElem? hi
    simp only [List.length_cons, List.range'_succ]
    rw [wpOpsS]
    simp only [List.getElem?_toArray, hi]
    have key := step_sim (mt := mt) hZ hcall hr ha (o := o) (ops := ops) (hfit o ho)
      (next := fun A w => wpOpsS P ⟨ops⟩ (fun e A cs' w => cs' = cs ∧ CPost W G n r e A w) (List.range' (i + 1) rest.length) A cs w) (Q := fun e A w => True ∧ CPost W G n r e A w) ?_ ?_ ?_
    · split
      · rename_i hw
        rw [if_pos hw] at key
        unfold Oper.wp at key
        split
        · rename_i w' hrec
          rw [hrec] at key
          exact key.elim
        · exact key
      · rename_i hw
        rw [if_neg hw] at key
        exact key
    · intro a' s' hs G' A' w' h1 h2 h3
      rw [hs] at h
      have ih := opsS_sim hZ hcall hfit cs rest (i + 1) G' s' w' a' A' r hrest' h2 h3 h
      exact wpOpsS_mono (fun e A cs' w h => ⟨h.1, h.2.le h1⟩) _ _ _ _ ih
    · intro c s' hs G' w' v h1 h2 h3
      rw [hs] at h
      simp only [goOn, Option.some.injEq] at h
      subst h
      exact ⟨trivial, G', h1, h2, ha.mono h1, v, rfl, h3⟩
    · intro hs
      rw [hs] at h
      simp [goOn] at h
end Go.CE

namespace Go.CE
variable {P : Program} {W : Frm} {G : Ghost} {s : St} {w : World} {n : Nat} {a : CAct} {A : Act} {mt : Bool}

theorem postS {fn : Func} (hres : fn.results = ⟨[]⟩) {c₀ : Frame} {cs : List Frame} {u u' : FrameMode} {s0 s1 : St} {keep took : Bool} {ex : CExit} {a : CAct} (hex : ex = .normal ∨ ex = .ret) (hdef : a.defers = [])
    (hu : settle u' = if took then .returning else u) {e : Exit} {A : Act} {w : World} (h : CPost W G n (ex, a, s1) e A w) :
    bodyPostS P fn c₀ cs (DPost W G (cutC s0 keep s1) took u) e A ({ c₀ with mode := u' } :: cs) w := by
  obtain ⟨G', h1, h2, h3, h4⟩ := h
  have hd : A.defers = [] := by have := h3.defers; rw [hdef] at this; exact this
  have hr : (results fn A.tmps).run P w = .ok (.tuple #[]) w := by simp [results, hres]
  have hR : DPost W G (cutC s0 keep s1) took u (.returned (.tuple #[])) u' w := ⟨⟨G', h1, h2.cutC _ _⟩, hu⟩
  rcases hex with rfl | rfl
  · cases e <;> simp only [ExOk] at h4
    exact ⟨hd, u', rfl, _, hr, hR⟩
  · cases e <;> simp only [ExOk] at h4
    exact ⟨hd, u', rfl, _, hr, hR⟩

theorem isRec_run {o : Oper} (h : isRec o = true) : (execOp A.eval o).run P w = .ok .recover w := by
  unfold isRec at h
  split at h
  · rename_i cl hcl
    split at h
    · rename_i hb
      obtain ⟨consts, hrun⟩ := sim_builtin_run (P := P) (w := w) (A := A) hcl hb
      rw [hrun]
      rfl
    · cases h
  · cases h

theorem callD_ok {O : Opts} (F : Fit P O) {k : Nat} (hc : ∀ W, CallOk P W (callF P O k)) : CallDOk P W (callD P O (k + 1)) := by
  intro f targs pan s cr took s' h G w vargs u hr hx hp
  rw [callD] at h
  split at h
  · rename_i fn hf
    split at h
    · rename_i hres
      cases hb : fn.body with
      | none => rw [hb] at h; simp [deferBody, deferEnd] at h
      | some body =>
      rw [hb] at h
      have hcf := run_callFunc (P := P) (w := w) (vargs := vargs) hf hb (F.name f fn body hf hb)
      have ha := start_rel hx (fn.ntmps - vargs.size)
      have hfit : codeFit (vargs ++ Array.replicate (fn.ntmps - vargs.size) undef).size body := codeFit_le (by simp; omega) body (F.fit f fn body hf hb)
      have hdr0 := F.draws f fn body hf hb
      unfold deferBody at h
      split at h
      · rename_i id o os c hbody
        cases hbody
        have hdr : drawsOk (O.od f) c = true := by simpa [drawsOk] using hdr0
        split at h
        · rename_i hrec hg
          have done : ∀ {ex a1 s1}, thenC (runCode P (O.mt f) (O.od f) (callF P O k) k c) (runOps P (O.mt f) (callF P O k) (o :: os) os ((start targs).put o.dst (plain (recovers pan).1)) s) = some (ex, a1, s1) → (ex = .normal ∨ ex = .ret) → a1.defers = [] →
              s' = cutC s (O.keep f) s1 → took = (recovers pan).2 → CallsD P f vargs u w (DPost W G s' took u) := by
            intro ex a1 s1 hrun hex hdef hs' htook
            subst hs'
            refine callsD_of_wpS hf hb ?_
            intro c₀ cs hc0
            -- what recover leaves
            have hrecov : ∃ (u' : FrameMode) (v : Value), vrel G (recovers pan).1 v ∧ settle u' = (if took then .returning else u) ∧
                (match recoverD (c₀ :: cs) with | some (v', cs') => v' = v ∧ cs' = { c₀ with mode := u' } :: cs | none => v = .nilIface ∧ c₀ :: cs = { c₀ with mode := u' } :: cs) := by
              cases pan with
              | none =>
                have hu : u = .returning := hp
                subst hu
                refine ⟨.returning, .nilIface, by simp [recovers, vrel], by rw [htook]; rfl, ?_⟩
                have : recoverD (c₀ :: cs) = none := by simp [recoverD, hc0]
                rw [this]
                refine ⟨rfl, ?_⟩
                rw [← hc0]
              | some cv =>
                obtain ⟨v, rfl, hv⟩ := hp
                refine ⟨.panicking [{ v, recovered := true }], v, hv, by rw [htook]; rfl, ?_⟩
                have : recoverD (c₀ :: cs) = some (v, { c₀ with mode := .panicking [{ v, recovered := true }] } :: cs) := by simp [recoverD, hc0]
                rw [this]
                exact ⟨rfl, rfl⟩
            obtain ⟨u', v, hv, hset, hmatch⟩ := hrecov
            have hd : ∀ d, o.dst = some d → d < (vargs ++ Array.replicate (fn.ntmps - vargs.size) undef).size := hfit.1 o (by simp)
            have ha1 := ha.put (dst := o.dst) hd (plain_rel hv)
            obtain ⟨r', e1, e2⟩ := then_sim (G := G) (W := W) (n := (vargs ++ Array.replicate (fn.ntmps - vargs.size) undef).size) hrun
              (Q := c.wp P (CPost W G (vargs ++ Array.replicate (fn.ntmps - vargs.size) undef).size (ex, a1, s1))) (fun a' s' _ hk G' A' w' le hr' ha' =>
              wp_mono (code_sim F.mixed F.zero F.draw F.hedge hc c hdr hfit.2 hr' ha' hk) fun e A w hp => hp.le le)
            have hS := opsS_sim F.zero (hc W) (ops := o :: os) hfit.1 ({ c₀ with mode := u' } :: cs) os 1 G s w _ _ r' rfl hr ha1 e1
            refine wpS_seq (wpS_region ?_)
            have hsz : List.range (⟨o :: os⟩ : Array Oper).size = 0 :: List.range' 1 os.length := by
              simp [List.range_eq_range', List.range'_succ]
            rw [hsz, wpOpsS]
            have h0 : (⟨o :: os⟩ : Array Oper)[0]? = some o := by simp
            rw [h0]
            have hw : ∀ y, Region.wanted o y = true := fun y => by simp [Region.wanted, hg]
            simp only [hw, if_true, isRec_run hrec]
            have fin : wpOpsS P ⟨o :: os⟩ (Exit.thenS (c.wpS P (bodyPostS P fn c₀ cs (DPost W G (cutC s (O.keep f) s1) took u))) (bodyPostS P fn c₀ cs (DPost W G (cutC s (O.keep f) s1) took u))) (List.range' 1 os.length)
                (Act.put { tmps := vargs ++ Array.replicate (fn.ntmps - vargs.size) undef, defers := [] } o.dst v) ({ c₀ with mode := u' } :: cs) w := by
              refine wpOpsS_mono ?_ _ _ _ _ hS
              rintro e A' cs' w' ⟨rfl, hp'⟩
              have := e2 e A' w' hp'
              cases e with
              | normal => exact wpS_of_wp (wp_mono this fun e A w hq => postS hres hex hdef hset hq)
              | _ =>
                have hq := postS (P := P) (c₀ := c₀) (cs := cs) (s0 := s) (keep := O.keep f) hres hex hdef hset this
                exact hq
            revert hmatch
            cases recoverD (c₀ :: cs) with
            | none =>
              rintro ⟨rfl, h2⟩
              simp only
              rw [h2]
              exact fin
            | some q =>
              obtain ⟨v', cs'⟩ := q
              rintro ⟨rfl, rfl⟩
              exact fin
          cases hthen : thenC (runCode P (O.mt f) (O.od f) (callF P O k) k c) (runOps P (O.mt f) (callF P O k) (o :: os) os ((start targs).put o.dst (plain (recovers pan).1)) s) with
          | none => rw [hthen] at h; simp [deferEnd] at h
          | some q =>
            obtain ⟨ex, a1, s1⟩ := q
            rw [hthen] at h
            cases ex <;> simp only [deferEnd] at h <;> (try (cases h; done))
            · split at h
              · rename_i hdef
                cases h
                exact ⟨⟨_, rfl⟩, hcf, done hthen (.inl rfl) hdef rfl rfl⟩
              · cases h
            · split at h
              · rename_i hdef
                cases h
                exact ⟨⟨_, rfl⟩, hcf, done hthen (.inr rfl) hdef rfl rfl⟩
              · cases h
        · simp [deferEnd] at h
      · simp [deferEnd] at h
    · cases h
  · cases h

/-- ████ THE CLEAN RUN ANSWERS FOR THE MODEL's ████ -/
theorem call_ok {O : Opts} (F : Fit P O) : ∀ k, (∀ W, CallOk P W (callF P O k)) ∧ ∀ W, CallDOk P W (callD P O k)
  | 0 => by
    refine ⟨?_, ?_⟩
    · intro W g targs s cr s' h
      simp [callF] at h
    · intro W f targs pan s cr took s' h
      simp [callD] at h
  | k + 1 => by
    obtain ⟨hc, hd⟩ := call_ok F k
    refine ⟨?_, fun W => callD_ok F hc⟩
    intro W g targs s cr s' h G w vargs hr hx
    rw [callF] at h
    split at h
    · rename_i fn hf
      split at h
      · exact body_sim F (hd W) hc hf h hr hx
      · rename_i q hq
        split at h
        · rename_i r0 hprim
          cases h
          exact F.prim g q targs s cr s' hq hprim W G w vargs hr hx
        · exact body_sim F (hd W) hc hf h hr hx
    · cases h
end Go.CE

namespace Go.CE
variable {P : Program} {W : Frm} {G : Ghost} {s : St} {w : World}

/-! IndexByteString -/
/-- what the program says of it -/
structure IndexFit (P : Program) (f : FuncId) : Prop where
  fn : ∃ fn : Func, P.funcs[f]? = some fn ∧ fn.body = none ∧ (fn.name == "runtime.NumGoroutine") = false ∧ Extern.findNext fn = none ∧ Extern.find fn = some Extern.BytealgIndexByte.indexByte

theorem findByte_eq (c : Int) (x : UInt8) (_hx : (x.toNat : Int) = c ∨ True) : True := trivial
theorem find_range (b : List UInt8) (c : UInt8) : ∀ (l : List UInt8) (k : Nat), b.drop k = l →
    (match (List.range' k l.length).find? (fun i => b[i]! == c) with | some i => (i : Int) | none => -1) = findByte (.ofNat c.toNat) l k
  | [], k, _ => by simp [findByte]
  | x :: l, k, h => by
    have hx : b[k]? = some x := by
      have : (b.drop k)[0]? = some x := by rw [h]; rfl
      simpa using this
    have hl : b.drop (k + 1) = l := by rw [← List.tail_drop, h]; rfl
    have ih := find_range b c l (k + 1) hl
    simp only [List.length_cons, List.range'_succ, List.find?_cons, findByte]
    have hb : b[k]! = x := by rw [getElem!_def, hx]
    rw [hb, intEq_eq]
    have e : (((.ofNat x.toNat : Int) == (.ofNat c.toNat : Int)) : Bool) = (x == c) := by
      rw [Bool.eq_iff_iff]
      simp only [beq_iff_eq]
      constructor
      · intro q
        exact UInt8.toNat_inj.1 (Int.ofNat.inj q)
      · intro q; rw [q]
    rw [e]
    cases x == c with
    | true => rfl
    | false => exact ih

theorem index_ok {f : FuncId} (F : IndexFit P f) {args : List TV} {cr : CRes} {s' : St} (h : primC 1 args s = some (cr, s')) (vargs : Array Value) (hr : Rel W G s w) (hx : tvrels G args vargs.toList) :
    InvOk P W G cr s' ((callFunc f vargs).run P w) := by
  obtain ⟨fn, hf, hb, hn, h1, h2⟩ := F.fn
  unfold primC at h
  split at h
  · rename_i h0; cases h0
  · rename_i x y _
    split at h
    · rename_i b m hxv hyv
      split at h
      · rename_i hm
        have hm : m < 256 := by simpa using hm
        cases h
        obtain ⟨v, r1, e1, hv, u, r2, e2, hu, e3⟩ := hx
        subst e2
        have : r2 = [] := e3
        subst this
        have hv := hv.rv
        have hu := hu.rv
        rw [hxv] at hv
        rw [hyv] at hu
        simp only [vrel] at hv hu
        subst hv; subst hu
        have hvargs : vargs = #[.string ⟨⟨b⟩⟩, .int .u8 (.ofNat m)] := by
          apply Array.ext'
          rw [e1]
        subst hvargs
        refine .inl ⟨_, rfl, ?_⟩
        have hc : (UInt8.ofNat m).toNat = m := by simp; omega
        have hfind := find_range b (UInt8.ofNat m) b 0 rfl
        rw [hc] at hfind
        have hget : ∀ i : Nat, (⟨⟨b⟩⟩ : ByteArray)[i]! = b[i]! := by
          intro i
          rw [getElem!_def, getElem!_def]
          rcases Nat.lt_or_ge i b.length with q | q
          · have hs : i < (⟨⟨b⟩⟩ : ByteArray).size := by simpa [ByteArray.size] using q
            rw [getElem?_pos _ i hs, List.getElem?_eq_getElem q]
            simp [ByteArray.getElem_eq_getElem_data]
          · have hs : ¬ i < (⟨⟨b⟩⟩ : ByteArray).size := by simpa [ByteArray.size] using q
            rw [getElem?_neg _ i hs, List.getElem?_eq_none q]
        have hidx : (Extern.BytealgIndexByte.indexByte #[.string ⟨⟨b⟩⟩, .int .u8 (.ofNat m)]).run P w = .ok (.int .i64 (findByte (.ofNat m) b 0)) w := by
          have hsz : (⟨⟨b⟩⟩ : ByteArray).size = b.length := rfl
          have hb8 : ((Int.ofNat m).toNat).toUInt8 = UInt8.ofNat m := rfl
          have hdef : Extern.BytealgIndexByte.indexByte #[.string ⟨⟨b⟩⟩, .int .u8 (.ofNat m)] = (do
              let b ← Extern.Bytes.bytesOf (.string ⟨⟨b⟩⟩)
              let c ← Extern.Bytes.asByte (.int .u8 (.ofNat m))
              match (List.range b.size).find? fun i => b[i]! == c with
              | some i => pure (goInt i)
              | none => pure (goInt (-1))) := rfl
          rw [hdef]
          simp only [Extern.Bytes.bytesOf, Extern.Bytes.asByte, Sem.run_bind, Sem.run_pure, Result.andThen_ok, hsz, hget, hb8, List.range_eq_range']
          rw [← hfind]
          cases (List.range' 0 b.length).find? (fun i => b[i]! == UInt8.ofNat m) with
          | none => rfl
          | some i => rfl
        have hn' : ¬ fn.name = "runtime.NumGoroutine" := by simpa using hn
        refine Ans.val hr (v := .int .i64 (findByte (.ofNat m) b 0)) ?_ (plain_rel (by simp [vrel]))
        simp [callFunc, hf, hb, hn', h1, h2]
        change ((Sem.run P (Extern.BytealgIndexByte.indexByte #[Value.string ⟨⟨b⟩⟩, Value.int IntKind.u8 (.ofNat m)]) w).andThen _) = _
        rw [hidx]
        rfl
      · cases h
    · cases h
  · cases h
end Go.CE
