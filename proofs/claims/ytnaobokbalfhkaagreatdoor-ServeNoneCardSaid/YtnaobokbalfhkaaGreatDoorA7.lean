/- Regions whose order is drawn: the checked order, held blocks, what an operation hangs on, the invariant. Conditions: the check of the order. -/
import Derived.Test.YtnaobokbalfhkaaGreatDoorA6
namespace Go.CE
variable {P : Program} {W : Frm} {G : Ghost} {s : St} {w : World} {n : Nat} {a : CAct} {A : Act}

theorem hasN_iff {l : List Nat} {i : Nat} : hasN l i = true ↔ i ∈ l := by
  induction l with
  | nil => simp [hasN]
  | cons j r ih =>
    simp only [hasN]
    split
    · rename_i h
      have := Nat.eq_of_beq_eq_true h
      simp [this]
    · rename_i h
      have : i ≠ j := fun e => by subst e; simp at h
      simp [this, ih]
theorem allIn_iff {l d : List Nat} : allIn l d = true ↔ ∀ x ∈ l, x ∈ d := by
  induction l with
  | nil => simp [allIn]
  | cons x r ih =>
    simp only [allIn]
    split
    · rename_i h
      simp [hasN_iff.1 h, ih]
    · rename_i h
      have : x ∉ d := fun e => by rw [hasN_iff.2 e] at h; cases h
      simp [this]
theorem binds_any (e : Edge) : Region.binds .any e = bindsC e.ground := by
  unfold Region.binds bindsC
  cases e.ground <;> rfl
/-- what is ready -/
theorem ready_iff {ops : List Oper} {listed : Array Bool} {i : Nat} : i ∈ Region.ready .any ⟨ops⟩ listed ↔
    ∃ o, ops[i]? = some o ∧ listed.getD i true = false ∧ ∀ d ∈ depsOf o, listed.getD d false = true := by
  unfold Region.ready
  simp only [List.mem_filter, List.mem_range, Bool.and_eq_true, Bool.not_eq_true', List.getElem?_toArray, List.size_toArray]
  constructor
  · rintro ⟨h1, h2, h3⟩
    have ho : ops[i]? = some ops[i] := by simp [h1]
    refine ⟨ops[i], ho, h2, ?_⟩
    rw [ho] at h3
    simp only [Option.map_some, Option.getD_some, Array.all_eq_true_iff_forall_mem] at h3
    intro d hd
    unfold depsOf at hd
    simp only [List.mem_map, List.mem_filter] at hd
    obtain ⟨e, ⟨he1, he2⟩, rfl⟩ := hd
    have := h3 e (Array.mem_toList_iff.1 he1)
    rw [binds_any, he2] at this
    simpa using this
  · rintro ⟨o, ho, h2, h3⟩
    refine ⟨(List.getElem?_eq_some_iff.1 ho).1, h2, ?_⟩
    rw [ho]
    simp only [Option.map_some, Option.getD_some, Array.all_eq_true_iff_forall_mem]
    intro e he
    rw [binds_any]
    cases hb : bindsC e.ground with
    | false => rfl
    | true =>
      have : e.on ∈ depsOf o := by
        unfold depsOf
        simp only [List.mem_map, List.mem_filter]
        exact ⟨e, ⟨Array.mem_toList_iff.2 he, hb⟩, rfl⟩
      simpa using h3 _ this

/-! rows of bits -/
theorem hasB_eq (m i : Nat) : hasB m i = m.testBit i := by
  unfold hasB
  rw [Nat.testBit_eq_decide_div_mod_eq]
  show Nat.beq ((m >>> i) &&& 1) 1 = _
  rw [Nat.and_one_is_mod, Nat.shiftRight_eq_div_pow]
  rw [Bool.eq_iff_iff, Nat.beq_eq]
  simp
theorem hasB_lor (a b i : Nat) : hasB (Nat.lor a b) i = (hasB a i || hasB b i) := by
  simp only [hasB_eq]
  exact Nat.testBit_or a b i
theorem hasB_shift (d i : Nat) : hasB (Nat.shiftLeft 1 d) i = true ↔ i = d := by
  rw [hasB_eq]
  show (1 <<< d).testBit i = true ↔ _
  rw [Nat.testBit_shiftLeft]
  simp only [Bool.and_eq_true, decide_eq_true_eq]
  constructor
  · rintro ⟨h1, h2⟩
    have : i - d = 0 := by
      cases hq : i - d with
      | zero => rfl
      | succ q =>
        rw [hq] at h2
        simp [Nat.testBit_succ] at h2
    omega
  · intro h
    subst h
    simp
theorem hasB_zero (i : Nat) : hasB 0 i = false := by simp [hasB_eq]
theorem tabOf_has : ∀ {t : Tab} {d j : Nat}, hasB (tabOf t d) j = true → ∃ m, (d, m) ∈ t ∧ hasB m j = true
  | [], d, j, h => by simp [tabOf, hasB_zero] at h
  | (e, m) :: r, d, j, h => by
    simp only [tabOf] at h
    split at h
    · rename_i hb
      rw [← Nat.eq_of_beq_eq_true hb]
      exact ⟨m, by simp, h⟩
    · obtain ⟨m', h1, h2⟩ := tabOf_has h
      exact ⟨m', by simp [h1], h2⟩
theorem waitsFor_has {t : Tab} : ∀ {ds : List Nat} {j : Nat}, hasB (waitsFor t ds) j = true → ∃ d ∈ ds, j = d ∨ ∃ m, (d, m) ∈ t ∧ hasB m j = true
  | [], j, h => by simp [waitsFor, hasB_zero] at h
  | d :: r, j, h => by
    simp only [waitsFor, hasB_lor, Bool.or_eq_true] at h
    rcases h with (h | h) | h
    · exact ⟨d, by simp, .inl ((hasB_shift d j).1 h)⟩
    · exact ⟨d, by simp, .inr (tabOf_has h)⟩
    · obtain ⟨e, h1, h2⟩ := waitsFor_has h
      exact ⟨e, by simp [h1], h2⟩

/-! what the check of an order says -/
/-- at place k of the order: operation i, which waits for m -/
structure At (ops : List Oper) (tab : Tab) (k i m : Nat) (o : Oper) : Prop where
  tb : tab[k]? = some (i, m)
  op : ops[i]? = some o
theorem tabOk_at {ops : List Oper} : ∀ {rest seen : Tab} {k i m : Nat}, tabOk ops seen rest = true → rest[k]? = some (i, m) →
    ∃ o, ops[i]? = some o ∧ oneOk ops ((rest.take k).reverse ++ seen) i m o = true
  | [], seen, k, i, m, _, h => by simp at h
  | (i', m') :: r, seen, 0, i, m, ht, h => by
    simp only [List.getElem?_cons_zero, Option.some.injEq, Prod.mk.injEq] at h
    obtain ⟨rfl, rfl⟩ := h
    simp only [tabOk, Bool.and_eq_true, nthO_eq] at ht
    obtain ⟨h1, _⟩ := ht
    split at h1
    · rename_i y hy
      exact ⟨y, hy, by simpa using h1⟩
    · cases h1
  | (i', m') :: r, seen, k + 1, i, m, ht, h => by
    simp only [tabOk, Bool.and_eq_true] at ht
    obtain ⟨o, h1, h2⟩ := tabOk_at ht.2 (by simpa using h)
    exact ⟨o, h1, by simpa using h2⟩
theorem tabOk_all {ops : List Oper} : ∀ {rest seen : Tab}, tabOk ops seen rest = true → ∀ i < ops.length, i ∈ (rest.reverse ++ seen).map (·.1)
  | [], seen, ht, i, hi => by
    simp only [tabOk, allIn_iff] at ht
    have hup : ∀ (n a x : Nat), x ∈ upTo a n ↔ a ≤ x ∧ x < a + n := by
      intro n
      induction n with
      | zero => intro a x; simp [upTo]
      | succ n ih => intro a x; simp only [upTo, List.mem_cons, ih]; omega
    have := ht i ((hup _ _ _).2 ⟨Nat.zero_le _, by omega⟩)
    simpa using this
  | (i', m') :: r, seen, ht, i, hi => by
    simp only [tabOk, Bool.and_eq_true] at ht
    have := tabOk_all ht.2 i hi
    simpa using this
theorem pairsOk_mem {ops : List Oper} {i m : Nat} {y : Oper} : ∀ {l : Tab}, pairsOk ops i m y l = true → ∀ j m', (j, m') ∈ l → ∃ x, ops[j]? = some x ∧ pairOk ops j x i m y = true
  | [], _, j, m', h => by simp at h
  | (j0, m0) :: r, hp, j, m', h => by
    simp only [pairsOk, Bool.and_eq_true, nthO_eq] at hp
    rcases List.mem_cons.1 h with h | h
    · cases h
      obtain ⟨h1, _⟩ := hp
      split at h1
      · rename_i x hx
        exact ⟨x, hx, h1⟩
      · cases h1
    · exact pairsOk_mem hp.2 j m' h

section
variable {ops : List Oper} {tab : Tab} (hT : drawOK ops tab = true)
include hT
theorem At.one {k i m : Nat} {o : Oper} (h : At ops tab k i m o) : oneOk ops (tab.take k).reverse i m o = true := by
  obtain ⟨o', h1, h2⟩ := tabOk_at hT h.tb
  rw [h.op] at h1
  cases h1
  simpa using h2
theorem at_of {k i m : Nat} (h : tab[k]? = some (i, m)) : ∃ o, At ops tab k i m o := by
  obtain ⟨o, h1, _⟩ := tabOk_at hT h
  exact ⟨o, h, h1⟩
theorem at_ex {i : Nat} (h : i < ops.length) : ∃ k m o, At ops tab k i m o := by
  have := tabOk_all hT i h
  simp only [List.append_nil, List.mem_map, List.mem_reverse] at this
  obtain ⟨⟨i', m⟩, h1, rfl⟩ := this
  obtain ⟨k, hk⟩ := List.mem_iff_getElem?.1 h1
  obtain ⟨o, ho⟩ := at_of hT hk
  exact ⟨k, m, o, ho⟩
theorem At.kind {k i m : Nat} {o : Oper} (h : At ops tab k i m o) : cls o.op = 0 ∨ (cls o.op = 1 ∧ ∃ d, o.dst = some d) ∨ cls o.op = 2 ∨ (cls o.op = 3 ∧ isMake o = true) := by
  have h1 := h.one hT
  simp only [oneOk, Bool.and_eq_true] at h1
  obtain ⟨⟨⟨h1, _⟩, _⟩, _⟩ := h1
  split at h1
  · rename_i e; exact .inl e
  · rename_i e
    refine .inr (.inl ⟨e, ?_⟩)
    cases hd : o.dst with
    | none => rw [hd] at h1; cases h1
    | some d => exact ⟨d, rfl⟩
  · rename_i e; exact .inr (.inr (.inl e))
  · rename_i e0 e1 e2
    refine .inr (.inr (.inr ⟨?_, h1⟩))
    unfold isMake at h1
    split at h1
    · rename_i e3 _ _; exact e3
    · cases h1
theorem At.pair {k i m : Nat} {y : Oper} {k' j m' : Nat} {x : Oper} (h : At ops tab k i m y) (h' : At ops tab k' j m' x) (hk : k' < k) : pairOk ops j x i m y = true := by
  have h1 := h.one hT
  simp only [oneOk, Bool.and_eq_true] at h1
  obtain ⟨_, h1⟩ := h1
  have hmem : (j, m') ∈ (tab.take k).reverse := by
    rw [List.mem_reverse, List.mem_iff_getElem?]
    exact ⟨k', by rw [List.getElem?_take]; simp [hk, h'.tb]⟩
  obtain ⟨x', h2, h3⟩ := pairsOk_mem h1 j m' hmem
  rw [h'.op] at h2
  cases h2
  exact h3
theorem At.ne {k i m : Nat} {y : Oper} {k' j m' : Nat} {x : Oper} (h : At ops tab k i m y) (h' : At ops tab k' j m' x) (hk : k' < k) : j ≠ i := by
  have := h.pair hT h' hk
  simp only [pairOk, Bool.and_eq_true] at this
  intro e
  subst e
  simp at this
theorem At.uniq {k i m : Nat} {y : Oper} {k' m' : Nat} {x : Oper} (h : At ops tab k i m y) (h' : At ops tab k' i m' x) : k = k' := by
  rcases Nat.lt_trichotomy k k' with q | q | q
  · exact absurd rfl (h'.ne hT h q)
  · exact q
  · exact absurd rfl (h.ne hT h' q)
/-- what changes, or makes, is waited for by what stands behind it -/
theorem At.eff {k i m : Nat} {y : Oper} {k' j m' : Nat} {x : Oper} (h : At ops tab k i m y) (h' : At ops tab k' j m' x) (hk : k' < k) (hx : 2 ≤ cls x.op) (hy : isMake y = false) : hasB m j = true := by
  have := h.pair hT h' hk
  simp only [pairOk, Bool.and_eq_true, Bool.or_eq_true, hy, Bool.false_eq_true, or_false] at this
  rcases this.1.1.2 with q | q
  · rw [Nat.blt_eq] at q; omega
  · exact q
theorem At.clash {k i m : Nat} {y : Oper} {k' j m' : Nat} {x : Oper} (h : At ops tab k i m y) (h' : At ops tab k' j m' x) (hk : k' < k) (hc : clash ops x y = true) : hasB m j = true := by
  have := h.pair hT h' hk
  simp only [pairOk, Bool.and_eq_true, Bool.or_eq_true, hc] at this
  simpa using this.1.2
theorem At.makes {k i m : Nat} {y : Oper} {k' j m' : Nat} {x : Oper} (h : At ops tab k i m y) (h' : At ops tab k' j m' x) (hx : isMake x = true) (hy : isMake y = true) : k = k' := by
  rcases Nat.lt_trichotomy k k' with q | q | q
  · have := h'.pair hT h q
    simp [pairOk, hx, hy] at this
  · exact q
  · have := h.pair hT h' q
    simp [pairOk, hx, hy] at this
theorem At.deps {k i m : Nat} {y : Oper} (h : At ops tab k i m y) : ∀ d ∈ depsOf y, ∃ k' m' x, k' < k ∧ At ops tab k' d m' x := by
  intro d hd
  have h1 := h.one hT
  simp only [oneOk, Bool.and_eq_true, allIn_iff] at h1
  have := h1.1.1.2 d hd
  simp only [List.mem_map, List.mem_reverse] at this
  obtain ⟨⟨d', m'⟩, h2, rfl⟩ := this
  obtain ⟨k', hk'⟩ := List.mem_iff_getElem?.1 h2
  rw [List.getElem?_take] at hk'
  split at hk'
  · rename_i hlt
    obtain ⟨x, hx⟩ := at_of hT hk'
    exact ⟨k', m', x, hlt, hx⟩
  · cases hk'
/-- what an operation waits for lies in every set that is closed -/
theorem At.waits {S : Nat → Prop} (hS : ∀ i o, S i → ops[i]? = some o → ∀ d ∈ depsOf o, S d) : ∀ {k i m : Nat} {y : Oper}, At ops tab k i m y → (∀ d ∈ depsOf y, S d) → ∀ j, hasB m j = true → S j := by
  intro k
  induction k using Nat.strongRecOn with
  | ind k ih =>
    intro i m y h hd j hj
    have h1 := h.one hT
    simp only [oneOk, Bool.and_eq_true] at h1
    rw [Nat.eq_of_beq_eq_true h1.1.2] at hj
    obtain ⟨d, hmem, h2⟩ := waitsFor_has hj
    rcases h2 with rfl | ⟨m', h3, h4⟩
    · exact hd _ hmem
    · rw [List.mem_reverse] at h3
      obtain ⟨k', hk'⟩ := List.mem_iff_getElem?.1 h3
      rw [List.getElem?_take] at hk'
      split at hk'
      · rename_i hlt
        obtain ⟨x, hx⟩ := at_of hT hk'
        exact ih k' hlt hx (hS d x (hd d hmem) hx.op) j h4
      · cases hk'
theorem At.mask {S : Nat → Prop} (hS : ∀ i o, S i → ops[i]? = some o → ∀ d ∈ depsOf o, S d) {k i m : Nat} {y : Oper} (h : At ops tab k i m y) (hi : S i) : ∀ j, hasB m j = true → S j :=
  h.waits hT hS (hS i y hi h.op)
end
end Go.CE

namespace Go.CE
variable {P : Program} {W : Frm} {G : Ghost} {s s' s1 : St} {w : World} {n : Nat} {a a' a1 : CAct} {A : Act} {o : Oper} {mt : Bool} {call : CallF} {ops : List Oper}

/-! a block that is held: nobody changes it, nobody shows it -/
def Frm.hold (W : Frm) (b : Nat) (ob : Obj) : Frm := ⟨W.wd, fun c => if c = b then some (ob, true) else W.kp c⟩
theorem hold_none {b c : Nat} {ob : Obj} : (W.hold b ob).kp c = none ↔ c ≠ b ∧ W.kp c = none := by
  unfold Frm.hold
  simp only
  split
  · rename_i h; simp [h]
  · rename_i h; simp [h]
theorem Rel.hold (r : Rel W G s w) {b : Nat} {ob : Obj} (hb : w.heap[b]? = some ob) (h1 : ∀ i b' z m, G.bx i = some (b', z, m) → b' ≠ b)
    (h2 : ∀ i e z b' n m z', look s.toks i = some (e, z) → G.tk i e = some (b', n, m, z') → b' ≠ b) (h3 : G.fr b = none) : Rel (W.hold b ob) G s w where
  box := r.box
  fr := r.fr
  tok := fun i e z h => by
    obtain ⟨b', n, m, l, c, t, k1, k2, k3, k4, k5, k6⟩ := r.tok i e z h
    exact ⟨b', n, m, l, c, t, k1, k2, k3, k4, k5, hold_none.2 ⟨h2 _ _ _ _ _ _ _ h k1, k6⟩⟩
  bxlt := fun i b' z m h => ⟨(r.bxlt _ _ _ _ h).1, (r.bxlt _ _ _ _ h).2.1, hold_none.2 ⟨h1 _ _ _ _ h, (r.bxlt _ _ _ _ h).2.2⟩⟩
  apart := r.apart
  inj := r.inj
  tkle := r.tkle
  tkinj := r.tkinj
  nt := r.nt
  nb := r.nb
  hid := fun b' o' h => by
    unfold Frm.hold at h
    simp only at h
    split at h
    · rename_i e; rw [e]; exact h3
    · exact r.hid b' o' h
  size := r.size
  old := fun b' x h => by
    unfold Frm.hold at h
    simp only at h
    split at h
    · rename_i e; cases h; rw [e]; exact hb
    · exact r.old b' x h
  new := fun b' c t f h => r.new b' c t f (hold_none.1 h).2
  os := r.os
  out := r.out
/-- a new object, held -/
theorem Rel.putHold (r : Rel W G s w) {ob : Obj} (ho : Obj.ours ob) : Rel (W.hold w.heap.size ob) G s (Go.CE.put w ob) := by
  refine (r.put ob ho).hold put_new ?_ ?_ ?_
  · intro i b' z m h
    have := (r.bxlt _ _ _ _ h).2.1
    omega
  · intro i e z b' n m z' h h'
    obtain ⟨b2, n2, m2, l2, c2, t2, k1, k2, k3, k4, _⟩ := r.tok i e z h
    rw [h'] at k1
    cases k1
    have := lt_of_obj k4
    omega
  · cases h : G.fr w.heap.size with
    | none => rfl
    | some l => have := r.fr_lt h; omega
theorem Rel.unhold {b : Nat} {ob : Obj} (r : Rel (W.hold b ob) G s w) (hW : W.kp b = none) (ho : Obj.ours ob) : Rel W G s w where
  box := r.box
  fr := r.fr
  tok := fun i e z h => by
    obtain ⟨b', n, m, l, c, t, k1, k2, k3, k4, k5, k6⟩ := r.tok i e z h
    exact ⟨b', n, m, l, c, t, k1, k2, k3, k4, k5, (hold_none.1 k6).2⟩
  bxlt := fun i b' z m h => ⟨(r.bxlt _ _ _ _ h).1, (r.bxlt _ _ _ _ h).2.1, (hold_none.1 (r.bxlt _ _ _ _ h).2.2).2⟩
  apart := r.apart
  inj := r.inj
  tkle := r.tkle
  tkinj := r.tkinj
  nt := r.nt
  nb := r.nb
  hid := fun b' o' h => r.hid b' o' (by
    have : b' ≠ b := fun e => by rw [e, hW] at h; cases h
    simp [Frm.hold, this, h])
  size := r.size
  old := fun b' x h => r.old b' x (by
    have : b' ≠ b := fun e => by rw [e, hW] at h; cases h
    simp [Frm.hold, this, h])
  new := fun b' c t f h k => by
    by_cases e : b' = b
    · subst e
      have := r.old b' (ob, true) (by simp [Frm.hold])
      rw [this] at k
      cases k
      exact ho
    · exact r.new b' c t f (hold_none.2 ⟨e, h⟩) k
  os := r.os
  out := r.out
/-- it becomes a box -/
theorem Rel.holdBox {b z m : Nat} {ob : Obj} {x : Box} (r : Rel (W.hold b ob) G s w) (hW : W.kp b = none) (ho : Obj.ours ob) (hx : brel G z m x (some ob)) :
    Rel W (G.addBox s.nb b z m) (s.push x) w := by
  have h1 := r.old b (ob, true) (by simp [Frm.hold])
  refine (r.unhold hW ho).pushBox x b z m (lt_of_obj h1) hW (r.hid b ob (by simp [Frm.hold])) ?_ (by rw [h1]; exact hx)
  intro j y z' m' _ _ k
  exact (hold_none.1 (r.bxlt _ _ _ _ k).2.2).1 rfl

/-! what makes a variable -/
theorem make_run (ho : isMake o = true) (h : stepOp P mt call ops o a s = .on a' s') :
    ∃ (d : Tmp) (x : Box) (f : Nat → CV) (g : Nat → Value) (ob : Obj), o.dst = some d ∧ Obj.ours ob ∧ (∀ a s, stepOp P mt call ops o a s = .on (a.put (some d) (plain (f s.nb))) (s.push x)) ∧
      (∀ (A : Act) (w : World), Region.wanted o (yielded ⟨ops⟩ A.tmps) = true ∧ (execOp A.eval o).run P w = .ok (.value (g w.heap.size)) (put w ob)) ∧
      (∀ G, brel G 0 0 x (some ob)) ∧ ∀ (G : Ghost) i b z m, G.bx i = some (b, z, m) → vrel G (f i) (g b) := by
  unfold isMake at ho
  split at ho
  · rename_i d hc hg hd
    have hw : ∀ (A : Act), Region.wanted o (yielded ⟨ops⟩ A.tmps) = true := fun A => by simp [Region.wanted, hg]
    unfold stepOp at h
    simp only [wantedC, hg] at h
    cases hop : o.op <;> rw [hop] at h hc <;> simp only [cls] at hc <;> (try (cases hc; done))
    case alloc e =>
      simp only [execC] at h
      cases hz : zeroC P e with
      | none => rw [hz] at h; simp [boxOf, went] at h
      | some x =>
        rw [hz] at h
        obtain ⟨i, v, hi, hv, hcc⟩ := zeroC_some hz
        cases hcs : x.cells? with
        | none => simp [boxOf, hcs, boxCells, went] at h
        | some cs =>
          refine ⟨d, .cells cs, fun i => .ptr i 0, fun b => .pointer (some ⟨b, 0, none⟩), .cells v.cells e, hd, rfl, ?_, ?_, ?_, ?_⟩
          · intro a s
            simp [stepOp, wantedC, hg, hop, execC, hz, boxOf, hcs, boxCells, went, hd]
          · intro A w
            refine ⟨hw A, ?_⟩
            simp [execOp, hop, Instr.alloc, run_zero hi hv, newVar, newRow, put]
          · intro G
            exact ⟨v.cells, e, rfl, ((ofConst_rel hcc).cells hcs).1⟩
          · intro G i b z m hb
            simp only [vrel]
            exact ⟨b, z, m, hb, rfl⟩
    case makeMap t x =>
      cases x with
      | some _ => cases hc
      | none =>
        refine ⟨d, .map [], fun i => .map i, fun b => .map (some b), .map #[] 0, hd, trivial, ?_, ?_, ?_, ?_⟩
        · intro a s
          simp [stepOp, wantedC, hg, hop, execC, exMakeMap, went, hd]
        · intro A w
          refine ⟨hw A, ?_⟩
          simp [execOp, hop, Instr.makeMap, put]
        · intro G
          exact ⟨#[], 0, rfl, rfl⟩
        · intro G i b z m hb
          simp only [vrel]
          exact ⟨b, z, m, hb, rfl⟩
    case call c =>
      unfold clsCallee at hc
      split at hc <;> cases hc
  · cases ho

/-! an operation hangs on the names that it names -/
def agrees (ops : List Oper) (o : Oper) (a a' : CAct) : Prop := ∀ t ∈ namesOf ops o, a.slots.get t = a'.slots.get t
theorem eval_agree {x : Operand} (h : ∀ t, x = .tmp t → a.slots.get t = a'.slots.get t) : a.eval x = a'.eval x := by
  cases x with
  | tmp t => simp only [CAct.eval]; rw [h t rfl]
  | _ => rfl
theorem evals_agree : ∀ {l : List Operand}, (∀ x ∈ l, a.eval x = a'.eval x) → evals a l = evals a' l
  | [], _ => rfl
  | x :: l, h => by simp only [evals]; rw [h x (by simp), evals_agree (fun y hy => h y (by simp [hy]))]
theorem evalParts_agree : ∀ {l : List (Nat × Operand)}, (∀ x ∈ l.map (·.2), a.eval x = a'.eval x) → evalParts a l = evalParts a' l
  | [], _ => rfl
  | (i, x) :: l, h => by simp only [evalParts]; rw [h x (by simp), evalParts_agree (fun y hy => h y (by simp at hy ⊢; exact .inr hy))]
theorem evalInt_agree {x : Option Operand} {d : Int} (h : ∀ y, x = some y → a.eval y = a'.eval y) : evalInt? a d x = evalInt? a' d x := by
  cases x with
  | none => rfl
  | some y => simp only [evalInt?]; rw [h y rfl]
theorem exec_agree (h : ∀ x ∈ o.op.operands.toList, a.eval x = a'.eval x) (hc : cls o.op ≤ 3) : execC P mt call a s o.op = execC P mt call a' s o.op := by
  cases hop : o.op <;> rw [hop] at h hc <;> simp only [cls] at hc <;> (try (omega; done)) <;> simp only [Op.operands] at h <;> simp only [execC]
  case move x => simp only [exMove]; rw [h x (by simp)]
  case assign x => simp only [exMove]; rw [h x (by simp)]
  case pick b x y => simp only [exPick]; rw [h x (by simp), h y (by simp), h b (by simp)]
  case box e x => rw [h x (by simp)]
  case build t parts => simp only [exBuild]; rw [evalParts_agree (fun x hx => h x (by simpa using hx))]
  case buildSlice t l parts => simp only [exBuildSlice]; rw [evalParts_agree (fun x hx => h x (by simpa using hx))]
  case load t p => simp only [exLoad]; rw [h p (by simp)]
  case store t p x => simp only [exStore]; rw [h p (by simp), h x (by simp)]
  case nilCheck x => simp only [exNil]; rw [h x (by simp)]
  case binOp op t x y yt => simp only [exBin]; rw [h x (by simp), h y (by simp)]
  case unOp op t x => simp only [exUn]; rw [h x (by simp)]
  case convert u d x => simp only [exConv]; rw [h x (by simp)]
  case makeInterface t x => simp only [exIface]; rw [h x (by simp)]
  case makeFunc f first cap =>
    unfold exFunc
    have e : evals a cap.toList = evals a' cap.toList := evals_agree (fun x hx => h x (by simp; exact .inr (by simpa using hx)))
    rw [e]
  case slice t x lo hi mx =>
    unfold exSlice
    have e1 : evalInt? a 0 lo = evalInt? a' 0 lo := evalInt_agree (fun y hy => h y (by simp [hy]))
    have e2 : ∀ d, evalInt? a d hi = evalInt? a' d hi := fun d => evalInt_agree (fun y hy => h y (by simp [hy]))
    have e3 : a.eval x = a'.eval x := h x (by simp)
    cases mx <;> simp only [e1, e2, e3]
  case fieldAddr t x f => simp only [exFieldAddr]; rw [h x (by simp)]
  case field t x f => simp only [exField]; rw [h x (by simp)]
  case indexAddr t x i => simp only [exIndexAddr]; rw [h x (by simp), h i (by simp)]
  case index t x i => simp only [exIndex]; rw [h x (by simp), h i (by simp)]
  case lookup t m k ok => simp only [exLookup]; rw [h m (by simp), h k (by simp)]
  case mapUpdate t m k x => simp only [exUpdate]; rw [h m (by simp), h k (by simp), h x (by simp)]
  case extract t i => simp only [exExtract]; rw [h t (by simp)]
  case typeAssert x xt t ok =>
    cases ok <;> simp only [exAssert]
    rw [h x (by simp)]
  case call c =>
    simp only [Call.operands] at h
    unfold exCall
    have e : evals a c.args.toList = evals a' c.args.toList := evals_agree (fun x hx => h x (by simp; exact .inr (by simpa using hx)))
    rw [e]
    split
    · rename_i f hf
      rw [h f (by simp [hf])]
    · rfl
    · rfl
theorem wanted_agree (h : agrees ops o a a') : wantedC ops a.slots o.guard = wantedC ops a'.slots o.guard := by
  unfold wantedC
  split
  · rfl
  · rename_i j b hg
    rw [nthO_eq]
    split
    · rename_i p hp
      split
      · rename_i t ht
        have : a.slots.get t = a'.slots.get t := h t (by simp [namesOf, hg, nthO_eq, hp, ht])
        rw [this]
      · rfl
    · rfl
theorem ops_agree (h : agrees ops o a a') : ∀ x ∈ o.op.operands.toList, a.eval x = a'.eval x := by
  intro x hx
  refine eval_agree fun t ht => h t ?_
  subst ht
  simp only [namesOf, List.mem_append, List.mem_filterMap]
  exact .inl ⟨_, hx, rfl⟩
theorem went_on {dst : Option Tmp} {r : OpR} (h : went a dst r = .on a1 s1) (hn : ∀ f xs s, r ≠ some (.defer f xs, s)) : ∃ x, a1 = a.put dst x ∧ ∀ a', went a' dst r = .on (a'.put dst x) s1 := by
  unfold went at h
  split at h
  · cases h; exact ⟨_, rfl, fun _ => rfl⟩
  · cases h; exact ⟨_, rfl, fun _ => rfl⟩
  · cases h
  · exact absurd rfl (hn _ _ _)
  · cases h
/-- what the state is behind it; it is no deferral, no panic -/
def Vals (p : St → Prop) (r : OpR) : Prop := ∀ q s, r = some (q, s) → p s ∧ ∃ v, q = .val v
theorem vals_tv {p : St → Prop} (h : p s) {x : Option TV} : Vals p (tvR s x) := by
  intro q s' e; cases x with | none => cases e | some v => cases e; exact ⟨h, v, rfl⟩
theorem vals_cv {p : St → Prop} (h : p s) {x : Option CV} : Vals p (cvR s x) := by
  intro q s' e; cases x with | none => cases e | some v => cases e; exact ⟨h, _, rfl⟩
theorem vals_none {p : St → Prop} : Vals p none := by intro q s e; cases e
theorem vals_1 {p : St → Prop} {f : TV → OpR} {x : Option TV} (h : ∀ v, Vals p (f v)) : Vals p (eval1 f x) := by cases x with | none => exact vals_none | some v => exact h v
theorem vals_2 {p : St → Prop} {f : TV → TV → OpR} {x y : Option TV} (h : ∀ v w, Vals p (f v w)) : Vals p (eval2 f x y) := by
  cases x with
  | none => exact vals_none
  | some v => cases y with | none => exact vals_none | some w => exact h v w
theorem vals_P {p : St → Prop} {f : List (Nat × TV) → OpR} {x : Option (List (Nat × TV))} (h : ∀ v, Vals p (f v)) : Vals p (evalP f x) := by cases x with | none => exact vals_none | some v => exact h v
theorem vals_L {p : St → Prop} {f : List TV → OpR} {x : Option (List TV)} (h : ∀ v, Vals p (f v)) : Vals p (evalL f x) := by cases x with | none => exact vals_none | some v => exact h v
theorem vals_bin {p : St → Prop} (h : p s) {op : BinOp} {t : TypeId} {x y : Operand} : Vals p (exBin P a s op t x y) := by
  unfold exBin; split
  · exact vals_1 fun _ => vals_cv h
  · exact vals_2 fun _ _ => vals_cv h
theorem vals_slice {p : St → Prop} (h : p s) {t : TypeId} {x : Operand} {lo hi mx : Option Operand} : Vals p (exSlice P a s t x lo hi mx) := by
  unfold exSlice; split
  · refine vals_1 fun _ => ?_
    unfold slice2; split
    · exact vals_tv h
    · exact vals_none
  · exact vals_none
theorem vals_func {p : St → Prop} (h : p s) {cap first : Array Operand} {f : Fn} : Vals p (exFunc a s cap f first) := by
  unfold exFunc; split
  · exact vals_L fun _ => vals_cv h
  · exact vals_none
theorem vals_assert {p : St → Prop} (h : p s) {x : Operand} {t : TypeId} {ok : Bool} : Vals p (exAssert P a s x t ok) := by
  unfold exAssert; split
  · exact vals_1 fun _ => vals_cv h
  · exact vals_none
theorem vals_len {p : St → Prop} (h : p s) {c : CV} {d : Option TypeDesc} : Vals p (lenR s c d) := by
  unfold lenR
  split <;> first | exact vals_none | (intro q s' e; cases e; exact ⟨h, _, rfl⟩) | skip
  unfold lenOfMap
  split
  · intro q s' e; cases e; exact ⟨h, _, rfl⟩
  · exact vals_none
theorem vals_cv0 {p : St → Prop} (h : p s) {x : Option CV} : Vals p (cvR0 s x) := by
  intro q s' e; cases x with | none => cases e | some v => cases e; exact ⟨h, _, rfl⟩
/-- what only reads leaves the state -/
theorem vals_exec {p : St → Prop} (h : p s) (hc : cls o.op < 2) : Vals p (execC P mt call a s o.op) := by
  cases hop : o.op <;> rw [hop] at hc <;> simp only [cls] at hc <;> (try (omega; done)) <;> simp only [execC]
  case move x => exact vals_tv h
  case assign x => exact vals_tv h
  case pick b x y => exact vals_1 fun _ => vals_tv h
  case build t parts => exact vals_P fun _ => vals_tv h
  case buildSlice t l parts => exact vals_P fun _ => vals_tv h
  case load t p => exact vals_1 fun _ => vals_tv h
  case nilCheck x => exact vals_1 fun _ => vals_tv h
  case binOp op t x y yt => exact vals_bin h
  case unOp op t x => exact vals_1 fun _ => vals_cv h
  case convert u d x => exact vals_1 fun _ => vals_cv h
  case makeInterface t x => exact vals_1 fun _ => vals_cv h
  case makeFunc f first cap => exact vals_func h
  case slice t x lo hi mx => exact vals_slice h
  case fieldAddr t x f => exact vals_1 fun _ => vals_cv h
  case field t x f => exact vals_1 fun _ => vals_cv h
  case indexAddr t x i => exact vals_2 fun _ _ => vals_cv h
  case index t x i => exact vals_2 fun _ _ => vals_cv h
  case lookup t m k ok => exact vals_2 fun _ _ => vals_tv h
  case extract t i => exact vals_1 fun _ => vals_cv h
  case typeAssert x xt t ok => exact vals_assert h
  case makeMap t x => cases x <;> simp at hc
  case call c =>
    unfold clsCallee at hc
    unfold exCall
    split
    · rename_i f hf; rw [hf] at hc; simp at hc
    · rename_i b hb
      rw [hb] at hc
      refine vals_L fun l => ?_
      cases b <;> simp at hc <;> unfold builtinC <;> split <;> first | exact vals_none | exact vals_cv0 h | skip
      all_goals (rename_i h1; first | (cases h1; done) | skip)
      all_goals (try split)
      all_goals first | exact vals_none | exact vals_len h | exact vals_cv0 h | skip
    · exact vals_none

def NoDef (r : OpR) : Prop := ∀ f xs s, r ≠ some (.defer f xs, s)
theorem nd_none : NoDef none := by intro f xs s e; cases e
theorem nd_1 {f : TV → OpR} {x : Option TV} (h : ∀ v, NoDef (f v)) : NoDef (eval1 f x) := by cases x with | none => exact nd_none | some v => exact h v
theorem nd_2 {f : TV → TV → OpR} {x y : Option TV} (h : ∀ v w, NoDef (f v w)) : NoDef (eval2 f x y) := by
  cases x with
  | none => exact nd_none
  | some v => cases y with | none => exact nd_none | some w => exact h v w
theorem nd_3 {f : TV → TV → TV → OpR} {x y z : Option TV} (h : ∀ v w u, NoDef (f v w u)) : NoDef (eval3 f x y z) := by
  cases x with
  | none => exact nd_none
  | some v => cases y with
    | none => exact nd_none
    | some w => cases z with | none => exact nd_none | some u => exact h v w u
theorem nd_L {f : List TV → OpR} {x : Option (List TV)} (h : ∀ v, NoDef (f v)) : NoDef (evalL f x) := by cases x with | none => exact nd_none | some v => exact h v
theorem nd_box {x : Option TV} : NoDef (boxOf s x) := by
  unfold boxOf; split
  · unfold boxCells; split
    · intro f xs s e; cases e
    · exact nd_none
  · exact nd_none
theorem nd_callRes {x : Option (CRes × St)} : NoDef (callRes x) := by
  unfold callRes; split <;> (intro f xs s e; cases e)
theorem not_defer (hc : cls o.op ≤ 3) : NoDef (execC P mt call a s o.op) := by
  by_cases hc1 : cls o.op < 2
  · intro f xs s1 h
    obtain ⟨_, v, h⟩ := vals_exec (p := fun _ => True) trivial hc1 _ _ h; cases h
  · cases hop : o.op <;> rw [hop] at hc hc1 <;> simp only [cls] at hc hc1 <;> (try (omega; done)) <;> simp only [execC]
    case alloc e => exact nd_box
    case box e x => exact nd_box
    case store t p x =>
      refine nd_2 fun _ _ => ?_
      unfold skipR; split <;> (intro f xs s e; cases e)
    case makeMap t x => cases x <;> (intro f xs s e; cases e)
    case mapUpdate t m k x =>
      refine nd_3 fun _ _ _ => ?_
      unfold updMap; split
      · unfold updBox; split
        · split
          · unfold updPut; split <;> (intro f xs s e; cases e)
          · exact nd_none
        · exact nd_none
      · exact nd_none
    case call c =>
      unfold clsCallee at hc hc1
      unfold exCall
      split
      · refine nd_L fun l => nd_1 fun fv => ?_
        unfold callR; split
        · exact nd_callRes
        · exact nd_none
      · rename_i b hb
        rw [hb] at hc hc1
        refine nd_L fun l => ?_
        cases b <;> simp at hc hc1 <;> unfold builtinC <;> split <;> first | exact nd_none | skip
        all_goals (rename_i h1; first | (cases h1; done) | skip)
        all_goals (try split)
        all_goals first | exact nd_none | skip
        all_goals (unfold appEnd; split <;> (intro f xs s e; cases e))
      · exact nd_none

/-- the same, of what agrees with it -/
theorem step_agree (hc : cls o.op ≤ 3) (h : agrees ops o a a') (hs : stepOp P mt call ops o a s = .on a1 s1) :
    ∃ x, a1 = a.put o.dst x ∧ stepOp P mt call ops o a' s = .on (a'.put o.dst x) s1 := by
  unfold stepOp at hs ⊢
  rw [← wanted_agree h, ← exec_agree (ops_agree h) hc]
  split at hs
  · rename_i hw
    obtain ⟨x, h1, h2⟩ := went_on hs (not_defer hc)
    exact ⟨x, h1, h2 a'⟩
  · cases hs
    exact ⟨undefC, rfl, rfl⟩
  · cases hs
theorem step_agree_panic {v : CV} (hc : cls o.op ≤ 3) (h : agrees ops o a a') (hs : stepOp P mt call ops o a s = .panic v s1) : stepOp P mt call ops o a' s = .panic v s1 := by
  unfold stepOp at hs ⊢
  rw [← wanted_agree h, ← exec_agree (ops_agree h) hc]
  split at hs
  · unfold went at hs ⊢
    split at hs <;> first | (cases hs; done) | exact hs
  · cases hs
  · cases hs
theorem agrees.refl : agrees ops o a a := fun _ _ => rfl
theorem step_put (hc : cls o.op ≤ 3) (hs : stepOp P mt call ops o a s = .on a1 s1) : ∃ x, a1 = a.put o.dst x := by
  obtain ⟨x, h, _⟩ := step_agree hc agrees.refl hs
  exact ⟨x, h⟩
/-- what only reads leaves the state as it is, and does not panic -/
theorem step_reads (hc : cls o.op < 2) : (∀ a1 s1, stepOp P mt call ops o a s = .on a1 s1 → s1 = s) ∧ ∀ v s1, stepOp P mt call ops o a s ≠ .panic v s1 := by
  unfold stepOp
  split
  · have h0 := fun q s' => vals_exec (P := P) (mt := mt) (call := call) (a := a) (o := o) (p := (· = s)) rfl hc q s'
    constructor
    · intro a1 s1 h
      unfold went at h
      split at h <;> first | (cases h; done) | (cases h; rename_i he; exact (h0 _ _ he).1) | (rename_i he; exact (h0 _ _ he).1)
    · intro v s1 h
      unfold went at h
      split at h <;> first | (cases h; done) | skip
      rename_i he
      obtain ⟨_, v, h⟩ := h0 _ _ he; cases h
  · exact ⟨(fun a1 s1 h => by cases h; rfl), (fun v s1 h => by cases h)⟩
  · exact ⟨(fun a1 s1 h => by cases h), (fun v s1 h => by cases h)⟩
/-- what hangs on its operands alone is the same in every state -/
theorem exec_still (hc : cls o.op = 0) {s1 : St} : ∀ v, execC P mt call a s o.op = some (.val v, s) → execC P mt call a s1 o.op = some (.val v, s1) := by
  have tv : ∀ {x : Option TV} {v : TV}, tvR s x = some (.val v, s) → tvR s1 x = some (.val v, s1) := by
    intro x v h; cases x with | none => cases h | some y => cases h; rfl
  have cv : ∀ {x : Option CV} {v : TV}, cvR s x = some (.val v, s) → cvR s1 x = some (.val v, s1) := by
    intro x v h; cases x with | none => cases h | some y => cases h; rfl
  intro v
  cases hop : o.op <;> rw [hop] at hc <;> simp only [cls] at hc <;> (try (omega; done)) <;> simp only [execC]
  case move x => exact tv
  case assign x => exact tv
  case pick b x y => unfold exPick; cases a.eval b with | none => intro h; cases h | some c => exact tv
  case build t parts => unfold exBuild; cases evalParts a parts.toList with | none => intro h; cases h | some c => exact tv
  case buildSlice t l parts => unfold exBuildSlice; cases evalParts a parts.toList with | none => intro h; cases h | some c => exact tv
  case nilCheck x => unfold exNil; cases a.eval x with | none => intro h; cases h | some c => exact tv
  case binOp op t x y yt =>
    unfold exBin
    split
    · cases a.eval x with | none => intro h; cases h | some c => exact cv
    · cases a.eval x with
      | none => intro h; cases h
      | some c => cases a.eval y with | none => intro h; cases h | some d => exact cv
  case unOp op t x => unfold exUn; cases a.eval x with | none => intro h; cases h | some c => exact cv
  case convert u d x => unfold exConv; cases a.eval x with | none => intro h; cases h | some c => exact cv
  case makeInterface t x => unfold exIface; cases a.eval x with | none => intro h; cases h | some c => exact cv
  case makeFunc f first cap =>
    unfold exFunc
    split
    · cases evals a cap.toList with | none => intro h; cases h | some c => exact cv (x := some _)
    · intro h; cases h
  case fieldAddr t x f => unfold exFieldAddr; cases a.eval x with | none => intro h; cases h | some c => exact cv
  case field t x f => unfold exField; cases a.eval x with | none => intro h; cases h | some c => exact cv
  case indexAddr t x i =>
    unfold exIndexAddr
    cases a.eval x with
    | none => intro h; cases h
    | some c => cases a.eval i with | none => intro h; cases h | some d => exact cv
  case index t x i =>
    unfold exIndex
    cases a.eval x with
    | none => intro h; cases h
    | some c => cases a.eval i with | none => intro h; cases h | some d => exact cv
  case extract t i => unfold exExtract; cases a.eval t with | none => intro h; cases h | some c => exact cv
  case typeAssert x xt t ok =>
    unfold exAssert
    split
    · cases a.eval x with | none => intro h; cases h | some c => exact cv
    · intro h; cases h
  case makeMap t x => cases x <;> simp at hc
  case call c =>
    unfold clsCallee at hc
    unfold exCall
    split
    · rename_i f hf; rw [hf] at hc; simp at hc
    · rename_i b hb
      rw [hb] at hc
      cases evals a c.args.toList with
      | none => intro h; cases h
      | some l =>
        have cv0 : ∀ {x : Option CV} {v : TV}, cvR0 s x = some (.val v, s) → cvR0 s1 x = some (.val v, s1) := by
          intro x v h; cases x with | none => cases h | some y => cases h; rfl
        simp only [evalL]
        cases b <;> simp at hc <;> unfold builtinC <;> split <;> first | exact cv0 | (intro h; cases h; done) | skip
        all_goals (rename_i h1; first | (cases h1; done) | skip)
    · intro h; cases h
theorem step_still (hc : cls o.op = 0) (hs : stepOp P mt call ops o a s = .on a1 s) (s1 : St) : stepOp P mt call ops o a s1 = .on a1 s1 := by
  unfold stepOp at hs ⊢
  split at hs
  · have h0 := fun q s' => vals_exec (P := P) (mt := mt) (call := call) (a := a) (s := s) (o := o) (p := (· = s)) rfl (by omega) q s'
    cases he : execC P mt call a s o.op with
    | none => rw [he] at hs; cases hs
    | some q =>
      obtain ⟨q, s'⟩ := q
      obtain ⟨h1, v, h2⟩ := h0 _ _ he
      subst h1; subst h2
      rw [exec_still hc v he]
      rw [he] at hs
      simp only [went, Went.on.injEq] at hs ⊢
      exact ⟨hs.1, trivial⟩
  · simp only [Went.on.injEq] at hs ⊢
    exact ⟨hs.1, trivial⟩
  · cases hs
end Go.CE

namespace Go.CE
variable {P : Program} {W : Frm} {G : Ghost} {s s' s1 : St} {w : World} {n : Nat} {a a' a1 : CAct} {A : Act} {o : Oper} {mt : Bool} {call : CallF} {ops : List Oper} {tab : Tab}

/-- one operation that is run: what it puts, by name -/
theorem step_sim2 (hZ : ZeroOk P) (hcall : CallOk P W call) (r : Rel W G s w) (ha : arel G n a A) (hc : cls o.op ≤ 3)
    {next : Act → World → Prop} {Q : Exit → Act → World → Prop}
    (hon : ∀ x s', stepOp P mt call ops o a s = .on (a.put o.dst x) s' → ∀ G' w' v, G.le G' → Rel W G' s' w' → tvrel G' x v → next (A.put o.dst v) w')
    (hpan : ∀ c s', stepOp P mt call ops o a s = .panic c s' → ∀ G' w' v, G.le G' → Rel W G' s' w' → vrel G' c v → Q (.panic [{ v, recovered := false }]) A w')
    (hst : stepOp P mt call ops o a s ≠ .stuck) :
    if Region.wanted o (yielded ⟨ops⟩ A.tmps) then o.wp P A w next Q else next (A.put o.dst undef) w := by
  unfold stepOp at hon hpan hst
  split at hon
  · rename_i hw
    have hwn := wanted_sim (o := o) ha rfl hw
    rw [hwn, if_pos rfl]
    simp only [hw] at hpan hst
    cases hex : execC P mt call a s o.op with
    | none => rw [hex] at hst; exact absurd rfl hst
    | some res =>
      rw [hex] at hon hpan
      have hs := exec_sim hZ hcall r ha hex
      have hnd := not_defer (P := P) (mt := mt) (call := call) (a := a) (s := s) hc
      rw [hex] at hnd
      unfold Oper.wp
      rcases hs with hs | ⟨cr, s', rfl, hs⟩
      · obtain ⟨x, s'⟩ := res
        cases x with
        | val x =>
          obtain ⟨G', w', v, h1, h2, h3, h4⟩ := hs
          rw [h3]
          exact hon _ _ rfl G' w' v h1 h2 h4
        | skip =>
          obtain ⟨G', w', h1, h2, h3⟩ := hs
          rw [h3]
          exact hon _ _ rfl G' w' undef h1 h2 undef_rel
        | panic c =>
          obtain ⟨G', w', v, h1, h2, h3, h4⟩ := hs
          rw [h3]
          exact hpan _ _ rfl G' w' v h1 h2 h4
        | defer f xs => exact absurd rfl (hnd _ _ _)
      · rcases hs with ⟨x, rfl, hs⟩ | ⟨g, args, w1, h1, hs⟩
        · obtain ⟨G', w', v, h1, h2, h3, h4⟩ := hs
          rw [h3]
          exact hon _ _ rfl G' w' v h1 h2 h4
        · rw [h1]
          refine Calls.mono hs ?_
          intro e w' he
          cases e with
          | returned v =>
            obtain ⟨G', h1, h2, x, rfl, h3⟩ := he
            exact hon _ _ rfl G' w' v h1 h2 h3
          | panicked chain =>
            obtain ⟨G', h1, h2, c, v, rfl, rfl, h3⟩ := he
            exact hpan _ _ rfl G' w' v h1 h2 h3
          | outgrown => exact he.elim
  · rename_i hw
    have hwn := wanted_sim (o := o) ha rfl hw
    rw [hwn]
    simp only [Bool.false_eq_true, if_false]
    exact hon _ _ rfl G w undef G.le_refl r undef_rel
  · rename_i hw
    simp only [hw] at hst
    exact absurd rfl hst

/-- the run: up to place M it goes on -/
structure Canon (P : Program) (mt : Bool) (call : CallF) (ops : List Oper) (tab : Tab) (a0 : CAct) (s0 : St) (r : CExit × CAct × St) (ac : Nat → CAct) (st : Nat → St) (M : Nat) : Prop where
  le : M ≤ tab.length
  a0 : ac 0 = a0
  s0 : st 0 = s0
  on : ∀ k i m o, k < M → At ops tab k i m o → stepOp P mt call ops o (ac k) (st k) = .on (ac (k + 1)) (st (k + 1))
  same : ∀ k i m o q i' m' o' d, k < M → At ops tab k i m o → 2 ≤ cls o.op → q < k → At ops tab q i' m' o' → cls o'.op = 1 → o'.dst = some d → hasB m i' = false →
    readSame ((ac (q + 1)).slots.get d) d (stepOp P mt call ops o' (ac q) (st (k + 1))) = true
  fin : (M = tab.length ∧ r = (.normal, ac M, st M)) ∨
    (∃ i m o v s', At ops tab M i m o ∧ cls o.op = 2 ∧ stepOp P mt call ops o (ac M) (st M) = .panic v s' ∧ r = (.panic v, blur ops (ac M), s') ∧
      makesOn P mt call ops (ac M) (st M) ops = true)

theorem stable_mem {m : Nat} : ∀ {l : List Red}, stable P mt call ops m s l = true → ∀ x ∈ l, hasB m x.i = false → readSame x.v x.d (stepOp P mt call ops x.o x.a s) = true
  | [], _, x, h, _ => by simp at h
  | y :: l, hs, x, h, hm => by
    simp only [stable] at hs
    split at hs
    · rename_i hb
      rcases List.mem_cons.1 h with h | h
      · subst h
        simpa [hm] using hb
      · exact stable_mem hs x h hm
    · cases hs

theorem drawGo_canon (hT : drawOK ops tab = true) {a0 : CAct} {s0 : St} {r : CExit × CAct × St} : ∀ (rest : Tab) (k : Nat) (ac : Nat → CAct) (st : Nat → St) (rd : List Red),
    rest = tab.drop k → k ≤ tab.length → ac 0 = a0 → st 0 = s0 →
    (∀ j i m o, j < k → At ops tab j i m o → stepOp P mt call ops o (ac j) (st j) = .on (ac (j + 1)) (st (j + 1))) →
    (∀ j i m o q i' m' o' d, j < k → At ops tab j i m o → 2 ≤ cls o.op → q < j → At ops tab q i' m' o' → cls o'.op = 1 → o'.dst = some d → hasB m i' = false →
      readSame ((ac (q + 1)).slots.get d) d (stepOp P mt call ops o' (ac q) (st (j + 1))) = true) →
    (∀ q i m o d, q < k → At ops tab q i m o → cls o.op = 1 → o.dst = some d → (⟨i, o, d, ac q, (ac (q + 1)).slots.get d⟩ : Red) ∈ rd) →
    drawGo P mt call ops rest rd (ac k) (st k) = some r → ∃ ac' st' M, Canon P mt call ops tab a0 s0 r ac' st' M
  | [], k, ac, st, rd, hr, hk, h0, h1, hon, hsm, hrd, h => by
    simp only [drawGo, Option.some.injEq] at h
    have : k = tab.length := by
      have := congrArg List.length hr
      simp at this
      omega
    exact ⟨ac, st, k, hk, h0, h1, hon, hsm, .inl ⟨this, h.symm⟩⟩
  | (i, m) :: rest, k, ac, st, rd, hr, hk, h0, h1, hon, hsm, hrd, h => by
    have htb : tab[k]? = some (i, m) := by
      have : (tab.drop k)[0]? = some (i, m) := by rw [← hr]; rfl
      simpa using this
    obtain ⟨o, hat⟩ := at_of hT htb
    have hrest : rest = tab.drop (k + 1) := by rw [← List.tail_drop, ← hr]; rfl
    have hlt : k < tab.length := (List.getElem?_eq_some_iff.1 htb).1
    simp only [drawGo, nthO_eq, hat.op, drawAt] at h
    cases hst : stepOp P mt call ops o (ac k) (st k) with
    | stuck => rw [hst] at h; simp [drawNext] at h
    | panic v s' =>
      rw [hst] at h
      simp only [drawNext] at h
      split at h
      · rename_i hc
        split at h
        · rename_i hmk
          cases h
          exact ⟨ac, st, k, hk, h0, h1, hon, hsm, .inr ⟨i, m, o, v, s', hat, hc, hst, rfl, hmk⟩⟩
        · cases h
      · cases h
    | on a' s' =>
      rw [hst] at h
      simp only [drawNext] at h
      -- one place more
      let ac' : Nat → CAct := fun j => if j = k + 1 then a' else ac j
      let st' : Nat → St := fun j => if j = k + 1 then s' else st j
      have eac : ∀ j, j ≤ k → ac' j = ac j := fun j hj => by simp only [ac']; rw [if_neg (by omega)]
      have est : ∀ j, j ≤ k → st' j = st j := fun j hj => by simp only [st']; rw [if_neg (by omega)]
      have eak : ac' (k + 1) = a' := by simp [ac']
      have esk : st' (k + 1) = s' := by simp [st']
      have on' : ∀ j i m o, j < k + 1 → At ops tab j i m o → stepOp P mt call ops o (ac' j) (st' j) = .on (ac' (j + 1)) (st' (j + 1)) := by
        intro j i2 m2 o2 hj h2
        by_cases e : j = k
        · subst e
          have : i2 = i ∧ m2 = m := by have := h2.tb; rw [htb] at this; simpa using this.symm
          obtain ⟨rfl, rfl⟩ := this
          have : o2 = o := by have := h2.op; rw [hat.op] at this; simpa using this.symm
          subst this
          rw [eac _ (Nat.le_refl _), est _ (Nat.le_refl _), eak, esk]
          exact hst
        · rw [eac _ (by omega), est _ (by omega), eac _ (by omega), est _ (by omega)]
          exact hon j i2 m2 o2 (by omega) h2
      have go : ∀ rd', (∀ x ∈ rd, x ∈ rd') → (∀ d, cls o.op = 1 → o.dst = some d → (⟨i, o, d, ac k, a'.slots.get d⟩ : Red) ∈ rd') → (2 ≤ cls o.op → stable P mt call ops m s' rd = true) →
          drawGo P mt call ops rest rd' a' s' = some r → ∃ ac' st' M, Canon P mt call ops tab a0 s0 r ac' st' M := by
        intro rd' hsub hnew hstb hgo
        refine drawGo_canon hT rest (k + 1) ac' st' rd' hrest hlt (by rw [eac 0 (Nat.zero_le _)]; exact h0) (by rw [est 0 (Nat.zero_le _)]; exact h1) on' ?_ ?_ (by rw [eak, esk]; exact hgo)
        · intro j i2 m2 o2 q i3 m3 o3 d hj h2 hc2 hq h3 hc3 hd3 hb
          by_cases e : j = k
          · subst e
            have : i2 = i ∧ m2 = m := by have := h2.tb; rw [htb] at this; simpa using this.symm
            obtain ⟨rfl, rfl⟩ := this
            have : o2 = o := by have := h2.op; rw [hat.op] at this; simpa using this.symm
            subst this
            rw [eac _ (by omega), eac _ (by omega), esk]
            exact stable_mem (hstb hc2) _ (hrd q i3 m3 o3 d hq h3 hc3 hd3) hb
          · rw [eac _ (by omega), eac _ (by omega), est _ (by omega)]
            exact hsm j i2 m2 o2 q i3 m3 o3 d (by omega) h2 hc2 hq h3 hc3 hd3 hb
        · intro q i3 m3 o3 d hq h3 hc3 hd3
          by_cases e : q = k
          · subst e
            have : i3 = i ∧ m3 = m := by have := h3.tb; rw [htb] at this; simpa using this.symm
            obtain ⟨rfl, rfl⟩ := this
            have : o3 = o := by have := h3.op; rw [hat.op] at this; simpa using this.symm
            subst this
            rw [eac _ (Nat.le_refl _), eak]
            exact hnew d hc3 hd3
          · rw [eac _ (by omega), eac _ (by omega)]
            exact hsub _ (hrd q i3 m3 o3 d (by omega) h3 hc3 hd3)
      split at h
      · rename_i hc
        exact go rd (fun _ h => h) (fun d hc1 => by omega) (fun hc2 => by omega) h
      · rename_i hc
        refine go _ ?_ ?_ (fun hc2 => by omega) h
        · intro x hx
          unfold redMore
          split
          · exact List.mem_cons_of_mem _ hx
          · exact hx
        · intro d _ hd
          unfold redMore
          rw [hd]
          exact List.mem_cons_self
      · rename_i hc0 hc1
        split at h
        · rename_i hstb
          exact go rd (fun _ h => h) (fun d hc _ => absurd hc hc1) (fun _ => hstb) h
        · cases h
end Go.CE

namespace Go.CE

structure Cx where
  P : Program
  mt : Bool
  call : CallF
  ops : List Oper
  tab : Tab
  a0 : CAct
  s0 : St
  r : CExit × CAct × St
  ac : Nat → CAct
  st : Nat → St
  M : Nat
  n : Nat
  W : Frm
  G0 : Ghost
structure Cx.Ok (c : Cx) : Prop where
  hT : drawOK c.ops c.tab = true
  cn : Canon c.P c.mt c.call c.ops c.tab c.a0 c.s0 c.r c.ac c.st c.M
  hZ : ZeroOk c.P
  hcall : ∀ W, CallOk c.P W c.call
  fit : opsFit c.n c.ops

/-- a variable that is made ahead of its place -/
structure Pend where
  d : Tmp
  b : Nat
  ob : Obj
  x : Box
  f : Nat → CV
  g : Nat → Value
def Frm.holds (W : Frm) : Option Pend → Frm
  | none => W
  | some q => W.hold q.b q.ob

structure PendOk (c : Cx) (L : Array Bool) (p : Nat) (A : Act) (q : Pend) : Prop where
  free : c.W.kp q.b = none
  ours : Obj.ours q.ob
  at_ : ∃ k i m o, p ≤ k ∧ At c.ops c.tab k i m o ∧ isMake o = true ∧ L[i]? = some true ∧ o.dst = some q.d ∧
    ∀ a s, stepOp c.P c.mt c.call c.ops o a s = .on (a.put (some q.d) (plain (q.f s.nb))) (s.push q.x)
  brel : ∀ G, brel G 0 0 q.x (some q.ob)
  vrel : ∀ (G : Ghost) i b z m, G.bx i = some (b, z, m) → vrel G (q.f i) (q.g b)
  val : A.tmps.getD q.d undef = q.g q.b

structure Inv (c : Cx) (L : Array Bool) (p : Nat) (pd : Option Pend) (G : Ghost) (A : Act) (w : World) : Prop where
  size : L.size = c.ops.length
  down : ∀ (i : Nat) (o : Oper), L[i]? = some true → c.ops[i]? = some o → ∀ d ∈ depsOf o, L[d]? = some true
  pM : p ≤ c.M
  eff : ∀ k i m o, k < p → At c.ops c.tab k i m o → 2 ≤ cls o.op → L[i]? = some true
  rest : ∀ k i m o, p ≤ k → At c.ops c.tab k i m o → L[i]? = some true → isMake o = true ∧ pd ≠ none
  rel : Rel (c.W.holds pd) G (c.st p) w
  le : c.G0.le G
  sz : A.tmps.size = c.n
  defers : dsrel G c.a0.defers A.defers
  s1 : ∀ t k i m o, k < p → At c.ops c.tab k i m o → L[i]? = some true → o.dst = some t →
    (∀ k' i' m' o', k < k' → At c.ops c.tab k' i' m' o' → L[i']? = some true → o'.dst ≠ some t) → tvrel G ((c.ac (k + 1)).slots.get t) (A.tmps.getD t undef)
  s0 : ∀ t, (∀ k i m o, At c.ops c.tab k i m o → L[i]? = some true → o.dst ≠ some t) → tvrel G (c.a0.slots.get t) (A.tmps.getD t undef)
  pend : ∀ q, pd = some q → PendOk c L p A q

theorem At.same {ops : List Oper} {tab : Tab} {k i m i' m' : Nat} {o o' : Oper} (h : At ops tab k i m o) (h' : At ops tab k i' m' o') : i' = i ∧ m' = m ∧ o' = o := by
  have h1 := h.tb
  rw [h'.tb] at h1
  cases h1
  have h2 := h.op
  rw [h'.op] at h2
  cases h2
  exact ⟨rfl, rfl, rfl⟩
theorem make_cls {o : Oper} (h : isMake o = true) : cls o.op = 3 := by
  unfold isMake at h
  split at h
  · rename_i e _ _; exact e
  · cases h
theorem cput_get {a : CAct} {dst : Option Tmp} {x : TV} {t : Tmp} : (a.put dst x).slots.get t = if dst = some t then x else a.slots.get t := by
  cases dst with
  | none => simp [CAct.put]
  | some d =>
    simp only [CAct.put, get_put, Option.some.injEq]
    by_cases h : t = d
    · simp [h]
    · simp [h, Ne.symm h]
theorem aput_get {A : Act} {dst : Option Tmp} {v : Value} {t : Tmp} (h : ∀ d, dst = some d → d < A.tmps.size) : (A.put dst v).tmps.getD t undef = if dst = some t then v else A.tmps.getD t undef := by
  cases dst with
  | none => simp [Act.put]
  | some d =>
    have := h d rfl
    simp only [Act.put, Option.some.injEq]
    by_cases e : d = t
    · subst e
      simp [Array.getD_eq_getD_getElem?, this]
    · simp [Array.getD_eq_getD_getElem?, Array.getElem?_setIfInBounds_ne e, e]
theorem lset {L : Array Bool} {i j : Nat} (hi : i < L.size) : (L.setIfInBounds i true)[j]? = some true ↔ j = i ∨ L[j]? = some true := by
  by_cases h : j = i
  · subst h; simp [hi]
  · rw [Array.getElem?_setIfInBounds_ne (Ne.symm h)]
    simp [h]

section
variable {c : Cx} (ok : c.Ok) {L : Array Bool} {p : Nat} {pd : Option Pend} {G : Ghost} {A : Act} {w : World}
include ok

theorem Inv.adv1 (v : Inv c L p pd G A w) (hp : p < c.M) (hL : ∀ i m o, At c.ops c.tab p i m o → 2 ≤ cls o.op → L[i]? = some true) :
    ∃ pd' G', Inv c L (p + 1) pd' G' A w := by
  have hlt : p < c.tab.length := Nat.lt_of_lt_of_le hp ok.cn.le
  have htb : c.tab[p]? = some (c.tab[p].1, c.tab[p].2) := by simp [hlt]
  obtain ⟨o, hat⟩ := at_of ok.hT htb
  have hon := ok.cn.on p _ _ o hp hat
  have eff' : ∀ k i m o, k < p + 1 → At c.ops c.tab k i m o → 2 ≤ cls o.op → L[i]? = some true := by
    intro k i m o hk h hc
    by_cases e : k = p
    · subst e; exact hL i m o h hc
    · exact v.eff k i m o (by omega) h hc
  rcases hat.kind ok.hT with hc | ⟨hc, _⟩ | hc | ⟨hc, hmk⟩
  case inr.inr.inl =>
    have := v.rest p _ _ o (Nat.le_refl _) hat (hL _ _ _ hat (by omega))
    have := make_cls this.1
    omega
  case inr.inr.inr =>
    -- it was made ahead
    have hl := hL _ _ _ hat (by omega)
    obtain ⟨_, hpd⟩ := v.rest p _ _ o (Nat.le_refl _) hat hl
    cases hq : pd with
    | none => exact absurd hq hpd
    | some q =>
      have po := v.pend q hq
      obtain ⟨k', i', m', o', hk', hat', hmk', hl', hd', hstep'⟩ := po.at_
      have hkk := hat.makes ok.hT hat' hmk' hmk
      subst hkk
      obtain ⟨rfl, rfl, rfl⟩ := hat.same hat'
      have hst := hstep' (c.ac p) (c.st p)
      rw [hon] at hst
      simp only [Went.on.injEq] at hst
      obtain ⟨eac, est⟩ := hst
      have r := v.rel
      rw [hq] at r
      have r' := Rel.holdBox r po.free po.ours (po.brel G)
      have le : G.le (G.addBox (c.st p).nb q.b 0 0) := Ghost.le_addBox r.bx_none
      refine ⟨none, _, ⟨v.size, v.down, hp, eff', ?_, by rw [est]; exact r', Ghost.le_trans v.le le, v.sz, dsrel_mono le v.defers, ?_, fun t h => (v.s0 t h).mono le, fun q h => by cases h⟩⟩
      · intro k i m o hk h hl
        have := v.rest k i m o (by omega) h hl
        have := h.makes ok.hT hat hmk this.1
        omega
      · intro t k i m o hk h hl hd hlast
        by_cases e : k = p
        · subst e
          obtain ⟨rfl, rfl, rfl⟩ := hat.same h
          rw [hd'] at hd
          cases hd
          rw [eac, cput_get, if_pos rfl, po.val]
          exact plain_rel (po.vrel _ (c.st k).nb q.b 0 0 (by simp [Ghost.addBox]))
        · exact (v.s1 t k i m o (by omega) h hl hd hlast).mono le
  all_goals
    have hc2 : cls o.op < 2 := by omega
    have est := (step_reads (P := c.P) (mt := c.mt) (call := c.call) (ops := c.ops) (a := c.ac p) (s := c.st p) hc2).1 _ _ hon
    have hno : ∀ i m o', At c.ops c.tab p i m o' → L[i]? = some true → False := by
      intro i m o' h hl
      obtain ⟨rfl, rfl, rfl⟩ := hat.same h
      have := make_cls (v.rest p _ _ _ (Nat.le_refl _) h hl).1
      omega
    refine ⟨pd, G, ⟨v.size, v.down, hp, eff', fun k i m o hk h hl => v.rest k i m o (by omega) h hl, by rw [est]; exact v.rel, v.le, v.sz, v.defers, ?_, v.s0, ?_⟩⟩
    · intro t k i m o hk h hl hd hlast
      by_cases e : k = p
      · subst e
        exact (hno _ _ _ h hl).elim
      · exact v.s1 t k i m o (by omega) h hl hd hlast
    · intro q hq
      have po := v.pend q hq
      obtain ⟨k', i', m', o', hk', hat', hmk', hl', hd', hstep'⟩ := po.at_
      have : k' ≠ p := by
        intro e
        subst e
        exact hno _ _ _ hat' hl'
      exact ⟨po.free, po.ours, ⟨k', i', m', o', by omega, hat', hmk', hl', hd', hstep'⟩, po.brel, po.vrel, po.val⟩

theorem Inv.adv {q : Nat} (v : Inv c L p pd G A w) (hq : p ≤ q) (hM : q ≤ c.M) (hL : ∀ k i m o, p ≤ k → k < q → At c.ops c.tab k i m o → 2 ≤ cls o.op → L[i]? = some true) :
    ∃ pd' G', Inv c L q pd' G' A w := by
  obtain ⟨d, rfl⟩ : ∃ d, q = p + d := ⟨q - p, by omega⟩
  clear hq
  induction d with
  | zero => exact ⟨pd, G, v⟩
  | succ d ih =>
    obtain ⟨pd', G', v'⟩ := ih (by omega) (fun k i m o h1 h2 => hL k i m o h1 (by omega))
    exact v'.adv1 ok (by omega) (fun i m o h hc => hL _ i m o (by omega) (by omega) h hc)

/-- a slot, as the run in the given order has it at place q -/
theorem Inv.slot_at (v : Inv c L p pd G A w) {q : Nat} (hq : q ≤ p) {t : Tmp} (hb : ∀ k i m o, k < q → At c.ops c.tab k i m o → o.dst = some t → L[i]? = some true)
    (ha : ∀ k i m o, q ≤ k → At c.ops c.tab k i m o → L[i]? = some true → o.dst ≠ some t) : tvrel G ((c.ac q).slots.get t) (A.tmps.getD t undef) := by
  have hM := v.pM
  have key : ∀ k, k ≤ q → (∀ k' i m o, k ≤ k' → k' < q → At c.ops c.tab k' i m o → o.dst ≠ some t) → tvrel G ((c.ac k).slots.get t) (A.tmps.getD t undef) := by
    intro k
    induction k with
    | zero =>
      intro _ hno
      rw [ok.cn.a0]
      refine v.s0 t fun k i m o h hl => ?_
      rcases Nat.lt_or_ge k q with e | e
      · exact hno k i m o (Nat.zero_le _) e h
      · exact ha k i m o e h hl
    | succ k ih =>
      intro hk hno
      have hlt : k < c.tab.length := Nat.lt_of_lt_of_le (by omega : k < c.M) ok.cn.le
      have htb : c.tab[k]? = some (c.tab[k].1, c.tab[k].2) := by simp [hlt]
      obtain ⟨o, hat⟩ := at_of ok.hT htb
      have hon := ok.cn.on k _ _ o (by omega) hat
      by_cases hd : o.dst = some t
      · refine v.s1 t k _ _ o (by omega) hat (hb k _ _ o (by omega) hat hd) hd ?_
        intro k' i' m' o' hk' h' hl'
        rcases Nat.lt_or_ge k' q with e | e
        · exact hno k' i' m' o' (by omega) e h'
        · exact ha k' i' m' o' e h' hl'
      · have hcl : cls o.op ≤ 3 := by rcases hat.kind ok.hT with h | ⟨h, _⟩ | h | ⟨h, _⟩ <;> omega
        obtain ⟨x, hx⟩ := step_put hcl hon
        rw [hx, cput_get, if_neg hd]
        refine ih (by omega) fun k' i m o' h1 h2 h3 => ?_
        by_cases e : k' = k
        · subst e
          obtain ⟨rfl, rfl, rfl⟩ := hat.same h3
          exact hd
        · exact hno k' i m o' (by omega) h2 h3
  exact key q (Nat.le_refl _) (fun k' i m o h1 h2 => by omega)
end
end Go.CE
