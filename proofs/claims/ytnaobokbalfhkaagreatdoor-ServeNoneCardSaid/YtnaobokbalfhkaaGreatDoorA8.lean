/- Regions whose order is drawn answer alike in every order; a variable that the tape sets; slices.Clone of what is empty. Conditions: the check of the order. -/
import Derived.Test.YtnaobokbalfhkaaGreatDoorA7
namespace Go.CE

/-- slots by a rule -/
def mkSlots (f : Nat → TV) : Nat → Slots
  | 0 => ([] : List (List TV))
  | m + 1 => (mkSlots f m).put m (f m)
theorem mkSlots_get (f : Nat → TV) : ∀ (m t : Nat), (mkSlots f m).get t = if t < m then f t else undefC
  | 0, t => by
    show nth undefC (nth ([] : List TV) ([] : List (List TV)) (t / 8)) (t % 8) = _
    rw [nth_nil, nth_nil]
    simp
  | m + 1, t => by
    rw [mkSlots, get_put, mkSlots_get f m t]
    by_cases h : t = m
    · simp [h]
    · have : t < m + 1 ↔ t < m := by omega
      simp [h, this]
theorem le_total : ∀ {l : List Nat} {t : Nat}, t ∈ l → t ≤ l.foldr (· + ·) 0
  | [], _, h => by simp at h
  | x :: l, t, h => by
    simp only [List.foldr_cons]
    rcases List.mem_cons.1 h with h | h
    · omega
    · have := le_total h; omega
theorem clash_names {ops : List Oper} {x y : Oper} {t : Tmp} (h1 : x.dst = some t) (h2 : t ∈ namesOf ops y) : clash ops x y = true ∧ clash ops y x = true := by
  have : clash1 ops x y = true := by simp [clash1, h1, hasN_iff.2 h2]
  simp [clash, this]
theorem clash_dst {ops : List Oper} {x y : Oper} {t : Tmp} (h1 : x.dst = some t) (h2 : y.dst = some t) : clash ops x y = true := by
  have : clash1 ops x y = true := by simp [clash1, h1, h2]
  simp [clash, this]

section
variable {c : Cx} (ok : c.Ok) {L : Array Bool} {p : Nat} {pd : Option Pend} {G : Ghost} {A : Act} {w : World}
include ok

theorem Inv.waits (v : Inv c L p pd G A w) {q i m : Nat} {o : Oper} (h : At c.ops c.tab q i m o) (hd : ∀ d ∈ depsOf o, L[d]? = some true) : ∀ j, hasB m j = true → L[j]? = some true :=
  h.waits ok.hT (S := fun i => L[i]? = some true) v.down hd
/-- an activation for an operation: what it names is as the run in the given order has it -/
theorem Inv.act (v : Inv c L p pd G A w) {q i m : Nat} {o : Oper} (h : At c.ops c.tab q i m o) (hd : ∀ d ∈ depsOf o, L[d]? = some true) (hL : L[i]? ≠ some true) (hq : q ≤ p) :
    ∃ a : CAct, arel G c.n a A ∧ agrees c.ops o (c.ac q) a := by
  have hw := v.waits ok h hd
  have names : ∀ t ∈ namesOf c.ops o, tvrel G ((c.ac q).slots.get t) (A.tmps.getD t undef) := by
    intro t ht
    refine v.slot_at ok hq ?_ ?_
    · intro k i' m' o' hk h' hd'
      exact hw _ (h.clash ok.hT h' hk (clash_names hd' ht).1)
    · intro k i' m' o' hk h' hl' hd'
      by_cases e : k = q
      · subst e
        obtain ⟨rfl, rfl, rfl⟩ := h.same h'
        exact hL hl'
      · have := h'.clash ok.hT h (by omega) (clash_names hd' ht).2
        exact hL (h'.mask ok.hT (S := fun i => L[i]? = some true) v.down hl' _ this)
  let f : Nat → TV := fun t => if t ∈ namesOf c.ops o then (c.ac q).slots.get t else unkC
  let m := c.n + (namesOf c.ops o).foldr (· + ·) 0 + 1
  have hm : ∀ t ∈ namesOf c.ops o, t < m := by
    intro t ht
    have := le_total ht
    omega
  refine ⟨{ slots := mkSlots f m, defers := c.a0.defers }, ⟨v.sz, fun t => ?_, v.defers⟩, fun t ht => ?_⟩
  · simp only [mkSlots_get]
    split
    · simp only [f]
      split
      · rename_i ht; exact names t ht
      · exact unk_rel
    · rename_i ht
      have : A.tmps.getD t undef = undef := by
        have := v.sz
        rw [Array.getD_eq_getD_getElem?, Array.getElem?_eq_none (by omega)]
        rfl
      rw [this]
      exact undef_rel
  · simp only [mkSlots_get, hm t ht, if_true, f, ht]

/-- one operation more -/
theorem Inv.more (v : Inv c L p pd G A w) {q i m : Nat} {o : Oper} (h : At c.ops c.tab q i m o) (hd : ∀ d ∈ depsOf o, L[d]? = some true) (hL : L[i]? ≠ some true)
    {p' : Nat} (hp : p ≤ p') (hpM : p' ≤ c.M) (hq : q < p') (hpq : ∀ k, p ≤ k → k < p' → k = q) {G' : Ghost} (le : G.le G') {w' : World} (r : Rel (c.W.holds pd) G' (c.st p') w')
    {x : TV} {u : Value} (hx : c.ac (q + 1) = (c.ac q).put o.dst x) (hu : tvrel G' x u) : Inv c (L.setIfInBounds i true) p' pd G' (A.put o.dst u) w' := by
  have hi : i < L.size := by rw [v.size]; exact (List.getElem?_eq_some_iff.1 h.op).1
  have hmask : ∀ {k i' m' o'}, At c.ops c.tab k i' m' o' → L[i']? = some true → ∀ j, hasB m' j = true → L[j]? = some true := fun h' hl' => h'.mask ok.hT (S := fun i => L[i]? = some true) v.down hl'
  have hdA : ∀ d, o.dst = some d → d < A.tmps.size := fun d hd => by rw [v.sz]; exact ok.fit o (List.mem_of_getElem? h.op) d hd
  have getA : ∀ t, (A.put o.dst u).tmps.getD t undef = if o.dst = some t then u else A.tmps.getD t undef := fun t => aput_get hdA
  refine ⟨by simp [v.size], ?_, hpM, ?_, ?_, r, Ghost.le_trans v.le le, ?_, ?_, ?_, ?_, ?_⟩
  · intro i' o' h' ho' d hd'
    rw [lset hi] at h' ⊢
    rcases h' with rfl | h'
    · rw [h.op] at ho'
      cases ho'
      exact .inr (hd d hd')
    · exact .inr (v.down i' o' h' ho' d hd')
  · intro k i' m' o' hk h' hc
    rw [lset hi]
    by_cases e : k < p
    · exact .inr (v.eff k i' m' o' e h' hc)
    · have := hpq k (by omega) hk
      subst this
      exact .inl (h.same h').1
  · intro k i' m' o' hk h' hl'
    rw [lset hi] at hl'
    rcases hl' with rfl | hl'
    · have := h'.uniq ok.hT h
      omega
    · exact v.rest k i' m' o' (by omega) h' hl'
  · have := v.sz
    cases hdst : o.dst with
    | none => simpa [Act.put] using this
    | some d => simpa [Act.put] using this
  · have := dsrel_mono le v.defers
    cases hdst : o.dst with
    | none => simpa [Act.put] using this
    | some d => simpa [Act.put] using this
  · intro t k i' m' o' hk h' hl' hd' hlast
    rw [getA t]
    rw [lset hi] at hl'
    by_cases e : k = q
    · subst e
      obtain ⟨rfl, rfl, rfl⟩ := h.same h'
      rw [if_pos hd', hx, cput_get, if_pos hd']
      exact hu
    · have hne : i' ≠ i := by
        intro e'
        subst e'
        exact e (h'.uniq ok.hT h)
      have hl : L[i']? = some true := hl'.resolve_left hne
      have hkp : k < p := by
        rcases Nat.lt_or_ge k p with e' | e'
        · exact e'
        · exact absurd (hpq k e' hk) e
      have hno : ¬ o.dst = some t := by
        intro ho
        rcases Nat.lt_or_ge k q with e' | e'
        · exact hlast q i m o e' h ((lset hi).2 (.inl rfl)) ho
        · exact hL (hmask h' hl _ (h'.clash ok.hT h (by omega) (clash_dst ho hd')))
      rw [if_neg hno]
      exact (v.s1 t k i' m' o' hkp h' hl hd' (fun k2 i2 m2 o2 h1 h2 h3 => hlast k2 i2 m2 o2 h1 h2 ((lset hi).2 (.inr h3)))).mono le
  · intro t hno
    have h1 : ¬ o.dst = some t := hno q i m o h ((lset hi).2 (.inl rfl))
    rw [getA t, if_neg h1]
    exact (v.s0 t (fun k i' m' o' h' hl' => hno k i' m' o' h' ((lset hi).2 (.inr hl')))).mono le
  · intro q' hq'
    have po := v.pend q' hq'
    obtain ⟨k, i', m', o', hk, h', hmk, hl', hd', hst⟩ := po.at_
    have hkq : k ≠ q := by
      intro e
      subst e
      obtain ⟨rfl, rfl, rfl⟩ := h.same h'
      exact hL hl'
    have hkp : p' ≤ k := by
      rcases Nat.lt_or_ge k p' with e | e
      · exact absurd (hpq k hk e) hkq
      · exact e
    refine ⟨po.free, po.ours, ⟨k, i', m', o', hkp, h', hmk, (lset hi).2 (.inr hl'), hd', hst⟩, po.brel, po.vrel, ?_⟩
    have hno : ¬ o.dst = some q'.d := fun ho => hL (hmask h' hl' _ (h'.clash ok.hT h (by omega) (clash_dst ho hd')))
    rw [getA, if_neg hno]
    exact po.val

/-- a variable is made, ahead of its place or not -/
theorem Inv.make (v : Inv c L p pd G A w) {q i m : Nat} {o : Oper} (h : At c.ops c.tab q i m o) (hd : ∀ d ∈ depsOf o, L[d]? = some true) (hL : L[i]? ≠ some true) (hmk : isMake o = true)
    {d : Tmp} {x : Box} {f : Nat → CV} {g : Nat → Value} {ob : Obj} (hdst : o.dst = some d) (hours : Obj.ours ob)
    (hst : ∀ a s, stepOp c.P c.mt c.call c.ops o a s = .on (a.put (some d) (plain (f s.nb))) (s.push x)) (hb : ∀ G, brel G 0 0 x (some ob)) (hv : ∀ (G : Ghost) i b z m, G.bx i = some (b, z, m) → vrel G (f i) (g b)) :
    ∃ pd', Inv c (L.setIfInBounds i true) p pd' G (A.put o.dst (g w.heap.size)) (Go.CE.put w ob) := by
  have hi : i < L.size := by rw [v.size]; exact (List.getElem?_eq_some_iff.1 h.op).1
  have hpd : pd = none := by
    cases hpd : pd with
    | none => rfl
    | some q' =>
      obtain ⟨k, i', m', o', hk, h', hmk', hl', _⟩ := (v.pend q' hpd).at_
      have := h.makes ok.hT h' hmk' hmk
      subst this
      obtain ⟨rfl, rfl, rfl⟩ := h.same h'
      exact absurd hl' hL
  subst hpd
  have hqp : p ≤ q := by
    rcases Nat.lt_or_ge q p with e | e
    · exact absurd (v.eff q i m o e h (by rw [make_cls hmk]; omega)) hL
    · exact e
  have hdA : ∀ d, o.dst = some d → d < A.tmps.size := fun d hd => by rw [v.sz]; exact ok.fit o (List.mem_of_getElem? h.op) d hd
  have getA : ∀ t, (A.put o.dst (g w.heap.size)).tmps.getD t undef = if o.dst = some t then g w.heap.size else A.tmps.getD t undef := fun t => aput_get hdA
  have r : Rel c.W G (c.st p) w := v.rel
  refine ⟨some ⟨d, w.heap.size, ob, x, f, g⟩, ⟨by simp [v.size], ?_, v.pM, ?_, ?_, r.putHold hours, v.le, ?_, ?_, ?_, ?_, ?_⟩⟩
  · intro i' o' h' ho' d hd'
    rw [lset hi] at h' ⊢
    rcases h' with rfl | h'
    · rw [h.op] at ho'
      cases ho'
      exact .inr (hd d hd')
    · exact .inr (v.down i' o' h' ho' d hd')
  · intro k i' m' o' hk h' hc
    rw [lset hi]
    exact .inr (v.eff k i' m' o' hk h' hc)
  · intro k i' m' o' hk h' hl'
    rw [lset hi] at hl'
    rcases hl' with rfl | hl'
    · have := h'.uniq ok.hT h
      subst this
      obtain ⟨_, rfl, rfl⟩ := h.same h'
      exact ⟨hmk, by simp⟩
    · exact absurd rfl (v.rest k i' m' o' (by omega) h' hl').2
  · have := v.sz
    rw [hdst]
    simpa [Act.put] using this
  · have := v.defers
    rw [hdst]
    simpa [Act.put] using this
  · intro t k i' m' o' hk h' hl' hd' hlast
    rw [lset hi] at hl'
    have hne : i' ≠ i := by
      intro e'
      subst e'
      have := h'.uniq ok.hT h
      omega
    have hl : L[i']? = some true := hl'.resolve_left hne
    have hno : ¬ o.dst = some t := fun ho => hlast q i m o (by omega) h ((lset hi).2 (.inl rfl)) ho
    rw [getA t, if_neg hno]
    exact v.s1 t k i' m' o' hk h' hl hd' (fun k2 i2 m2 o2 h1 h2 h3 => hlast k2 i2 m2 o2 h1 h2 ((lset hi).2 (.inr h3)))
  · intro t hno
    have h1 : ¬ o.dst = some t := hno q i m o h ((lset hi).2 (.inl rfl))
    rw [getA t, if_neg h1]
    exact v.s0 t (fun k i' m' o' h' hl' => hno k i' m' o' h' ((lset hi).2 (.inr hl')))
  · intro q' hq'
    cases hq'
    exact ⟨r.free, hours, ⟨q, i, m, o, hqp, h, hmk, (lset hi).2 (.inl rfl), hdst, hst⟩, hb, hv, by rw [getA, if_pos hdst]⟩

/-- what was read reads the same at a later place -/
theorem Inv.still (v : Inv c L p pd G A w) {q i m : Nat} {o : Oper} (h : At c.ops c.tab q i m o) (hL : L[i]? ≠ some true) (hc : cls o.op < 2) (hq : q < p) :
    ∃ x, c.ac (q + 1) = (c.ac q).put o.dst x ∧ stepOp c.P c.mt c.call c.ops o (c.ac q) (c.st p) = .on ((c.ac q).put o.dst x) (c.st p) := by
  have hM := v.pM
  have hon := ok.cn.on q i m o (by omega) h
  obtain ⟨x, hx⟩ := step_put (by omega) hon
  refine ⟨x, hx, ?_⟩
  have hs := (step_reads (P := c.P) (mt := c.mt) (call := c.call) (ops := c.ops) (a := c.ac q) (s := c.st q) hc).1 _ _ hon
  rw [hx] at hon
  have key : ∀ k, q < k → k ≤ p → stepOp c.P c.mt c.call c.ops o (c.ac q) (c.st k) = .on ((c.ac q).put o.dst x) (c.st k) := by
    intro k
    induction k with
    | zero => intro h; omega
    | succ k ih =>
      intro h1 h2
      by_cases e : k = q
      · subst e
        rw [hs] at hon ⊢
        exact hon
      · have ih := ih (by omega) (by omega)
        have hlt : k < c.tab.length := Nat.lt_of_lt_of_le (by omega : k < c.M) ok.cn.le
        have htb : c.tab[k]? = some (c.tab[k].1, c.tab[k].2) := by simp [hlt]
        obtain ⟨ok', hat⟩ := at_of ok.hT htb
        have honk := ok.cn.on k _ _ ok' (by omega) hat
        by_cases hck : cls ok'.op < 2
        · have := (step_reads (P := c.P) (mt := c.mt) (call := c.call) (ops := c.ops) (a := c.ac k) (s := c.st k) hck).1 _ _ honk
          rw [this]
          exact ih
        · rcases h.kind ok.hT with hc0 | ⟨hc1, d, hd⟩ | h2 | ⟨h2, _⟩
          · exact step_still hc0 ih _
          · have hlk := v.eff k _ _ ok' (by omega) hat (by omega)
            have hb : hasB c.tab[k].2 i = false := by
              cases hb : hasB c.tab[k].2 i with
              | false => rfl
              | true => exact absurd (hat.mask ok.hT (S := fun i => L[i]? = some true) v.down hlk _ hb) hL
            have hsame := ok.cn.same k _ _ ok' q i m o d (by omega) hat (by omega) (by omega) h hc1 hd hb
            unfold readSame at hsame
            split at hsame
            · rename_i a'' s'' hst
              have e1 := (step_reads (P := c.P) (mt := c.mt) (call := c.call) (ops := c.ops) (a := c.ac q) (s := c.st (k + 1)) hc).1 _ _ hst
              obtain ⟨x', hx'⟩ := step_put (by omega) hst
              have e2 := tvEq_eq hsame
              rw [hx', hx, cput_get, if_pos hd, cput_get, if_pos hd] at e2
              rw [hst, hx', e1, e2]
            · cases hsame
          · omega
          · omega
  exact key p hq (Nat.le_refl _)
end
end Go.CE

namespace Go.CE

theorem wpOp_of {P : Program} {ops : List Oper} {Q : Exit → Act → World → Prop} {i : Nat} {o : Oper} {K : Act → World → Prop} {A : Act} {w : World} (ho : ops[i]? = some o)
    (h : if Region.wanted o (yielded ⟨ops⟩ A.tmps) then o.wp P A w K Q else K (A.put o.dst undef) w) : wpOp P ⟨ops⟩ Q i K A w := by
  unfold wpOp
  simp only [List.getElem?_toArray, ho]
  split
  · rename_i hw
    rw [if_pos hw] at h
    exact .inl h
  · rename_i hw
    rw [if_neg hw] at h
    exact h
theorem blur_get : ∀ (l : List Oper) (a : CAct) (t : Tmp), (blur l a).slots.get t = if (∃ o ∈ l, o.dst = some t) then unkC else a.slots.get t
  | [], a, t => by simp [blur]
  | o :: l, a, t => by
    rw [blur, blur_get l, cput_get]
    by_cases h : o.dst = some t
    · simp [h]
    · by_cases k : ∃ o ∈ l, o.dst = some t
      · have : ∃ o' ∈ o :: l, o'.dst = some t := by
          obtain ⟨o', h1, h2⟩ := k
          exact ⟨o', List.mem_cons_of_mem _ h1, h2⟩
        rw [if_pos k, if_pos this]
      · have : ¬ ∃ o' ∈ o :: l, o'.dst = some t := by
          rintro ⟨o', h1, h2⟩
          rcases List.mem_cons.1 h1 with rfl | h1
          · exact h h2
          · exact k ⟨o', h1, h2⟩
        rw [if_neg k, if_neg this, if_neg h]
theorem blur_defers : ∀ (l : List Oper) (a : CAct), (blur l a).defers = a.defers
  | [], a => rfl
  | o :: l, a => by
    rw [blur, blur_defers l]
    cases o.dst <;> rfl
theorem makesOn_mem {P : Program} {mt : Bool} {call : CallF} {ops : List Oper} {a : CAct} {s : St} : ∀ {l : List Oper}, makesOn P mt call ops a s l = true → ∀ o ∈ l, isMake o = true → ∃ a' s', stepOp P mt call ops o a s = .on a' s'
  | [], _, o, h, _ => by simp at h
  | o' :: l, hm, o, h, hmk => by
    simp only [makesOn] at hm
    split at hm
    · rename_i hb
      rcases List.mem_cons.1 h with h | h
      · subst h
        simp only [hmk, Bool.not_true, Bool.false_or] at hb
        unfold isOn at hb
        split at hb
        · rename_i a' s' he; exact ⟨a', s', he⟩
        · cases hb
      · exact makesOn_mem hm o h hmk
    · cases hm

section
variable {c : Cx} (ok : c.Ok) {L : Array Bool} {p : Nat} {pd : Option Pend} {G : Ghost} {A : Act} {w : World}
include ok

theorem Cx.Ok.defers : ∀ k, k ≤ c.M → (c.ac k).defers = c.a0.defers := by
  intro k
  induction k with
  | zero => intro _; rw [ok.cn.a0]
  | succ k ih =>
    intro hk
    have hlt : k < c.tab.length := Nat.lt_of_lt_of_le (by omega : k < c.M) ok.cn.le
    have htb : c.tab[k]? = some (c.tab[k].1, c.tab[k].2) := by simp [hlt]
    obtain ⟨o, hat⟩ := at_of ok.hT htb
    have hon := ok.cn.on k _ _ o (by omega) hat
    have hcl : cls o.op ≤ 3 := by rcases hat.kind ok.hT with h | ⟨h, _⟩ | h | ⟨h, _⟩ <;> omega
    obtain ⟨x, hx⟩ := step_put hcl hon
    rw [hx, ← ih (by omega)]
    cases o.dst <;> rfl
theorem Cx.Ok.nowrite {t : Tmp} (h : ¬ ∃ o ∈ c.ops, o.dst = some t) : ∀ k, k ≤ c.M → (c.ac k).slots.get t = c.a0.slots.get t := by
  intro k
  induction k with
  | zero => intro _; rw [ok.cn.a0]
  | succ k ih =>
    intro hk
    have hlt : k < c.tab.length := Nat.lt_of_lt_of_le (by omega : k < c.M) ok.cn.le
    have htb : c.tab[k]? = some (c.tab[k].1, c.tab[k].2) := by simp [hlt]
    obtain ⟨o, hat⟩ := at_of ok.hT htb
    have hon := ok.cn.on k _ _ o (by omega) hat
    have hcl : cls o.op ≤ 3 := by rcases hat.kind ok.hT with h | ⟨h, _⟩ | h | ⟨h, _⟩ <;> omega
    obtain ⟨x, hx⟩ := step_put hcl hon
    have hno : ¬ o.dst = some t := fun e => h ⟨o, List.mem_of_getElem? hat.op, e⟩
    rw [hx, cput_get, if_neg hno, ih (by omega)]

/-- all is done -/
theorem Inv.done (v : Inv c L p pd G A w) (hL : ∀ i < c.ops.length, L[i]? = some true) : CPost c.W c.G0 c.n c.r .normal A w := by
  have hi : ∀ {k i m o}, At c.ops c.tab k i m o → L[i]? = some true := fun h => hL _ (List.getElem?_eq_some_iff.1 h.op).1
  have hM : ∀ {k i m o}, c.M ≤ k → At c.ops c.tab k i m o → isMake o = true := fun hk h => (v.rest _ _ _ _ (Nat.le_trans v.pM hk) h (hi h)).1
  rcases ok.cn.fin with ⟨h1, h2⟩ | ⟨i, m, o, v', s', h1, h2, _⟩
  · obtain ⟨pd', G', v'⟩ := v.adv ok v.pM (Nat.le_refl _) (fun k i m o _ _ h _ => hi h)
    have hnone : pd' = none := by
      cases hp : pd' with
      | none => rfl
      | some q =>
        obtain ⟨k, i, m, o, hk, h, _⟩ := (v'.pend q hp).at_
        have := (List.getElem?_eq_some_iff.1 h.tb).1
        omega
    subst hnone
    rw [h2]
    refine ⟨G', v'.le, v'.rel, ⟨v'.sz, fun t => ?_, ?_⟩, trivial⟩
    · refine v'.slot_at ok (Nat.le_refl _) (fun k i m o _ h _ => hi h) ?_
      intro k i m o hk h
      have := (List.getElem?_eq_some_iff.1 h.tb).1
      omega
    · have := v'.defers
      rw [ok.defers _ (Nat.le_refl _)]
      exact this
  · have := make_cls (hM (Nat.le_refl _) h1)
    omega

/-- it panics -/
theorem Inv.panic (v : Inv c L p pd G A w) {vc : CV} {s' : St} (hr : c.r = (.panic vc, blur c.ops (c.ac c.M), s')) {G' : Ghost} (le : G.le G') {w' : World} (r : Rel (c.W.holds pd) G' s' w') {u : Value} (hu : vrel G' vc u) :
    CPost c.W c.G0 c.n c.r (.panic [{ v := u, recovered := false }]) A w' := by
  have r' : Rel c.W G' s' w' := by
    cases hp : pd with
    | none => rw [hp] at r; exact r
    | some q =>
      rw [hp] at r
      have po := v.pend q hp
      exact Rel.unhold r po.free po.ours
  rw [hr]
  refine ⟨G', Ghost.le_trans v.le le, r', ⟨v.sz, fun t => ?_, ?_⟩, u, rfl, hu⟩
  · rw [blur_get]
    split
    · exact unk_rel
    · rename_i hno
      rw [ok.nowrite hno _ (Nat.le_refl _)]
      exact (v.s0 t (fun k i m o h _ hd => hno ⟨o, List.mem_of_getElem? h.op, hd⟩)).mono le
  · rw [blur_defers, ok.defers _ (Nat.le_refl _)]
    exact dsrel_mono le v.defers

theorem Inv.go : ∀ (fuel : Nat) (L : Array Bool) (p : Nat) (pd : Option Pend) (G : Ghost) (A : Act) (w : World), Inv c L p pd G A w → L.toList.count false ≤ fuel →
    wpAny c.P .any ⟨c.ops⟩ (CPost c.W c.G0 c.n c.r) fuel L A w := by
  -- nothing is ready: all is done
  have noneReady : ∀ (L : Array Bool), L.size = c.ops.length → Region.ready .any ⟨c.ops⟩ L = [] → ∀ i < c.ops.length, L[i]? = some true := by
    intro L hsz hr
    have key : ∀ k i m o, At c.ops c.tab k i m o → L[i]? = some true := by
      intro k
      induction k using Nat.strongRecOn with
      | ind k ih =>
        intro i m o h
        have hi : i < L.size := by rw [hsz]; exact (List.getElem?_eq_some_iff.1 h.op).1
        cases hl : L[i]? with
        | none => simp at hl; omega
        | some b =>
          cases b with
          | true => rfl
          | false =>
            have : i ∈ Region.ready .any ⟨c.ops⟩ L := by
              refine ready_iff.2 ⟨o, h.op, by simp [Array.getD_eq_getD_getElem?, hl], ?_⟩
              intro d hd
              obtain ⟨k', m', x, h1, h2⟩ := h.deps ok.hT d hd
              simp [Array.getD_eq_getD_getElem?, ih k' h1 d m' x h2]
            rw [hr] at this
            simp at this
    intro i hi
    obtain ⟨k, m, o, h⟩ := at_ex ok.hT hi
    exact key k i m o h
  intro fuel
  induction fuel with
  | zero =>
    intro L p pd G A w v hcount
    have hall : ∀ i < c.ops.length, L[i]? = some true := by
      intro i hi
      have hc : L.toList.count false = 0 := by omega
      rw [List.count_eq_zero] at hc
      have hi' : i < L.size := by rw [v.size]; exact hi
      cases hl : L[i]? with
      | none => simp at hl; omega
      | some b =>
        cases b with
        | true => rfl
        | false => exact absurd (by rw [← Array.getElem?_toList] at hl; exact List.mem_of_getElem? hl) hc
    refine ⟨?_, v.done ok hall⟩
    cases hr : Region.ready .any ⟨c.ops⟩ L with
    | nil => rfl
    | cons i t =>
      have : i ∈ Region.ready .any ⟨c.ops⟩ L := by rw [hr]; simp
      obtain ⟨o, h1, h2, _⟩ := ready_iff.1 this
      have := hall i (List.getElem?_eq_some_iff.1 h1).1
      simp [Array.getD_eq_getD_getElem?, this] at h2
  | succ fuel ih =>
    intro L p pd G A w v hcount
    refine ⟨fun hr => v.done ok (noneReady L v.size hr), fun i hi => ?_⟩
    obtain ⟨o, ho, hl, hdeps⟩ := ready_iff.1 hi
    have hlt : i < c.ops.length := (List.getElem?_eq_some_iff.1 ho).1
    have hlt' : i < L.size := by rw [v.size]; exact hlt
    have hLf : L[i]? = some false := by
      cases hq : L[i]? with
      | none => simp at hq; omega
      | some b => simp [Array.getD_eq_getD_getElem?, hq] at hl; rw [hl]
    have hL : L[i]? ≠ some true := by rw [hLf]; simp
    have hd : ∀ d ∈ depsOf o, L[d]? = some true := by
      intro d hd
      have := hdeps d hd
      cases hq : L[d]? with
      | none => simp [Array.getD_eq_getD_getElem?, hq] at this
      | some b => simp [Array.getD_eq_getD_getElem?, hq] at this; rw [this]
    have hcount' : (L.setIfInBounds i true).toList.count false ≤ fuel := by
      rw [Array.toList_setIfInBounds, List.count_set (by simpa using hlt')]
      have hm : L.toList[i]'(by simpa using hlt') = false := by
        have := hLf
        rw [Array.getElem?_eq_getElem hlt'] at this
        simpa using this
      have hpos : 0 < L.toList.count false := List.count_pos_iff.2 (by rw [← hm]; exact List.getElem_mem _)
      have e1 : (false == false) = true := rfl
      have e2 : (true == false) = false := rfl
      rw [hm]
      simp only [e1, e2, if_true, Bool.false_eq_true, if_false]
      omega
    obtain ⟨q, m, o', h⟩ := at_ex ok.hT hlt
    have : o' = o := by have := h.op; rw [ho] at this; simpa using this.symm
    subst this
    have hw := v.waits ok h hd
    by_cases hmk : isMake o' = true
    · -- a variable is made
      have hon : ∃ a s a' s', stepOp c.P c.mt c.call c.ops o' a s = .on a' s' := by
        rcases Nat.lt_or_ge q c.M with hq | hq
        · exact ⟨_, _, _, _, ok.cn.on q i m o' hq h⟩
        · rcases ok.cn.fin with ⟨h1, _⟩ | ⟨_, _, _, _, _, _, _, _, _, hmo⟩
          · have := (List.getElem?_eq_some_iff.1 h.tb).1
            omega
          · obtain ⟨a', s', he⟩ := makesOn_mem hmo o' (List.mem_of_getElem? ho) hmk
            exact ⟨_, _, _, _, he⟩
      obtain ⟨a, s, a', s', hon⟩ := hon
      obtain ⟨d, x, f, g, ob, hdst, hours, hst, hrun, hb, hv⟩ := make_run hmk hon
      obtain ⟨pd', v'⟩ := v.make ok h hd hL hmk hdst hours hst hb hv
      obtain ⟨hwant, hexec⟩ := hrun A w
      refine wpOp_of ho ?_
      rw [if_pos hwant]
      unfold Oper.wp
      rw [hexec]
      exact ih _ _ _ _ _ _ v' hcount'
    · have hmk : isMake o' = false := by simpa using hmk
      have before : ∀ k i' m' o2, k < q → At c.ops c.tab k i' m' o2 → 2 ≤ cls o2.op → L[i']? = some true := fun k i' m' o2 hk h' hc => hw _ (h.eff ok.hT h' hk hc hmk)
      have hqM : q < c.M ∨ (q = c.M ∧ 2 ≤ cls o'.op) := by
        rcases Nat.lt_or_ge q c.M with e | e
        · exact .inl e
        · rcases ok.cn.fin with ⟨h1, _⟩ | ⟨i2, m2, o2, v2, s2, h1, h2, _⟩
          · have := (List.getElem?_eq_some_iff.1 h.tb).1
            omega
          · rcases Nat.lt_or_ge c.M q with e' | e'
            · have := v.rest _ _ _ _ v.pM h1 (before _ _ _ _ e' h1 (by omega))
              have := make_cls this.1
              omega
            · have : q = c.M := by omega
              subst this
              obtain ⟨_, _, rfl⟩ := h.same h1
              exact .inr ⟨rfl, by omega⟩
      rcases h.kind ok.hT with hc | ⟨hc, _⟩ | hc | ⟨hc, hmk'⟩
      case inr.inr.inr => rw [hmk] at hmk'; cases hmk'
      case inr.inr.inl =>
        -- what changes
        have hpq : p ≤ q := by
          rcases Nat.lt_or_ge q p with e | e
          · exact absurd (v.eff q i m o' e h (by omega)) hL
          · exact e
        have hqM' : q ≤ c.M := by omega
        obtain ⟨pd', G', v'⟩ := v.adv ok hpq hqM' (fun k i' m' o2 _ hk h' hc => before k i' m' o2 hk h' hc)
        obtain ⟨a, ha, hag⟩ := v'.act ok h hd hL (Nat.le_refl _)
        have hgoal := step_sim2 (mt := c.mt) (ops := c.ops) (o := o') ok.hZ (ok.hcall (c.W.holds pd')) v'.rel ha (by omega) (next := wpAny c.P .any ⟨c.ops⟩ (CPost c.W c.G0 c.n c.r) fuel (L.setIfInBounds i true)) (Q := CPost c.W c.G0 c.n c.r) ?_ ?_ ?_
        · exact wpOp_of ho hgoal
        · intro x s' hs G2 w' u le r hu
          rcases hqM with e | ⟨rfl, _⟩
          · have hon := ok.cn.on q i m o' e h
            obtain ⟨x', h1, h2⟩ := step_agree (by omega) hag hon
            rw [h2] at hs
            simp only [Went.on.injEq] at hs
            obtain ⟨h3, h4⟩ := hs
            subst h4
            -- the value put is the same, or is put nowhere
            have hu' : o'.dst = none ∨ x = x' := by
              cases hdst : o'.dst with
              | none => exact .inl rfl
              | some d =>
                right
                have := congrArg (fun a : CAct => a.slots.get d) h3
                simp only [hdst, cput_get, if_true] at this
                exact this.symm
            have h1' : c.ac (q + 1) = (c.ac q).put o'.dst x := by
              rcases hu' with e0 | e0
              · rw [h1, e0]; rfl
              · rw [h1, e0]
            have v2 := v'.more ok h hd hL (p' := q + 1) (by omega) e (by omega) (fun k h1 h2 => by omega) le r h1' hu
            exact ih _ _ _ _ _ _ v2 hcount'
          · exfalso
            rcases ok.cn.fin with ⟨h1, _⟩ | ⟨i2, m2, o2, v2, s2, h1, h2, h3, _⟩
            · have := (List.getElem?_eq_some_iff.1 h.tb).1
              omega
            · obtain ⟨rfl, rfl, rfl⟩ := h.same h1
              have := step_agree_panic (by omega) hag h3
              rw [this] at hs
              cases hs
        · intro vc s' hs G2 w' u le r hu
          rcases hqM with e | ⟨rfl, _⟩
          · exfalso
            have hon := ok.cn.on q i m o' e h
            obtain ⟨x', h1, h2⟩ := step_agree (by omega) hag hon
            rw [h2] at hs
            cases hs
          · rcases ok.cn.fin with ⟨h1, _⟩ | ⟨i2, m2, o2, v2, s2, h1, h2, h3, h4, _⟩
            · have := (List.getElem?_eq_some_iff.1 h.tb).1
              omega
            · obtain ⟨rfl, rfl, rfl⟩ := h.same h1
              have := step_agree_panic (by omega) hag h3
              rw [this] at hs
              cases hs
              exact v'.panic ok h4 le r hu
        · intro hs
          rcases hqM with e | ⟨rfl, _⟩
          · have hon := ok.cn.on q i m o' e h
            obtain ⟨x', h1, h2⟩ := step_agree (by omega) hag hon
            rw [h2] at hs
            cases hs
          · rcases ok.cn.fin with ⟨h1, _⟩ | ⟨i2, m2, o2, v2, s2, h1, h2, h3, h4, _⟩
            · have := (List.getElem?_eq_some_iff.1 h.tb).1
              omega
            · obtain ⟨rfl, rfl, rfl⟩ := h.same h1
              have := step_agree_panic (by omega) hag h3
              rw [this] at hs
              cases hs
      all_goals
        -- what only reads
        have hc2 : cls o'.op < 2 := by omega
        have hqM' : q < c.M := by omega
        have hv : ∃ p' pd' G', q < p' ∧ Inv c L p' pd' G' A w := by
          rcases Nat.lt_or_ge q p with e | e
          · exact ⟨p, pd, G, e, v⟩
          · obtain ⟨pd', G', v'⟩ := v.adv ok (q := q + 1) (by omega) hqM' (fun k i' m' o2 _ hk h' hc => by
              by_cases e : k = q
              · subst e
                obtain ⟨rfl, rfl, rfl⟩ := h.same h'
                omega
              · exact before k i' m' o2 (by omega) h' hc)
            exact ⟨q + 1, pd', G', by omega, v'⟩
        obtain ⟨p', pd', G', hqp, v'⟩ := hv
        obtain ⟨a, ha, hag⟩ := v'.act ok h hd hL (Nat.le_of_lt hqp)
        obtain ⟨x0, hx0, hst0⟩ := v'.still ok h hL hc2 hqp
        obtain ⟨x', h1, h2⟩ := step_agree (by omega) hag hst0
        have hgoal := step_sim2 (mt := c.mt) (ops := c.ops) (o := o') ok.hZ (ok.hcall (c.W.holds pd')) v'.rel ha (by omega) (next := wpAny c.P .any ⟨c.ops⟩ (CPost c.W c.G0 c.n c.r) fuel (L.setIfInBounds i true)) (Q := CPost c.W c.G0 c.n c.r) ?_ ?_ ?_
        · exact wpOp_of ho hgoal
        · intro x s' hs G2 w' u le r hu
          rw [h2] at hs
          simp only [Went.on.injEq] at hs
          obtain ⟨h3, h4⟩ := hs
          subst h4
          have hu' : o'.dst = none ∨ x = x0 := by
            cases hdst : o'.dst with
            | none => exact .inl rfl
            | some d =>
              right
              have e1 := congrArg (fun a : CAct => a.slots.get d) h3
              have e2 := congrArg (fun a : CAct => a.slots.get d) h1
              simp only [hdst, cput_get, if_true] at e1 e2
              rw [e2, e1]
          have h1' : c.ac (q + 1) = (c.ac q).put o'.dst x := by
            rcases hu' with e0 | e0
            · rw [hx0, e0]; rfl
            · rw [hx0, e0]
          have v2 := v'.more ok h hd hL (p' := p') (Nat.le_refl _) v'.pM hqp (fun k h1 h2 => by omega) le r h1' hu
          exact ih _ _ _ _ _ _ v2 hcount'
        · intro vc s' hs
          rw [h2] at hs
          cases hs
        · intro hs
          rw [h2] at hs
          cases hs
end

/-- ████ regions whose order is drawn ████ -/
theorem drawSim {P : Program} (hZ : ZeroOk P) : DrawSim P := by
  intro W mt call n ops tab a s r G w A hcall hT hfit hr ha h
  obtain ⟨ac, st, M, cn⟩ := drawGo_canon (P := P) (mt := mt) (call := call) hT (a0 := a) (s0 := s) (r := r) tab 0 (fun _ => a) (fun _ => s) [] (by simp) (Nat.zero_le _) rfl rfl (fun j i m o hj => by omega) (fun j i m o q i' m' o' d hj => by omega) (fun q i m o d hq => by omega) h
  let c : Cx := ⟨P, mt, call, ops, tab, a, s, r, ac, st, M, n, W, G⟩
  have ok : c.Ok := ⟨hT, cn, hZ, hcall, hfit⟩
  have hfalse : ∀ i : Nat, (Array.replicate ops.length false)[i]? ≠ some true := by
    intro i hi
    rw [Array.getElem?_replicate] at hi
    split at hi <;> cases hi
  have v : Inv c (Array.replicate ops.length false) 0 none G A w := by
    refine ⟨by simp [c], fun (i : Nat) o h => absurd h (hfalse i), Nat.zero_le _, fun k i m o hk => by omega, fun k i m o _ _ h => absurd h (hfalse i), ?_, G.le_refl, ha.size, ha.defers, fun t k i m o hk => by omega, fun t _ => ha.slot t, fun q hq => by cases hq⟩
    show Rel W G (st 0) w
    rw [cn.s0]
    exact hr
  exact Inv.go ok ops.length _ 0 none G A w v (by
    have := List.count_le_length (a := false) (l := (Array.replicate ops.length false).toList)
    simp)
end Go.CE

namespace Go.CE
variable {P : Program} {W : Frm} {G : Ghost} {s : St} {w : World} {n : Nat} {a : CAct} {A : Act} {mt : Bool} {call : CallF} {ops : List Oper}

theorem runOps_cons {o : Oper} {rest : List Oper} {a1 : CAct} {s1 : St} (h : runOps P mt call ops (o :: rest) a s = some (.normal, a1, s1)) :
    ∃ a' s', stepOp P mt call ops o a s = .on a' s' ∧ runOps P mt call ops rest a' s' = some (.normal, a1, s1) := by
  simp only [runOps] at h
  cases hs : stepOp P mt call ops o a s with
  | on a' s' => rw [hs] at h; exact ⟨a', s', rfl, h⟩
  | panic v s' => rw [hs] at h; simp [goOn] at h
  | stuck => rw [hs] at h; simp [goOn] at h
/-- one operation that goes on -/
theorem node (hZ : ZeroOk P) (hcall : CallOk P W call) (hfit : opsFit n ops) (r : Rel W G s w) (ha : arel G n a A) {i : Nat} {o : Oper} (ho : ops[i]? = some o) {a' : CAct} {s' : St}
    (hs : stepOp P mt call ops o a s = .on a' s') {K : Act → World → Prop} {Q : Exit → Act → World → Prop} (hK : ∀ G' A' w', G.le G' → Rel W G' s' w' → arel G' n a' A' → K A' w') : wpOp P ⟨ops⟩ Q i K A w := by
  refine wpOp_of ho (step_sim (mt := mt) hZ hcall r ha (hfit o (List.mem_of_getElem? ho)) ?_ ?_ ?_)
  · intro a2 s2 h2 G' A' w' h3 h4 h5
    rw [hs] at h2
    cases h2
    exact hK G' A' w' h3 h4 h5
  · intro c s2 h2
    rw [hs] at h2
    cases h2
  · intro h2
    rw [hs] at h2
    cases h2
theorem wpAny_node {md : Region.Mode} {Q : Exit → Act → World → Prop} {fuel : Nat} {L : Array Bool} {i0 : Nat} (h0 : i0 ∈ Region.ready md ⟨ops⟩ L)
    (h : ∀ i ∈ Region.ready md ⟨ops⟩ L, wpOp P ⟨ops⟩ Q i (wpAny P md ⟨ops⟩ Q fuel (L.setIfInBounds i true)) A w) : wpAny P md ⟨ops⟩ Q (fuel + 1) L A w :=
  ⟨fun e => by rw [e] at h0; simp at h0, h⟩

theorem hedgeSim (hZ : ZeroOk P) : HedgeSim P := by
  intro W mt call n ops a s a1 a2 s1 s2 G w A hcall hh hfit hr ha hrun
  unfold hedgeOf at hh
  split at hh
  · rename_i o0 o1 o2 o3
    unfold hedgeOk at hh
    simp only [Bool.and_eq_true, allIn_iff, hasN_iff] at hh
    obtain ⟨⟨⟨⟨⟨⟨⟨⟨_, d0⟩, d1⟩, d2⟩, d3⟩, k1⟩, k2⟩, k31⟩, k32⟩ := hh
    simp only [hedgeRun] at hrun
    unfold hedgeTwo at hrun
    split at hrun
    · rename_i b1 t1 b2 t2 e1 e2
      cases hrun
      obtain ⟨a3, s3, f0, e1⟩ := runOps_cons e1
      obtain ⟨a3', s3', f0', e2⟩ := runOps_cons e2
      rw [f0] at f0'
      cases f0'
      obtain ⟨a4, s4, f1, e1⟩ := runOps_cons e1
      obtain ⟨a5, s5, f2, e1⟩ := runOps_cons e1
      obtain ⟨a6, s6, f3, e1⟩ := runOps_cons e1
      obtain ⟨a7, s7, g2, e2⟩ := runOps_cons e2
      obtain ⟨a8, s8, g1, e2⟩ := runOps_cons e2
      obtain ⟨a9, s9, g3, e2⟩ := runOps_cons e2
      simp only [runOps, Option.some.injEq, Prod.mk.injEq, true_and] at e1 e2
      obtain ⟨rfl, rfl⟩ := e1
      obtain ⟨rfl, rfl⟩ := e2
      have hL : (Array.replicate [o0, o1, o2, o3].length false) = #[false, false, false, false] := rfl
      rw [hL]
      show wpAny P .any _ _ 4 _ A w
      have m0 : ∀ {d}, d ∈ depsOf o0 → False := fun h => by simpa using d0 _ h
      have m1 : ∀ {d}, d ∈ depsOf o1 → d = 0 := fun h => by simpa using d1 _ h
      have m2 : ∀ {d}, d ∈ depsOf o2 → d = 0 := fun h => by simpa using d2 _ h
      have m3 : ∀ {d}, d ∈ depsOf o3 → d = 0 ∨ d = 1 ∨ d = 2 := fun h => by simpa using d3 _ h
      have q0 : ([o0, o1, o2, o3] : List Oper)[0]? = some o0 := rfl
      have q1 : ([o0, o1, o2, o3] : List Oper)[1]? = some o1 := rfl
      have q2 : ([o0, o1, o2, o3] : List Oper)[2]? = some o2 := rfl
      have q3 : ([o0, o1, o2, o3] : List Oper)[3]? = some o3 := rfl
      have four : ∀ {i : Nat} {o : Oper}, ([o0, o1, o2, o3] : List Oper)[i]? = some o → (i = 0 ∧ o = o0) ∨ (i = 1 ∧ o = o1) ∨ (i = 2 ∧ o = o2) ∨ (i = 3 ∧ o = o3) := by
        intro i o h
        match i, h with
        | 0, h => cases h; exact .inl ⟨rfl, rfl⟩
        | 1, h => cases h; exact .inr (.inl ⟨rfl, rfl⟩)
        | 2, h => cases h; exact .inr (.inr (.inl ⟨rfl, rfl⟩))
        | 3, h => cases h; exact .inr (.inr (.inr ⟨rfl, rfl⟩))
        | i + 4, h => simp at h
      -- first the variable
      refine wpAny_node (i0 := 0) (ready_iff.2 ⟨o0, q0, rfl, fun d hd => (m0 hd).elim⟩) ?_
      intro i hi
      obtain ⟨o, ho, hl, hdep⟩ := ready_iff.1 hi
      rcases four ho with ⟨rfl, rfl⟩ | ⟨rfl, rfl⟩ | ⟨rfl, rfl⟩ | ⟨rfl, rfl⟩
      case inr.inl => exact absurd (hdep 0 k1) (by decide)
      case inr.inr.inl => exact absurd (hdep 0 k2) (by decide)
      case inr.inr.inr => exact absurd (hdep 1 k31) (by decide)
      refine node hZ hcall hfit hr ha q0 f0 ?_
      intro G1 A1 w1 le1 r1 ha1
      refine wpAny_node (i0 := 1) (ready_iff.2 ⟨o1, q1, rfl, fun d hd => by rw [m1 hd]; rfl⟩) ?_
      intro i hi
      obtain ⟨o', ho', hl', hdep'⟩ := ready_iff.1 hi
      rcases four ho' with ⟨rfl, rfl⟩ | ⟨rfl, rfl⟩ | ⟨rfl, rfl⟩ | ⟨rfl, rfl⟩
      · exact absurd hl' (by decide)
      · -- the one first
        refine node hZ hcall hfit r1 ha1 q1 f1 ?_
        intro G2 A2 w2 le2 r2 ha2
        refine wpAny_node (i0 := 2) (ready_iff.2 ⟨o2, q2, rfl, fun d hd => by rw [m2 hd]; rfl⟩) ?_
        intro i hi
        obtain ⟨o'', ho'', hl'', hdep''⟩ := ready_iff.1 hi
        rcases four ho'' with ⟨rfl, rfl⟩ | ⟨rfl, rfl⟩ | ⟨rfl, rfl⟩ | ⟨rfl, rfl⟩
        · exact absurd hl'' (by decide)
        · exact absurd hl'' (by decide)
        · refine node hZ hcall hfit r2 ha2 q2 f2 ?_
          intro G3 A3 w3 le3 r3 ha3
          refine wpAny_node (i0 := 3) (ready_iff.2 ⟨o3, q3, rfl, fun d hd => by rcases m3 hd with e | e | e <;> (rw [e]; rfl)⟩) ?_
          intro i hi
          obtain ⟨o4, ho4, hl4, hdep4⟩ := ready_iff.1 hi
          rcases four ho4 with ⟨rfl, rfl⟩ | ⟨rfl, rfl⟩ | ⟨rfl, rfl⟩ | ⟨rfl, rfl⟩
          · exact absurd hl4 (by decide)
          · exact absurd hl4 (by decide)
          · exact absurd hl4 (by decide)
          · refine node hZ hcall hfit r3 ha3 q3 f3 ?_
            intro G4 A4 w4 le4 r4 ha4
            refine ⟨?_, rfl, G4, Ghost.le_trans le1 (Ghost.le_trans le2 (Ghost.le_trans le3 le4)), .inl ⟨r4, ha4⟩⟩
            rw [List.eq_nil_iff_forall_not_mem]
            intro i hi
            obtain ⟨o5, ho5, hl5, _⟩ := ready_iff.1 hi
            rcases four ho5 with ⟨rfl, rfl⟩ | ⟨rfl, rfl⟩ | ⟨rfl, rfl⟩ | ⟨rfl, rfl⟩ <;> exact absurd hl5 (by decide)
        · exact absurd (hdep'' 2 k32) (by decide)
      · -- the other first
        refine node hZ hcall hfit r1 ha1 q2 g2 ?_
        intro G2 A2 w2 le2 r2 ha2
        refine wpAny_node (i0 := 1) (ready_iff.2 ⟨o1, q1, rfl, fun d hd => by rw [m1 hd]; rfl⟩) ?_
        intro i hi
        obtain ⟨o'', ho'', hl'', hdep''⟩ := ready_iff.1 hi
        rcases four ho'' with ⟨rfl, rfl⟩ | ⟨rfl, rfl⟩ | ⟨rfl, rfl⟩ | ⟨rfl, rfl⟩
        · exact absurd hl'' (by decide)
        · refine node hZ hcall hfit r2 ha2 q1 g1 ?_
          intro G3 A3 w3 le3 r3 ha3
          refine wpAny_node (i0 := 3) (ready_iff.2 ⟨o3, q3, rfl, fun d hd => by rcases m3 hd with e | e | e <;> (rw [e]; rfl)⟩) ?_
          intro i hi
          obtain ⟨o4, ho4, hl4, hdep4⟩ := ready_iff.1 hi
          rcases four ho4 with ⟨rfl, rfl⟩ | ⟨rfl, rfl⟩ | ⟨rfl, rfl⟩ | ⟨rfl, rfl⟩
          · exact absurd hl4 (by decide)
          · exact absurd hl4 (by decide)
          · exact absurd hl4 (by decide)
          · refine node hZ hcall hfit r3 ha3 q3 g3 ?_
            intro G4 A4 w4 le4 r4 ha4
            refine ⟨?_, rfl, G4, Ghost.le_trans le1 (Ghost.le_trans le2 (Ghost.le_trans le3 le4)), .inr ⟨r4, ha4⟩⟩
            rw [List.eq_nil_iff_forall_not_mem]
            intro i hi
            obtain ⟨o5, ho5, hl5, _⟩ := ready_iff.1 hi
            rcases four ho5 with ⟨rfl, rfl⟩ | ⟨rfl, rfl⟩ | ⟨rfl, rfl⟩ | ⟨rfl, rfl⟩ <;> exact absurd hl5 (by decide)
        · exact absurd hl'' (by decide)
        · exact absurd (hdep'' 1 k31) (by decide)
      · exact absurd (hdep' 1 k31) (by decide)
    · cases hrun
  · cases hh
end Go.CE

namespace Go.CE
variable {P : Program} {W : Frm} {G : Ghost} {s : St} {w : World} {n : Nat} {a : CAct} {A : Act} {mt : Bool} {call : CallF} {ops : List Oper}

/-! a slice held against nil, whatever it is: slices.Clone of what is empty -/
def noCall : CallF := fun _ _ _ => none
theorem noCall_ok : CallOk P W noCall := by
  intro g targs s cr s' h
  simp [noCall] at h
def nilEq (P : Program) (o : Oper) : Option (Tmp × Tmp) :=
  match o.guard, o.dst, o.op with
  | none, some d, .binOp .eql t (.tmp x) (.const (.slice none 0 0)) _ => match P.underlying t with
    | some (.slice _) => some (d, x)
    | _ => none
  | _, _, _ => none
def isEmptyS : CV → Bool
  | .slice [] => true
  | _ => false
def emptyRes : TV := ⟨.slice [], [.full]⟩
def cloneEnd (P : Program) (fn : Func) : CodeR → Option St
  | some (.ret, a, s) => match a.defers, resultC P fn a s with
    | [], some r => match tvEq r emptyRes with | true => some s | false => none
    | _, _ => none
  | _ => none
def cloneFork (P : Program) (fn : Func) (b : Bool) (y z : Code) (x : Option (Tmp × Tmp)) : Went → Option St
  | .on a s => match x with
    | some (d, t) => match isEmptyS (a.slots.get t).v with
      | true => cloneEnd P fn (thenC (runCode P false [] noCall 3 z) (runCode P false [] noCall 3 y (a.put (some d) (plain (.bool b))) s))
      | false => none
    | none => none
  | _ => none
def cloneMid (P : Program) (fn : Func) (b : Bool) (o1 o2 : Oper) (y z : Code) : CodeR → Option St
  | some (.normal, a, s) => cloneFork P fn b y z (nilEq P o2) (stepOp P false noCall [o1, o2] o1 a s)
  | _ => none
def cloneRun (P : Program) (fn : Func) (b : Bool) (a : CAct) (s : St) : Option Code → Option St
  | some (.seq x (.seq (.seq (.region _ ⟨[o1, o2]⟩ false) y) z)) => cloneMid P fn b o1 o2 y z (runCode P false [] noCall 3 x a s)
  | _ => none

theorem nilEq_run {o : Oper} {d x : Tmp} (h : nilEq P o = some (d, x)) (hv : ∃ ad cap, A.tmps.getD x undef = .slice ad 0 cap) :
    Region.wanted o (yielded ⟨ops⟩ A.tmps) = true ∧ o.dst = some d ∧ ∃ b : Bool, (execOp A.eval o).run P w = .ok (.value (.bool b)) w := by
  unfold nilEq at h
  split at h
  · rename_i d' t x' y hg hd hop
    split at h
    · rename_i e ht
      cases h
      obtain ⟨ad, cap, hv⟩ := hv
      refine ⟨by simp [Region.wanted, hg], hd, ?_⟩
      have hx : A.eval (.tmp x) = .slice ad 0 cap := hv
      have hev : A.eval (.const (.slice none 0 0)) = .slice none 0 0 := rfl
      have hk : ∃ b, (Op.equal t (.slice ad 0 cap) (.slice none 0 0)).run P w = .ok b w := by
        have : ∀ d, ∃ b, (Op.equalIn (d + 1) t (.slice ad 0 cap) (.slice none 0 0)).run P w = .ok b w := fun d => by
          cases ad with
          | none => cases cap <;> simp [Op.equalIn, run_und ht]
          | some a => simp [Op.equalIn, run_und ht]
        exact this 9999
      obtain ⟨b, hk⟩ := hk
      exact ⟨b, by simp [execOp, hop, hx, hev, eqGuard, binOp, hk]⟩
    · cases h
  · cases h

theorem clone_ok (hm : P.follows .mixedOrders = true) (hZ : ZeroOk P) {f : FuncId} {fn : Func} {c : Code} (hf : P.funcs[f]? = some fn) (hb : fn.body = some c) (hn : (fn.name == "runtime.NumGoroutine") = false)
    (hfit : codeFit fn.ntmps c) (hdr : drawsOk [] c = true) {args : List TV} (hrun : ∀ b, cloneRun P fn b (start args) s fn.body = some s)
    {vargs : Array Value} (hr : Rel W G s w) (hx : tvrels G args vargs.toList) : InvOk P W G (.ret emptyRes) s ((callFunc f vargs).run P w) := by
  refine .inr ⟨f, vargs, w, run_callFunc hf hb hn, calls_of_wp_defers hf hb ?_⟩
  have ha := start_rel hx (fn.ntmps - vargs.size)
  have hfit : codeFit (vargs ++ Array.replicate (fn.ntmps - vargs.size) undef).size c := codeFit_le (by simp; omega) c hfit
  have hD := drawSim hZ
  have hH := hedgeSim hZ
  have hr1 := hrun true
  have hr0 := hrun false
  rw [hb] at hr1 hr0
  unfold cloneRun at hr1 hr0
  split at hr1
  · rename_i x id o1 o2 y z hc
    cases hc
    simp only at hr0
    unfold cloneMid at hr1 hr0
    split at hr1
    · rename_i a1 s1 hx1
      simp only [hx1] at hr0
      simp only [drawsOk, Bool.and_eq_true] at hdr
      refine wp_seq (wp_mono (code_sim hm hZ hD hH (od := []) (fun _ => noCall_ok) x hdr.1 hfit.1 hr ha hx1) ?_)
      rintro e A1 w1 ⟨G1, le1, r1, ha1, h4⟩
      cases e <;> simp only [ExOk] at h4
      refine wp_seq (wp_seq (wp_region ?_))
      have hfo : opsFit (vargs ++ Array.replicate (fn.ntmps - vargs.size) undef).size [o1, o2] := hfit.2.1.1
      show wpOps P ⟨[o1, o2]⟩ _ (List.range 2) A1 w1
      rw [show List.range 2 = [0, 1] from rfl, wpOps_cons]
      unfold cloneFork at hr1 hr0
      split at hr1
      · rename_i a2 s2 hst
        simp only [hst] at hr0
        refine node hZ noCall_ok hfo r1 ha1 (i := 0) (o := o1) rfl hst ?_
        intro G2 A2 w2 le2 r2 ha2
        rw [wpOps_cons]
        cases hne : nilEq P o2 with
        | none => rw [hne] at hr1; cases hr1
        | some q =>
          obtain ⟨d, t⟩ := q
          rw [hne] at hr1 hr0
          simp only at hr1 hr0
          split at hr1
          · rename_i hem
            rw [hem] at hr0
            simp only at hr0
            have hslot := (ha2.slot t).rv
            have hcv : (a2.slots.get t).v = .slice [] := by
              unfold isEmptyS at hem
              split at hem
              · rename_i hcv; exact hcv
              · cases hem
            rw [hcv] at hslot
            simp only [vrel] at hslot
            obtain ⟨ad, cap, hv, _⟩ := hslot
            obtain ⟨hwant, hdst, b, hex⟩ := nilEq_run (A := A2) (w := w2) (ops := [o1, o2]) hne ⟨ad, cap, hv⟩
            refine wpOp_of (ops := [o1, o2]) (i := 1) (o := o2) rfl ?_
            rw [if_pos hwant]
            unfold Oper.wp
            rw [hex]
            have ha3 := ha2.put (dst := o2.dst) (hfo o2 (by simp)) (plain_rel (c := .bool b) (v := .bool b) (by simp [vrel]))
            rw [hdst] at ha3
            have hrb : cloneEnd P fn (thenC (runCode P false [] noCall 3 z) (runCode P false [] noCall 3 y (a2.put (some d) (plain (.bool b))) s2)) = some s := by
              cases b with
              | true => exact hr1
              | false => exact hr0
            show Code.wp P y _ (A2.put o2.dst (.bool b)) w2
            rw [hdst]
            unfold cloneEnd at hrb
            split at hrb
            · rename_i a4 s4 hthen
              obtain ⟨r', e1, e2⟩ := then_sim (G := G2) (W := W) (n := (vargs ++ Array.replicate (fn.ntmps - vargs.size) undef).size) hthen
                (Q := z.wp P (CPost W G2 (vargs ++ Array.replicate (fn.ntmps - vargs.size) undef).size (.ret, a4, s4))) (fun a' s' _ hk G' A' w' le hr' ha' =>
                  wp_mono (code_sim hm hZ hD hH (od := []) (fun _ => noCall_ok) z hdr.2.2 hfit.2.2 hr' ha' hk) fun e A w hp => hp.le le)
              have fin : ∀ e A w, CPost W G2 (vargs ++ Array.replicate (fn.ntmps - vargs.size) undef).size (.ret, a4, s4) e A w → bodyPostD P fn (EndOk W G (.ret emptyRes) s) e A w := by
                rintro e A w ⟨G', q1, q2, q3, q4⟩
                cases e <;> simp only [ExOk] at q4
                split at hrb
                · rename_i r0 hdef hres
                  split at hrb
                  · rename_i htv
                    cases hrb
                    have := tvEq_eq htv
                    subst this
                    have hdA : A.defers = [] := by have := q3.defers; rw [hdef] at this; exact this
                    show Leaves P fn A.tmps _ A.defers .returning w
                    rw [hdA]
                    obtain ⟨v, h1, h2⟩ := resultC_sim q2 q3 hres
                    exact ⟨v, h1, G', Ghost.le_trans le1 (Ghost.le_trans le2 q1), q2, _, rfl, h2⟩
                  · cases hrb
                · cases hrb
              refine wp_mono (code_sim hm hZ hD hH (od := []) (fun _ => noCall_ok) y hdr.2.1.2 hfit.2.1.2 r2 ha3 e1) ?_
              intro e A w hp
              have := e2 e A w hp
              cases e with
              | normal => exact wp_mono this fin
              | _ => exact fin _ _ _ this
            · cases hrb
          · cases hr1
      · cases hr1
    · cases hr1
  · cases hr1
end Go.CE
