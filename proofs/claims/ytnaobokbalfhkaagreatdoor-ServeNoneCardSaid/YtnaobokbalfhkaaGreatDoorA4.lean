/- Maps, literals, the first part of append: where the clean run answers, the model answers alike. Conditions: the relation of the states. -/
import Derived.Test.YtnaobokbalfhkaaGreatDoorA3
import Derived.Laws.Tables
import Derived.Laws.BytesArg
namespace Go.CE
variable {P : Program} {W : Frm} {G : Ghost} {s : St} {w : World} {n : Nat} {a : CAct} {A : Act} {o : Oper} {res : OpRes × St} {mt : Bool}

theorem keyD_none (d : Nat) (t : TypeId) (c : CV) : keyD P d t none c = false := by cases d <;> cases c <;> simp [keyD]
theorem keyD_sim (em : Bool) : ∀ (d : Nat) (t : TypeId) (u : TypeDesc) (c : CV) (v : Value) (D : Nat), P.underlying t = some u → vrel G c v → keyD P d t (some u) c = true → d + 1 ≤ D →
    (Instr.checkKey em D t v).run P w = .ok () w := by
  intro d
  induction d with
  | zero =>
    intro t u c v D hu hv h hD
    obtain ⟨D, rfl⟩ : ∃ D', D = D' + 1 := ⟨D - 1, by omega⟩
    cases u <;> cases c <;> (try (simp [keyD] at h; done))
    all_goals
      simp only [vrel] at hv
      subst hv
      simp [Instr.checkKey, run_und hu]
  | succ d ih =>
    intro t u c v D hu hv h hD
    obtain ⟨D, rfl⟩ : ∃ D', D = D' + 1 := ⟨D - 1, by omega⟩
    unfold keyD at h
    split at h <;> (try simp only [vrel] at hv)
    · rename_i he; cases he; subst hv; simp [Instr.checkKey, run_und hu]
    · rename_i he; cases he; subst hv; simp [Instr.checkKey, run_und hu]
    · rename_i he; cases he; subst hv; simp [Instr.checkKey, run_und hu]
    · rename_i d' _ fs cs hd' he
      cases hd'
      cases he
      obtain ⟨l, rfl, _, hp⟩ := hv
      rw [Instr.checkKey]
      simp only [Sem.run_bind, run_und hu, Result.andThen_ok]
      rw [← Array.forIn_toList]
      generalize fs.toList = L at h
      induction L with
      | nil => simp
      | cons f L ihL =>
        simp only [keyAt] at h
        split at h
        · cases h
        · rename_i hn
          have hn : f.name ≠ "_" := by simpa using hn
          split at h
          · rename_i u' hcu
            split at h
            · rename_i hk
              obtain ⟨v', r1, h1⟩ := cutP_sim (w := w) hp hcu
              cases hu' : P.underlying f.type with
              | none => rw [hu', keyD_none] at hk; cases hk
              | some d2 =>
                rw [hu'] at hk
                have p2 := ih f.type d2 u' v' D hu' h1 hk (by omega)
                simp only [List.forIn_cons, Sem.run_bind, hn, ne_eq, not_false_eq_true, if_true, Result.andThen_ok, r1, p2, Sem.run_pure]
                exact ihL h
            · cases h
          · cases h
    · rename_i d' _ ln e cs hd' he
      cases hd'
      cases he
      obtain ⟨l, rfl, _, hp⟩ := hv
      split at h
      · rename_i z ag hs
        obtain ⟨inf, dd, hi, hd, rfl, rfl⟩ := szAgg_some hs
        rw [Instr.checkKey]
        simp only [Sem.run_bind, run_und hu, Result.andThen_ok]
        simp only [Std.Legacy.Range.forIn_eq_forIn_range', Std.Legacy.Range.size, Nat.sub_zero, Nat.add_one_sub_one, Nat.div_one]
        rw [upFrom_eq] at h
        generalize List.range' 0 ln = L at h
        induction L with
        | nil => simp
        | cons j L ihL =>
          simp only [keyRow] at h
          split at h
          · rename_i u' hcu
            split at h
            · rename_i hk
              obtain ⟨v', r1, h1⟩ := cutP_sim (P := P) (w := w) (t := e) hp (by rw [hs]; exact hcu)
              rw [hd] at hk
              have p2 := ih e dd u' v' D hd h1 hk (by omega)
              simp only [List.forIn_cons, Sem.run_bind, run_size hi, Result.andThen_ok, r1, p2, Sem.run_pure]
              exact ihL h
            · cases h
          · cases h
      · cases h
    · cases h

structure Finder (G : Ghost) (cmp : CV → CV → Option Bool) (k : CV) (Q : List MapEntry → Nat → Option (Nat × Value) → Prop) : Prop where
  nil : ∀ i, Q [] i none
  yes : ∀ a (e : MapEntry) es i, vrel G a e.key → cmp k a = some true → Q (e :: es) i (some (i, e.val))
  no : ∀ a (e : MapEntry) es i m, vrel G a e.key → cmp k a = some false → Q es (i + 1) m → Q (e :: es) i m

theorem find_go {cmp : CV → CV → Option Bool} {k : CV} {Q : List MapEntry → Nat → Option (Nat × Value) → Prop} (F : Finder G cmp k Q) : ∀ {es : List (CV × CV)} {l : List MapEntry}, entries G es l → ∀ i,
    (∀ x, findMap cmp k es = .at_ x → ∃ j, ∃ e : MapEntry, Q l i (some (i + j, e.val)) ∧ vrel G x e.val) ∧ (findMap cmp k es = .nowhere → Q l i none)
  | [], l, h, i => by
    have : l = [] := h
    subst this
    exact ⟨by simp [findMap], fun _ => F.nil i⟩
  | (a, x) :: es, l, h, i => by
    obtain ⟨e, t, rfl, h1, h2, h3⟩ := h
    have ih := find_go F h3 (i + 1)
    simp only [findMap]
    split
    · rename_i hc
      refine ⟨fun y hy => ?_, by simp⟩
      cases hy
      exact ⟨0, e, F.yes a e t i h1 hc, h2⟩
    · rename_i hc
      refine ⟨fun y hy => ?_, fun hy => F.no a e t i _ h1 hc (ih.2 hy)⟩
      obtain ⟨j, e', h4, h5⟩ := ih.1 y hy
      exact ⟨j + 1, e', F.no a e t i _ h1 hc (by rw [show i + (j + 1) = i + 1 + j by omega]; exact h4), h5⟩
    · simp

theorem same1_eq {x y : CV} (h : same1 x y = true) : x = y := by
  unfold same1 at h
  split at h
  · rw [bytesEq_eq] at h; simpa using h
  · split at h
    · rename_i hk
      rw [intEq_eq] at h
      have := kindEq_eq hk
      simp at h
      subst this; subst h; rfl
    · cases h
  · rename_i p q; cases p <;> cases q <;> first | rfl | (simp [boolEq] at h; done)
  · cases h
theorem sameL_eq : ∀ {x y : List CV}, sameL x y = true → x = y
  | [], [], _ => rfl
  | [], _ :: _, h => by simp [sameL] at h
  | _ :: _, [], h => by simp [sameL] at h
  | a :: x, b :: y, h => by
    simp only [sameL] at h
    split at h
    · rename_i h1
      rw [same1_eq h1, sameL_eq h]
    · cases h
theorem sameK_eq {x y : CV} (h : sameK x y = true) : x = y := by
  unfold sameK at h
  split at h
  · rw [sameL_eq h]
  · exact same1_eq h

theorem put_go {cmp : CV → CV → Option Bool} {k v : CV} {vk vv : Value} {Q : List MapEntry → Nat → Option (Nat × Value) → Prop} (F : Finder G cmp k Q) (hk : vrel G k vk) (hv : vrel G v vv) :
    ∀ {es es' : List (CV × CV)} {l : List MapEntry}, entries G es l → putMap cmp k v es = some es' → ∀ i,
    (∃ j, ∃ e : MapEntry, Q l i (some (i + j, e.val)) ∧ l[j]? = some e ∧ vrel G k e.key ∧ ∀ key, vrel G k key → entries G es' (l.modify j fun e => { e with key := key, val := vv })) ∨
    (Q l i none ∧ ∀ clock, entries G es' (l ++ [{ key := vk, val := vv, born := clock }]))
  | [], es', l, h, hp, i => by
    have : l = [] := h
    subst this
    simp only [putMap, Option.some.injEq] at hp
    subst hp
    exact .inr ⟨F.nil i, fun clock => ⟨_, _, rfl, hk, hv, rfl⟩⟩
  | (a, x) :: es, es', l, h, hp, i => by
    obtain ⟨e, t, rfl, h1, h2, h3⟩ := h
    simp only [putMap] at hp
    split at hp
    · rename_i hc
      split at hp
      · rename_i hs
        cases hp
        have := sameK_eq hs
        subst this
        exact .inl ⟨0, e, F.yes _ e t i h1 hc, by simp, h1, fun key hkey => ⟨{ e with key := key, val := vv }, t, by simp, hkey, hv, h3⟩⟩
      · cases hp
    · rename_i hc
      split at hp
      · rename_i r hr
        cases hp
        rcases put_go F hk hv h3 hr (i + 1) with ⟨j, e', h4, h5, h6, h7⟩ | ⟨h4, h5⟩
        · refine .inl ⟨j + 1, e', F.no a e t i _ h1 hc (by rw [show i + (j + 1) = i + 1 + j by omega]; exact h4), by simpa using h5, h6, fun key hkey => ?_⟩
          exact ⟨e, _, by simp, h1, h2, h7 key hkey⟩
        · exact .inr ⟨F.no a e t i _ h1 hc h4, fun clock => ⟨e, _, by simp, h1, h2, h5 clock⟩⟩
      · cases hp
    · cases hp

theorem findAsking_no {kt : TypeId} {vk : Value} {e : MapEntry} {es : List MapEntry} {i : Nat} (h : (Op.equal kt vk e.key).run P w = .ok false w) :
    (Instr.findAsking kt vk (e :: es) i).run P w = (Instr.findAsking kt vk es (i + 1)).run P w := by
  rw [Instr.findAsking]
  simp [h]
theorem findAsking_yes {kt : TypeId} {vk : Value} {e : MapEntry} {es : List MapEntry} {i : Nat} (h : (Op.equal kt vk e.key).run P w = .ok true w) :
    (Instr.findAsking kt vk (e :: es) i).run P w = .ok (some (i, e.val)) w := by
  rw [Instr.findAsking]
  simp [h]

/-- how a key is found -/
theorem finder {kt : TypeId} {d : TypeDesc} {k : CV} {vk : Value} (hd : P.underlying kt = some d) (hk : vrel G k vk) (hok : keyOk P kt (some d) k = true) :
    ∃ Q, Finder G (keyCmp P kt (some d)) k Q ∧ ∀ l m, Q l 0 m → (Instr.findKey kt vk l).run P w = .ok m w := by
  have simple : ∀ (hcmp : ∀ a key b, vrel G a key → keyCmp P kt (some d) k a = some b → Instr.sameNow d vk key = some b),
      ∃ Q, Finder G (keyCmp P kt (some d)) k Q ∧ ∀ l m, Q l 0 m → (Instr.findKey kt vk l).run P w = .ok m w := by
    intro hcmp
    refine ⟨fun l i m => Instr.findNow d vk l i = some m, ⟨fun i => rfl, ?_, ?_⟩, ?_⟩
    · intro a e es i h1 h2
      simp [Instr.findNow, hcmp a e.key true h1 h2]
    · intro a e es i m h1 h2 h3
      simp [Instr.findNow, hcmp a e.key false h1 h2, h3]
    · intro l m h
      simp [Instr.findKey, run_und hd, h]
  have deep : ∀ (hne : ∀ x y, Instr.sameNow d x y = none) (hcmp : ∀ a b, keyCmp P kt (some d) k a = some b → eqC P 8 kt k a = some b),
      ∃ Q, Finder G (keyCmp P kt (some d)) k Q ∧ ∀ l m, Q l 0 m → (Instr.findKey kt vk l).run P w = .ok m w := by
    intro hne hcmp
    refine ⟨fun l i m => (Instr.findAsking kt vk l i).run P w = .ok m w, ⟨fun i => rfl, ?_, ?_⟩, ?_⟩
    · intro a e es i h1 h2
      exact findAsking_yes (eqC_sim 8 kt _ _ _ _ _ Op.maxDepth hk h1 (hcmp a true h2) (by decide))
    · intro a e es i m h1 h2 h3
      rw [findAsking_no (eqC_sim 8 kt _ _ _ _ _ Op.maxDepth hk h1 (hcmp a false h2) (by decide))]
      exact h3
    · intro l m h
      cases l with
      | nil =>
        have : m = none := by
          have h' : (Result.ok none w : Result (Option (Nat × Value))) = .ok m w := h
          cases h'; rfl
        subst this
        simp [Instr.findKey, run_und hd, Instr.findNow]
      | cons e es => simp [Instr.findKey, run_und hd, Instr.findNow, hne, h]
  unfold keyOk keyD at hok
  split at hok
  · rename_i he; cases he
    simp only [vrel] at hk
    subst hk
    apply simple
    intro a key b h1 h2
    cases a <;> simp only [keyCmp] at h2 <;> try (cases h2; done)
    simp only [vrel] at h1
    subst h1
    simpa [Instr.sameNow, beq_mk] using h2
  · rename_i he; cases he
    simp only [vrel] at hk
    subst hk
    apply simple
    intro a key b h1 h2
    cases a <;> simp only [keyCmp] at h2 <;> try (cases h2; done)
    simp only [vrel] at h1
    subst h1
    split at h2
    · rename_i hkk
      have := kindEq_eq hkk
      subst this
      simpa [Instr.sameNow, intEq_eq] using h2
    · cases h2
  · rename_i he; cases he
    apply simple
    intro a key b h1 h2
    cases a <;> simp [keyCmp] at h2
  · rename_i he; cases he
    apply deep
    · intro x y; cases x <;> cases y <;> rfl
    · intro a b h
      cases a <;> simp only [keyCmp] at h <;> try (cases h; done)
      exact h
  · rename_i he; cases he
    apply deep
    · intro x y; cases x <;> cases y <;> rfl
    · intro a b h
      cases a <;> simp only [keyCmp] at h <;> try (cases h; done)
      exact h
  · cases hok

theorem keyOk_sim {kt : TypeId} {d : TypeDesc} {k : CV} {vk : Value} (em : Bool) (hd : P.underlying kt = some d) (hk : vrel G k vk) (hok : keyOk P kt (some d) k = true) :
    (Instr.checkKey em 10000 kt vk).run P w = .ok () w := keyD_sim em 8 kt d k vk 10000 hd hk hok (by decide)
theorem keyOk_und {kt : TypeId} {k : CV} (hok : keyOk P kt (P.underlying kt) k = true) : ∃ d, P.underlying kt = some d := by
  cases h : P.underlying kt with
  | some d => exact ⟨d, rfl⟩
  | none => rw [h, keyOk, keyD_none] at hok; cases hok

theorem sim_lookup (r : Rel W G s w) (ha : arel G n a A) {t : TypeId} {m k : Operand} {ok : Bool} (ho : o.op = .lookup t m k ok) (h : exLookup P a s t m k ok = some res) :
    Ans W G ((execOp A.eval o).run P w) res := by
  obtain ⟨vm, vk, hm, hk, h⟩ := eval2_some h
  obtain ⟨x, hx, rfl⟩ := tvR_some h
  have h1 := (ha.eval hm).rv
  have h2 := (ha.eval hk).rv
  unfold lookupC at hx
  split at hx
  · rename_i kt e ht
    unfold lookupIn at hx
    split at hx
    · rename_i es hes
      split at hx
      · rename_i hok
        obtain ⟨d, hd⟩ := keyOk_und hok
        rw [hd] at hok hx
        obtain ⟨Q, F, hQ⟩ := finder (w := w) hd h2 hok
        have hget : ∃ l : Array MapEntry, entries G es l.toList ∧ ((A.eval m = .map none ∧ l = #[]) ∨ ∃ b clock, A.eval m = .map (some b) ∧ w.heap[b]? = some (.map l clock)) := by
          unfold entriesOf at hes
          split at hes
          · rename_i hcv
            rw [hcv] at h1
            simp only [vrel] at h1
            cases hes
            exact ⟨#[], rfl, .inl ⟨h1, rfl⟩⟩
          · rename_i i hcv
            rw [hcv] at h1
            simp only [vrel] at h1
            obtain ⟨b, z, mm, h3, h4⟩ := h1
            split at hes
            · rename_i es' hb
              cases hes
              obtain ⟨b', z', m', h5, l, clock, h7, h8⟩ := r.box i _ hb
              rw [h3] at h5
              cases h5
              exact ⟨l, h8, .inr ⟨b, clock, h4, h7⟩⟩
            · cases hes
          · cases hes
        obtain ⟨l, hl, hrun⟩ := hget
        obtain ⟨f1, f2⟩ := find_go F hl 0
        have hck := keyOk_sim (w := w) l.isEmpty hd h2 hok
        have hexec : ∀ mm, (Instr.findKey kt (A.eval k) l.toList).run P w = .ok mm w → (execOp A.eval o).run P w =
            ((match mm with
              | some (_, v) => (pure (v, true) : Sem (Value × Bool))
              | none => do pure (← zeroValue e, false)).run P w).andThen fun q w' => .ok (.value (if ok then .tuple #[q.1, .bool q.2] else q.1)) w' := by
          intro mm hmm
          have tail : ((match mm with
              | some (_, v) => (do
                let __x ← pure (v, true)
                pure (if ok = true then Value.tuple #[__x.fst, Value.bool __x.snd] else __x.fst) : Sem Value)
              | none => do
                let __do_lift ← zeroValue e
                let __x ← pure (__do_lift, false)
                pure (if ok = true then Value.tuple #[__x.fst, Value.bool __x.snd] else __x.fst)).run P w).andThen (fun v w' => .ok (.value v) w') =
              ((match mm with
              | some (_, v) => (pure (v, true) : Sem (Value × Bool))
              | none => do pure (← zeroValue e, false)).run P w).andThen fun q w' => (.ok (.value (if ok then .tuple #[q.1, .bool q.2] else q.1)) w' : Result Next) := by
            cases mm with
            | none =>
              simp only [Sem.run_bind]
              generalize (zeroValue e).run P w = z
              cases z with
              | ok z w' => simp
              | halt z w' => rfl
            | some q => obtain ⟨_, q⟩ := q; simp
          rw [← tail]
          rcases hrun with ⟨e1, e2⟩ | ⟨b, clock, e1, e2⟩
          · subst e2
            simp only [execOp, ho, Instr.lookup, Sem.run_bind, run_und ht, Result.andThen_ok, e1, Sem.run_pure, hck, hmm]
            rfl
          · simp only [execOp, ho, Instr.lookup, Sem.run_bind, run_und ht, Result.andThen_ok, e1, MapKept.run_getObj_map e2, Sem.run_pure, hck, hmm]
            rfl
        unfold foundC at hx
        split at hx
        · rename_i y hy
          cases hx
          obtain ⟨j, en, h5, h6⟩ := f1 y hy
          have hmm := hQ _ _ h5
          refine Ans.val r (v := if ok then .tuple #[en.val, .bool true] else en.val) ?_ (plain_rel ?_)
          · rw [hexec _ hmm]; rfl
          · cases ok with
            | false => simpa using h6
            | true =>
              simp only [vrel, if_true]
              refine ⟨[en.val, .bool true], rfl, ?_⟩
              simp only [vrels]
              exact ⟨_, _, rfl, h6, _, _, rfl, by simp [vrel], rfl⟩
        · rename_i hy
          have hmm := hQ _ _ (f2 hy)
          split at hx
          · rename_i z hz
            cases hx
            obtain ⟨inf, v, hi, hv, hc⟩ := zeroC_some hz
            refine Ans.val r (v := if ok then .tuple #[v, .bool false] else v) ?_ (plain_rel ?_)
            · rw [hexec _ hmm]; simp [run_zero hi hv]
            · cases ok with
              | false => simpa using (ofConst_rel hc).rv
              | true =>
                simp only [vrel, if_true]
                refine ⟨[v, .bool false], rfl, ?_⟩
                simp only [vrels]
                exact ⟨_, _, rfl, (ofConst_rel hc).rv, _, _, rfl, by simp [vrel], rfl⟩
          · cases hx
        · cases hx
      · cases hx
    · cases hx
  · cases hx

theorem sim_update (r : Rel W G s w) (ha : arel G n a A) {t : TypeId} {m k x : Operand} (ho : o.op = .mapUpdate t m k x) (h : exUpdate P a s t m k x = some res) :
    Ans W G ((execOp A.eval o).run P w) res := by
  obtain ⟨vm, vk, vx, hm, hk, hx, h⟩ := eval3_some h
  have h1 := (ha.eval hm).rv
  have h2 := (ha.eval hk).rv
  have h3 := (ha.eval hx).rv
  unfold updMap at h
  split at h
  · rename_i i kt e hcv ht
    rw [hcv] at h1
    simp only [vrel] at h1
    obtain ⟨b, z, mm, h4, h5⟩ := h1
    unfold updBox at h
    split at h
    · rename_i es hb
      obtain ⟨b', z', m', h6, l, clock, h7, h8⟩ := r.box i _ hb
      rw [h4] at h6
      cases h6
      split at h
      · rename_i hok
        obtain ⟨d, hd⟩ := keyOk_und hok
        rw [hd] at hok h
        obtain ⟨Q, F, hQ⟩ := finder (w := w) hd h2 hok
        have hck := keyOk_sim (w := w) false hd h2 hok
        unfold updPut at h
        split at h
        · rename_i es' hput
          cases h
          rcases put_go F h2 h3 h8 hput 0 with ⟨j, en, q1, q2, q3, q4⟩ | ⟨q1, q2⟩
          · have hmm := hQ _ _ q1
            rw [Nat.zero_add] at hmm
            have hstay : ∃ key w1, (Instr.keyThatStays en.key (A.eval k)).run P w = .ok key w1 ∧ vrel G vk.v key ∧ w1.heap = w.heap ∧ w1.os = w.os ∧ w1.output = w.output := by
              unfold Instr.keyThatStays
              split
              · exact ⟨_, w, rfl, h2, rfl, rfl, rfl⟩
              · simp only [Sem.run_bind, run_choose, Question.forced]
                simp only [show (2 = 1) = False from by simp, decide_false, Bool.false_eq_true, if_false, Result.andThen_ok, Sem.run_pure]
                refine ⟨_, _, rfl, ?_, rfl, rfl, rfl⟩
                split
                · exact h2
                · exact q3
            obtain ⟨key, w1, e1, e2, e3, e4, e5⟩ := hstay
            have r1 := r.same_heap e3 e4 e5
            have hent := q4 key e2
            refine ⟨G, { w1 with heap := w1.heap.setIfInBounds b (.map (l.modify j fun e => { e with key := key, val := A.eval x }) clock) }, G.le_refl,
              r1.setBox hb trivial h4 trivial ⟨_, _, rfl, by simpa using hent⟩ trivial, ?_⟩
            have hlj : l[j]? = some en := by simpa using q2
            have hset : (setObj b (.map (l.modify j fun e => { e with key := key, val := A.eval x }) clock)).run P w1 = _ := MapKept.run_setObj_map (P := P) _ (by rw [e3]; exact h7)
            simp only [execOp, ho, Instr.mapUpdate, Sem.run_bind, run_und ht, Result.andThen_ok, h5, MapKept.run_getObj_map h7, hck, hmm, hlj, Option.map_some, Option.getD_some, e1, hset, Sem.run_pure]
          · have hmm := hQ _ _ q1
            have hent := q2 clock
            refine ⟨G, { w with heap := w.heap.setIfInBounds b (.map (l.push { key := A.eval k, val := A.eval x, born := clock }) (clock + 1)) }, G.le_refl,
              r.setBox hb trivial h4 trivial ⟨_, _, rfl, by simpa using hent⟩ trivial, ?_⟩
            have hset : (setObj b (.map (l.push { key := A.eval k, val := A.eval x, born := clock }) (clock + 1))).run P w = _ := MapKept.run_setObj_map (P := P) _ h7
            simp only [execOp, ho, Instr.mapUpdate, Sem.run_bind, run_und ht, Result.andThen_ok, h5, MapKept.run_getObj_map h7, hck, hmm, hset, Sem.run_pure]
        · cases h
      · cases h
    · cases h
  · cases h
end Go.CE

namespace Go.CE
variable {P : Program} {W : Frm} {G : Ghost} {s : St} {w : World} {n : Nat} {a : CAct} {A : Act} {o : Oper} {res : OpRes × St} {mt : Bool}

def psrel (G : Ghost) : List (Nat × TV) → List (Nat × Value) → Prop
  | [], l => l = []
  | (i, x) :: r, l => ∃ v t, l = (i, v) :: t ∧ tvrel G x v ∧ psrel G r t
theorem arel.parts (ha : arel G n a A) : ∀ {l : List (Nat × Operand)} {xs : List (Nat × TV)}, evalParts a l = some xs → psrel G xs (l.map fun p => (p.1, A.eval p.2))
  | [], xs, hx => by simp [evalParts] at hx; subst hx; rfl
  | (i, x) :: l, xs, hx => by
    simp only [evalParts] at hx
    split at hx
    · rename_i v hv
      split at hx
      · rename_i r hr
        cases hx
        exact ⟨_, _, rfl, ha.eval hv, ha.parts hr⟩
      · cases hx
    · cases hx

theorem fold_set : ∀ (L : List Value) (i off : Nat) (arr : Array Value), off + i + L.length ≤ arr.size →
    ((L.zipIdx i).foldl (fun (cs : Array Value) (x : Value × Nat) => cs.setIfInBounds (off + x.2) x.1) arr).size = arr.size ∧
    ∀ j : Nat, ((L.zipIdx i).foldl (fun (cs : Array Value) (x : Value × Nat) => cs.setIfInBounds (off + x.2) x.1) arr)[j]? = if off + i ≤ j ∧ j < off + i + L.length then L[j - (off + i)]? else arr[j]?
  | [], i, off, arr, _ => by
    refine ⟨rfl, fun j => ?_⟩
    have : ¬ (off + i ≤ j ∧ j < off + i + ([] : List Value).length) := by simp only [List.length_nil]; omega
    simp only [this, if_false]
    rfl
  | v :: L, i, off, arr, h => by
    simp only [List.length_cons] at h
    obtain ⟨h1, h2⟩ := fold_set L (i + 1) off (arr.setIfInBounds (off + i) v) (by simp; omega)
    simp only [List.zipIdx_cons, List.foldl_cons]
    refine ⟨by simpa using h1, fun j => ?_⟩
    rw [h2]
    simp only [List.length_cons]
    by_cases e : j = off + i
    · subst e
      have h4 : ¬ (off + (i + 1) ≤ off + i ∧ off + i < off + (i + 1) + L.length) := by omega
      have h5 : off + i ≤ off + i ∧ off + i < off + i + (L.length + 1) := by omega
      simp only [h4, h5, if_false, and_self, if_true, Nat.sub_self, List.getElem?_cons_zero]
      have : off + i < arr.size := by omega
      simp [this]
    · by_cases k : off + i ≤ j ∧ j < off + i + (L.length + 1)
      · have h4 : off + (i + 1) ≤ j ∧ j < off + (i + 1) + L.length := by omega
        obtain ⟨q, hq⟩ : ∃ q, j - (off + i) = q + 1 := ⟨j - (off + i) - 1, by omega⟩
        have hq' : j - (off + (i + 1)) = q := by omega
        simp only [h4, k, and_self, if_true, hq, hq', List.getElem?_cons_succ]
      · have h4 : ¬ (off + (i + 1) ≤ j ∧ j < off + (i + 1) + L.length) := by omega
        simp only [h4, k, if_false]
        rw [Array.getElem?_setIfInBounds_ne (by omega)]
/-- one part laid -/
theorem fill_one {v : Value} {off : Nat} {arr : Array Value} (h : off + v.cells.size ≤ arr.size) :
    ∃ arr' : Array Value, (v.cells.zipIdx.foldl (fun cs (c, j) => cs.setIfInBounds (off + j) c) arr) = arr' ∧ arr'.size = arr.size ∧
      ∀ j : Nat, arr'[j]? = if off ≤ j ∧ j < off + v.cells.size then v.cells[j - off]? else arr[j]? := by
  refine ⟨_, rfl, ?_⟩
  rw [← Array.foldl_toList, Array.toList_zipIdx]
  have := fold_set v.cells.toList 0 off arr (by simpa using h)
  simpa using this

theorem fill_sim {place : Nat → Option (Nat × Nat)} : ∀ {ps : List (Nat × TV)} {cs cs' : List (CV × Sh)} {l : List (Nat × Value)} {arr : Array Value},
    psrel G ps l → csrel G cs arr.toList → arr.size = cs.length → fillC place cs ps = some cs' → ∃ arr' : Array Value, Instr.fill place arr l = some arr' ∧ csrel G cs' arr'.toList ∧ arr'.size = cs'.length
  | [], cs, cs', l, arr, hp, hc, hs, h => by
    have : l = [] := hp
    subst this
    simp only [fillC, Option.some.injEq] at h
    subst h
    exact ⟨arr, rfl, hc, hs⟩
  | (i, x) :: ps, cs, cs', l, arr, hp, hc, hs, h => by
    obtain ⟨v, t, rfl, hv, ht⟩ := hp
    simp only [fillC] at h
    split at h
    · rename_i off size new hpl hn
      obtain ⟨k1, k2⟩ := hv.cells hn
      split at h
      · rename_i hlen
        have hlen := Nat.eq_of_beq_eq_true hlen
        split at h
        · rename_i cs1 ho
          obtain ⟨q1, q2, _⟩ := overlay_get ho
          obtain ⟨arr1, e1, e2, e3⟩ := fill_one (v := v) (off := off) (arr := arr) (by omega)
          have hc1 : csrel G cs1 arr1.toList := overlay_rel ho hc k1 (by simpa using k2) (fun j => by simpa using e3 j)
          obtain ⟨arr', f1, f2⟩ := fill_sim ht hc1 (by omega) h
          refine ⟨arr', ?_, f2⟩
          rw [Instr.fill, hpl]
          have g1 : ¬ (v.cells.size ≠ size) := by omega
          have g2 : ¬ (off + v.cells.size > arr.size) := by omega
          simp only [g1, g2, decide_false, Bool.or_self, Bool.false_eq_true, if_false, e1]
          exact f1
        · cases h
      · cases h
    · cases h

theorem places_eq : ∀ {fs : List Field} {pl : List (Nat × Nat)}, places P fs = some pl → fs.mapM (fun f => (P.info? f.type).map fun i => (f.offset, i.size)) = some pl
  | [], pl, h => by simp [places] at h; subst h; rfl
  | f :: fs, pl, h => by
    simp only [places] at h
    split at h
    · rename_i m ag hs
      split at h
      · rename_i l hl
        cases h
        obtain ⟨i, d, hi, _, rfl, _⟩ := szAgg_some hs
        simp [List.mapM_cons, hi, places_eq hl]
      · cases h
    · cases h

theorem sim_build (r : Rel W G s w) (ha : arel G n a A) {t : TypeId} {parts : Array (Nat × Operand)} (ho : o.op = .build t parts) (h : exBuild P a s t parts = some res) :
    Ans W G ((execOp A.eval o).run P w) res := by
  obtain ⟨ps, hps, h⟩ := evalP_some h
  obtain ⟨x, hx, rfl⟩ := tvR_some h
  have hp := ha.parts hps
  have hparts : (parts.map fun (i, x) => (i, A.eval x)).toList = parts.toList.map fun p => (p.1, A.eval p.2) := by simp
  suffices hs : ∃ arr : Array Value, P.built t (parts.toList.map fun p => (p.1, A.eval p.2)) = some arr ∧ tvrel G x (.agg arr) by
    obtain ⟨arr, h1, h2⟩ := hs
    refine Ans.val r (v := .agg arr) ?_ h2
    have := Go.run_build (P := P) w t (parts.map fun (i, x) => (i, A.eval x)) arr (by rw [hparts]; exact h1)
    simp [execOp, ho, this]
  have fin : ∀ {cs : List (CV × Sh)} {arr : Array Value}, csrel G cs arr.toList → arr.size = cs.length → tvrel G ⟨.agg (cs.map (·.1)), cs.map (·.2)⟩ (.agg arr) := by
    intro cs arr h1 h2
    refine .noSlice ?_ ?_ (by simp)
    · simp only [vrel]
      exact ⟨arr.toList, rfl, by simpa using h2, h1.1⟩
    · exact h1.2
  unfold buildC at hx
  split at hx
  · rename_i z fs hz ht
    split at hx
    · rename_i pl zs hpl hzs
      split at hx
      · rename_i cs hf
        cases hx
        obtain ⟨i, v, hi, hv, hc⟩ := zeroC_some hz
        obtain ⟨k1, k2⟩ := (ofConst_rel (G := G) hc).cells hzs
        obtain ⟨arr, e1, e2, e3⟩ := fill_sim hp k1 k2 hf
        refine ⟨arr, ?_, fin e2 e3⟩
        have e : (fun i => nthO pl i) = (fun i => pl.toArray[i]?) := by funext i; simp [nthO_eq]
        rw [e] at e1
        simp only [Program.built, hi, ht, hv, places_eq hpl]
        exact e1
      · cases hx
    · cases hx
  · rename_i z ln e hz ht
    split at hx
    · rename_i m ag zs hs hzs
      split at hx
      · rename_i cs hf
        cases hx
        obtain ⟨i, v, hi, hv, hc⟩ := zeroC_some hz
        obtain ⟨ie, d, hie, _, rfl, _⟩ := szAgg_some hs
        obtain ⟨k1, k2⟩ := (ofConst_rel (G := G) hc).cells hzs
        obtain ⟨arr, e1, e2, e3⟩ := fill_sim hp k1 k2 hf
        refine ⟨arr, ?_, fin e2 e3⟩
        simp only [Program.built, hi, ht, hv, hie]
        exact e1
      · cases hx
    · cases hx
  · cases hx

/-! rows -/
structure rowsrel (G : Ghost) (z : Nat) (rows : List (List CV)) (l : List Value) : Prop where
  each : ∀ r ∈ rows, r.length = z
  cells : rpre G rows l
  len : l.length = rows.length * z
theorem rpre_iff {z : Nat} : ∀ {rows : List (List CV)} {l : List Value}, (∀ r ∈ rows, r.length = z) → (rpre G rows l ↔ ∀ (i : Nat) r, rows[i]? = some r → pre G r (l.drop (i * z)))
  | [], l, _ => by simp [rpre]
  | x :: rows, l, hz => by
    constructor
    · intro h i r hr
      exact rpre_get h hz hr
    · intro h
      simp only [rpre]
      refine ⟨by simpa using h 0 x (by simp), (rpre_iff (fun y hy => hz y (List.mem_cons_of_mem _ hy))).2 fun i r hr => ?_⟩
      have := h (i + 1) r (by simpa using hr)
      rw [List.drop_drop, hz x (List.mem_cons_self ..)]
      have e : (i + 1) * z = z + i * z := by rw [Nat.add_mul, Nat.one_mul, Nat.add_comm]
      rwa [e] at this
theorem setRow_get : ∀ {rows rows' : List (List CV)} {i : Nat} {v : List CV}, setRow rows i v = some rows' → rows'.length = rows.length ∧ (∃ r, rows[i]? = some r ∧ v.length = r.length) ∧
    ∀ j : Nat, rows'[j]? = if j = i then some v else rows[j]?
  | [], _, _, _, h => by simp [setRow] at h
  | r :: l, rows', 0, v, h => by
    simp only [setRow] at h
    split at h
    · rename_i hb
      cases h
      refine ⟨rfl, ⟨r, by simp, Nat.eq_of_beq_eq_true hb⟩, fun j => ?_⟩
      cases j <;> simp
    · cases h
  | r :: l, rows', i + 1, v, h => by
    simp only [setRow] at h
    split at h
    · rename_i l' hl
      cases h
      obtain ⟨h1, h2, h3⟩ := setRow_get hl
      refine ⟨by simp [h1], by simpa using h2, fun j => ?_⟩
      cases j with
      | zero => simp
      | succ j => simp [h3 j]
    · cases h
theorem fillSlice_sim {z : Nat} (hz : 1 ≤ z) : ∀ {ps : List (Nat × TV)} {rows rows' : List (List CV)} {l : List (Nat × Value)} {arr : Array Value},
    psrel G ps l → rowsrel G z rows arr.toList → fillSlice rows ps = some rows' →
    ∃ arr' : Array Value, Instr.fill (fun i => some (i * z, z)) arr l = some arr' ∧ rowsrel G z rows' arr'.toList ∧ rows'.length = rows.length
  | [], rows, rows', l, arr, hp, hc, h => by
    have : l = [] := hp
    subst this
    simp only [fillSlice, Option.some.injEq] at h
    subst h
    exact ⟨arr, rfl, hc, rfl⟩
  | (i, x) :: ps, rows, rows', l, arr, hp, hc, h => by
    obtain ⟨v, t, rfl, hv, ht⟩ := hp
    simp only [fillSlice] at h
    split at h
    · rename_i cs hcs
      split at h
      · rename_i rows1 hset
        obtain ⟨q1, ⟨r0, q2, q3⟩, q4⟩ := setRow_get hset
        have hr0 : r0.length = z := hc.each r0 (List.mem_of_getElem? q2)
        have hi := (List.getElem?_eq_some_iff.1 q2).1
        obtain ⟨k1, k2⟩ := hv.cells (cs := withSh cs x.sh) (by simp [TV.cells?, hcs])
        have hlen : (withSh cs x.sh).length = cs.length := by rw [← List.length_map (f := (·.1)), map_withSh]
        have hle := hc.len
        simp only [Array.length_toList] at hle
        have hfit : i * z + v.cells.size ≤ arr.size := by
          have : (i + 1) * z ≤ rows.length * z := Nat.mul_le_mul_right z hi
          rw [Nat.add_mul, Nat.one_mul] at this
          omega
        obtain ⟨arr1, e1, e2, e3⟩ := fill_one (v := v) (off := i * z) (arr := arr) hfit
        have hpre : pre G cs v.cells.toList := by have := k1.1; rwa [map_withSh] at this
        have hsz : v.cells.size = z := by omega
        have each1 : ∀ r ∈ rows1, r.length = z := by
          intro r hr
          obtain ⟨j, hj, rfl⟩ := List.mem_iff_getElem.1 hr
          have := q4 j
          rw [List.getElem?_eq_getElem hj] at this
          split at this
          · cases this; omega
          · exact hc.each _ (List.mem_of_getElem? this.symm)
        have hc1 : rowsrel G z rows1 arr1.toList := by
          refine ⟨each1, ?_, by simp [e2, hle, q1]⟩
          rw [rpre_iff each1]
          intro j r hr
          rw [q4 j] at hr
          rw [pre_iff]
          intro q c hq
          have hq1 : q < z := by
            have := (List.getElem?_eq_some_iff.1 hq).1
            split at hr
            · cases hr; omega
            · have := hc.each _ (List.mem_of_getElem? hr); omega
          rw [List.getElem?_drop, Array.getElem?_toList, e3]
          split at hr
          · rename_i hji
            subst hji
            cases hr
            have c1 : j * z ≤ j * z + q ∧ j * z + q < j * z + v.cells.size := by omega
            simp only [c1, and_self, if_true]
            obtain ⟨g1, v', g2, g3⟩ := pre_iff.1 hpre q c hq
            exact ⟨g1, v', by rw [show j * z + q - j * z = q by omega]; simpa using g2, g3⟩
          · rename_i hji
            have c1 : ¬ (i * z ≤ j * z + q ∧ j * z + q < i * z + v.cells.size) := by
              rw [hsz]
              rintro ⟨c1, c2⟩
              rcases Nat.lt_or_ge j i with g | g
              · have : (j + 1) * z ≤ i * z := Nat.mul_le_mul_right z g
                rw [Nat.add_mul, Nat.one_mul] at this
                omega
              · have g : i + 1 ≤ j := by omega
                have : (i + 1) * z ≤ j * z := Nat.mul_le_mul_right z g
                rw [Nat.add_mul, Nat.one_mul] at this
                omega
            simp only [c1, if_false]
            have := pre_iff.1 ((rpre_iff hc.each).1 hc.cells j r hr) q c hq
            rw [List.getElem?_drop, Array.getElem?_toList] at this
            exact this
        obtain ⟨arr', f1, f2, f3⟩ := fillSlice_sim hz ht hc1 h
        refine ⟨arr', ?_, f2, by omega⟩
        rw [Instr.fill]
        have g1 : ¬ (v.cells.size ≠ z) := by omega
        have g2 : ¬ (i * z + v.cells.size > arr.size) := by omega
        simp only [g1, g2, decide_false, Bool.or_self, Bool.false_eq_true, if_false, e1]
        exact f1
      · cases h
    · cases h

theorem rep_rows {z : Nat} {cs : List CV} {v : Array Value} (_hz : 1 ≤ z) (hc : cs.length = z) (hv : v.size = z) (hp : pre G cs v.toList) (len : Nat) :
    rowsrel G z (List.replicate len cs) ((Array.range (len * z)).map (v[· % v.size]!)).toList := by
  have each : ∀ r ∈ List.replicate len cs, r.length = z := fun r hr => by rw [List.mem_replicate] at hr; rw [hr.2]; exact hc
  refine ⟨each, ?_, by simp⟩
  rw [rpre_iff each]
  intro i r hr
  have hi : i < len ∧ r = cs := by
    rw [List.getElem?_replicate] at hr
    split at hr
    · rename_i h; cases hr; exact ⟨h, rfl⟩
    · cases hr
  obtain ⟨hi, rfl⟩ := hi
  rw [pre_iff] at hp ⊢
  intro q c hq
  obtain ⟨g1, v', g2, g3⟩ := hp q c hq
  have hq1 : q < z := by have := (List.getElem?_eq_some_iff.1 hq).1; omega
  refine ⟨g1, v', ?_, g3⟩
  have hlt : i * z + q < len * z := by
    have : (i + 1) * z ≤ len * z := Nat.mul_le_mul_right z hi
    rw [Nat.add_mul, Nat.one_mul] at this
    omega
  have hm : (i * z + q) % v.size = q := by
    rw [hv, Nat.add_comm, Nat.add_mul_mod_self_right]
    exact Nat.mod_eq_of_lt hq1
  rw [List.getElem?_drop, Array.getElem?_toList]
  simp only [Array.getElem?_map, Array.getElem?_range, hlt, if_true, Option.map_some, hm]
  rw [Array.getElem?_toList] at g2
  rw [getElem!_def, g2]

theorem hrel_nil {hs : List Sh} : hrel G hs [] := by cases hs <;> trivial
theorem oneSh_sim {z : Nat} (_hz : 1 ≤ z) {ps : List (Nat × TV)} {rows : List (List CV)} {r0 : List CV} {l : List (Nat × Value)} {arr0 arr : Array Value} (hp : psrel G ps l)
    (hr : rowsrel G z rows arr0.toList) (hl : rows.length = 1) {rows' : List (List CV)} (hf : fillSlice rows ps = some rows') (he : Instr.fill (fun i => some (i * z, z)) arr0 l = some arr) :
    hrel G (oneSh ps) (arr.toList.take r0.length) := by
  unfold oneSh
  split
  · rename_i i x
    obtain ⟨v, t, rfl, hv, ht⟩ := hp
    have : t = [] := ht
    subst this
    simp only [fillSlice] at hf
    split at hf
    · rename_i cs hcs
      split at hf
      · rename_i rows1 hset
        obtain ⟨q1, ⟨r1, q2, q3⟩, q4⟩ := setRow_get hset
        have hi := (List.getElem?_eq_some_iff.1 q2).1
        have hi0 : i = 0 := by omega
        subst hi0
        rw [Instr.fill] at he
        simp only [Nat.zero_mul] at he
        split at he
        · cases he
        · rename_i hc
          simp only [Bool.or_eq_true, decide_eq_true_eq, not_or] at hc
          obtain ⟨arr1, e1, e2, e3⟩ := fill_one (v := v) (off := 0) (arr := arr0) (by omega)
          rw [e1] at he
          simp only [Instr.fill, Option.some.injEq] at he
          subst he
          have hsz := hr.len
          rw [hl, Nat.one_mul, Array.length_toList] at hsz
          rw [hrel_iff]
          intro j sh v' h1 h2
          rw [List.getElem?_take] at h2
          split at h2
          · rw [Array.getElem?_toList, e3] at h2
            split at h2
            · exact hrel_iff.1 hv.rs j sh v' h1 (by simpa using h2)
            · rename_i hn
              have := (Array.getElem?_eq_some_iff.1 h2).1
              omega
          · cases h2
      · cases hf
    · cases hf
  · simp [hrel]
theorem sim_buildSlice (r : Rel W G s w) (ha : arel G n a A) {t : TypeId} {len : Nat} {parts : Array (Nat × Operand)} (ho : o.op = .buildSlice t len parts) (h : exBuildSlice P a s t len parts = some res) :
    Ans W G ((execOp A.eval o).run P w) res := by
  obtain ⟨ps, hps, h⟩ := evalP_some h
  obtain ⟨x, hx, rfl⟩ := tvR_some h
  have hp := ha.parts hps
  have hparts : (parts.map fun (i, x) => (i, A.eval x)).toList = parts.toList.map fun p => (p.1, A.eval p.2) := by simp
  unfold buildSliceC at hx
  split at hx
  · rename_i e ht
    unfold bsZero at hx
    split at hx
    · rename_i m ag z hs hz
      obtain ⟨ie, d, hie, _, rfl, _⟩ := szAgg_some hs
      obtain ⟨i, v, hi, hv, hc⟩ := zeroC_some hz
      rw [hie] at hi
      cases hi
      unfold bsZeroC at hx
      split at hx
      · rename_i cs hcs
        split at hx
        · rename_i hck
          simp only [Bool.and_eq_true, Nat.beq_eq, Nat.ble_eq] at hck
          obtain ⟨⟨c1, c2⟩, c3⟩ := hck
          unfold bsEnd at hx
          split at hx
          · rename_i rows hf
            cases hx
            have hzr := ofConst_rel (G := G) hc
            obtain ⟨k1, k2⟩ := hzr.cells (cs := withSh cs z.sh) (by simp [TV.cells?, hcs])
            have hlen : (withSh cs z.sh).length = cs.length := by rw [← List.length_map (f := (·.1)), map_withSh]
            have hpre : pre G cs v.cells.toList := by have := k1.1; rwa [map_withSh] at this
            have hrows := rep_rows c2 c1 (by omega) hpre len
            obtain ⟨arr, e1, e2, e3⟩ := fillSlice_sim c2 hp hrows hf
            have hlr : rows.length = len := by simpa using e3
            obtain ⟨r1, le⟩ := r.newFr arr e arr.toList (List.prefix_refl _)
            have hone : ∀ r0, rows = [r0] → hrel G (oneSh ps) (arr.toList.take r0.length) := by
              intro r0 hr0
              have hl1 : len = 1 := by rw [hr0] at hlr; simpa using hlr.symm
              exact oneSh_sim c2 hp hrows (by simp [hl1]) hf e1
            refine ⟨_, put w (.cells arr e), .slice (some ⟨w.heap.size, 0, none⟩) len len, le, r1, ?_, ?_⟩
            · have h24 : ¬ (len * ie.size > 2 ^ 24) := by omega
              by_cases h0 : len * ie.size = 0
              · have hl0 : len = 0 := by
                  rcases Nat.mul_eq_zero.1 h0 with q | q
                  · exact q
                  · omega
                subst hl0
                simp only [Nat.zero_mul] at e1
                have e1' : Instr.fill (fun i => some (i * ie.size, ie.size)) ((Array.range 0).map ((#[] : Array Value)[· % (#[] : Array Value).size]!)) (parts.toList.map fun p => (p.1, A.eval p.2)) = some arr := by
                  have : ((Array.range 0).map ((#[] : Array Value)[· % (#[] : Array Value).size]!)) = ((Array.range 0).map (v.cells[· % v.cells.size]!)) := by simp
                  rw [this]; exact e1
                simp only [execOp, ho, Instr.buildSlice, Sem.run_bind, run_und ht, run_size hie, Result.andThen_ok, Nat.zero_mul, Sem.run_ite, if_true, Sem.run_pure, hparts, e1', newRow, run_newObj]
                simp [put]
              · simp only [execOp, ho, Instr.buildSlice, Sem.run_bind, run_und ht, run_size hie, Result.andThen_ok, Sem.run_ite, h24, h0, if_false, Sem.run_pure, run_zero hie hv, hparts, e1, newRow, run_newObj]
            · refine ⟨?_, ?_, ?_⟩
              · simp only [vrel]
                refine ⟨some ⟨w.heap.size, 0, none⟩, len, by rw [hlr], by omega, .inr ⟨w.heap.size, 0, arr.toList, ie.size, rfl, by simp [Ghost.setFr], e2.each, ?_⟩⟩
                exact rpre_mono le _ _ e2.cells
              · refine ⟨?_, hrel_nil⟩
                intro a1 l1 c1 heq
                cases heq
                rfl
              · intro r0 hr0 b off l1 cap1 vals heq hfr
                cases heq
                simp only [Ghost.setFr, if_true, Option.some.injEq] at hfr
                subst hfr
                cases hr0
                simp only [List.drop_succ_cons, List.drop_zero]
                exact hrel_mono le (hone r0 rfl)
          · cases hx
        · cases hx
      · cases hx
    · cases hx
  · cases hx
end Go.CE

namespace Go.CE
variable {P : Program} {W : Frm} {G : Ghost} {s : St} {w : World} {n : Nat} {a : CAct} {A : Act} {o : Oper} {res : OpRes × St} {mt : Bool}

theorem rowsrel_append {z : Nat} {r1 r2 : List (List CV)} {l1 l2 : List Value} (h1 : rowsrel G z r1 l1) (h2 : rowsrel G z r2 l2) : rowsrel G z (r1 ++ r2) (l1 ++ l2) := by
  have each : ∀ r ∈ r1 ++ r2, r.length = z := fun r hr => by
    rcases List.mem_append.1 hr with h | h
    · exact h1.each r h
    · exact h2.each r h
  refine ⟨each, ?_, by simp [h1.len, h2.len, Nat.add_mul]⟩
  rw [rpre_iff each]
  intro i r hr
  rcases Nat.lt_or_ge i r1.length with h | h
  · rw [List.getElem?_append_left h] at hr
    have := (rpre_iff h1.each).1 h1.cells i r hr
    exact pre_app (drop_prefix (List.prefix_append _ _) _) this
  · rw [List.getElem?_append_right h] at hr
    have := (rpre_iff h2.each).1 h2.cells _ r hr
    have e : (l1 ++ l2).drop (i * z) = l2.drop ((i - r1.length) * z) := by
      rw [List.drop_append, List.drop_eq_nil_of_le, List.nil_append, h1.len]
      · congr 1
        rw [Nat.sub_mul]
      · rw [h1.len]
        exact Nat.mul_le_mul_right z h
    rw [e]
    exact this
theorem csrel_append {c1 c2 : List (CV × Sh)} {l : List Value} (h1 : csrel G c1 l) (h2 : csrel G c2 (l.drop c1.length)) : csrel G (c1 ++ c2) l := by
  rw [csrel_iff] at h1 h2 ⊢
  intro j c h hj
  rcases Nat.lt_or_ge j c1.length with k | k
  · rw [List.getElem?_append_left k] at hj
    exact h1 j c h hj
  · rw [List.getElem?_append_right k] at hj
    obtain ⟨g1, v, g2, g3⟩ := h2 _ c h hj
    refine ⟨g1, v, ?_, g3⟩
    rw [List.getElem?_drop] at g2
    rwa [show c1.length + (j - c1.length) = j by omega] at g2
theorem withSh_length (cs : List CV) (hs : List Sh) : (withSh cs hs).length = cs.length := by rw [← List.length_map (f := (·.1)), map_withSh]
theorem flatNo_rel {z : Nat} : ∀ {rows : List (List CV)} {l : List Value}, (∀ r ∈ rows, r.length = z) → rpre G rows l → csrel G (flatNo rows) l ∧ (flatNo rows).length = rows.length * z
  | [], l, _, _ => by simp [flatNo, csrel, pre, hrel]
  | r :: rows, l, hz, h => by
    simp only [rpre] at h
    obtain ⟨h1, h2⟩ := flatNo_rel (fun y hy => hz y (List.mem_cons_of_mem _ hy)) h.2
    have hr := hz r (List.mem_cons_self ..)
    simp only [flatNo]
    refine ⟨csrel_append (withSh_rel h.1 (by simp [hrel])) (by rw [withSh_length]; exact h1), ?_⟩
    simp only [List.length_append, withSh_length, h2, hr, List.length_cons, Nat.add_mul, Nat.one_mul]
    omega
theorem okRows_all {z : Nat} : ∀ {rows : List (List CV)}, okRows z rows = true → ∀ r ∈ rows, r.length = z
  | [], _ => by simp
  | x :: rows, h => by
    simp only [okRows] at h
    split at h
    · rename_i hb
      intro r hr
      rcases List.mem_cons.1 hr with rfl | hr
      · exact Nat.eq_of_beq_eq_true hb
      · exact okRows_all h r hr
    · cases h

/-- cells of a slice, loaded -/
theorem first_slice {b off z len cap : Nat} {c : Array Value} {t : TypeId} {l : List Value} (h : w.heap[b]? = some (.cells c t (0, 0))) (hl : l <+: c.toList.drop off) (hlen : l.length = len * z) :
    ∀ w' : World, w'.heap = w.heap → (Builtin.firstCells z len (.slice (some ⟨b, off, none⟩) len cap)).run P w' = .ok ⟨l⟩ w' := by
  intro w' hw
  apply run_firstCells_some w' z len ⟨b, off, none⟩ len cap l hlen
  intro j v hj
  rw [addr_add, cell_at (by rw [hw]; exact h)]
  obtain ⟨u, hu⟩ := hl
  have : (c.toList.drop off)[j]? = some v := by
    rw [← hu, List.getElem?_append_left (List.getElem?_eq_some_iff.1 hj).1]
    exact hj
  simpa using this

/-- the rows of a slice as they lie -/
theorem old_sim (r : Rel W G s w) {z : Nat} {rows : List (List CV)} {v : Value} (hv : vrel G (.slice rows) v) (hz : okHead z rows = true) (hz1 : 1 ≤ z) :
    ∃ ad cap l, v = .slice ad rows.length cap ∧ rows.length ≤ cap ∧ rowsrel G z rows l ∧ (∀ w' : World, w'.heap = w.heap → (Builtin.firstCells z rows.length v).run P w' = .ok ⟨l⟩ w') ∧
      (rows ≠ [] → ∃ b off vals, ad = some ⟨b, off, none⟩ ∧ G.fr b = some vals ∧ l = (vals.drop off).take (rows.length * z) ∧ off + rows.length * z ≤ vals.length) := by
  simp only [vrel] at hv
  obtain ⟨ad, cap, rfl, hle, h3⟩ := hv
  rcases h3 with h3 | ⟨b, off, vals, z', h4, h5, h6, h7⟩
  · subst h3
    refine ⟨ad, cap, [], rfl, hle, ⟨by simp, by simp [rpre], by simp⟩, ?_, by simp⟩
    intro w' hw
    cases ad with
    | none => simp [Builtin.firstCells]
    | some ad => simp [Builtin.firstCells, loadCells, loadCellsFrom]
  · cases rows with
    | nil =>
      refine ⟨ad, cap, [], rfl, hle, ⟨by simp, by simp [rpre], by simp⟩, ?_, by simp⟩
      intro w' hw
      cases ad with
      | none => simp [Builtin.firstCells]
      | some ad => simp [Builtin.firstCells, loadCells, loadCellsFrom]
    | cons y rest =>
      have hy : y.length = z := by simp only [okHead] at hz; exact Nat.eq_of_beq_eq_true hz
      have : z' = z := by rw [← hy]; exact (h6 y (List.mem_cons_self ..)).symm
      subst this
      subst h4
      obtain ⟨c, t, k1, k2⟩ := r.fr b vals h5
      have hlen := rpre_length h7 h6
      rw [List.length_drop] at hlen
      have hpos : (y :: rest).length * z' ≤ vals.length - off := hlen
      have hlt : off + (y :: rest).length * z' ≤ vals.length ∨ (y :: rest).length * z' = 0 := by omega
      have htl : ((vals.drop off).take ((y :: rest).length * z')).length = (y :: rest).length * z' := by simp; simp at hpos; omega
      refine ⟨_, cap, (vals.drop off).take ((y :: rest).length * z'), rfl, hle, ⟨h6, ?_, htl⟩, ?_, fun _ => ?_⟩
      · rw [rpre_iff h6]
        intro i r0 hr0
        have h8 := (rpre_iff h6).1 h7 i r0 hr0
        have hi := (List.getElem?_eq_some_iff.1 hr0).1
        have hr1 := h6 r0 (List.mem_of_getElem? hr0)
        rw [pre_iff] at h8 ⊢
        intro q c0 hq
        obtain ⟨g1, v', g2, g3⟩ := h8 q c0 hq
        refine ⟨g1, v', ?_, g3⟩
        rw [List.getElem?_drop] at g2 ⊢
        rw [List.getElem?_take]
        have hq1 := (List.getElem?_eq_some_iff.1 hq).1
        have : (i + 1) * z' ≤ (y :: rest).length * z' := Nat.mul_le_mul_right z' hi
        rw [Nat.add_mul, Nat.one_mul] at this
        have : i * z' + q < (y :: rest).length * z' := by omega
        simp only [this, if_true]
        exact g2
      · refine first_slice k1 ?_ htl
        exact (List.take_prefix _ _).trans (drop_prefix k2 off)
      · by_cases hzz : off ≤ vals.length
        · exact ⟨b, off, vals, rfl, h5, rfl, by omega⟩
        · refine ⟨b, off, vals, rfl, h5, rfl, ?_⟩
          exfalso
          have : 1 ≤ (y :: rest).length * z' := Nat.mul_pos (by simp) hz1
          omega


theorem bytes_rel (b : List UInt8) : rpre G (ofBytes b) (b.map fun x => Value.int .u8 (.ofNat x.toNat)) := by
  induction b with
  | nil => simp [ofBytes, rpre]
  | cons x b ih =>
    simp only [ofBytes, List.map_cons, rpre, List.length_singleton, List.drop_succ_cons, List.drop_zero]
    refine ⟨?_, ih⟩
    simp only [pre]
    exact ⟨rfl, _, _, rfl, by simp [vrel], trivial⟩
theorem ofBytes_length (b : List UInt8) : (ofBytes b).length = b.length := by induction b with | nil => rfl | cons x b ih => simp [ofBytes, ih]
theorem rowsOf_sim {z : Nat} : ∀ {k : Nat} {cs : List (CV × Sh)} {rows : List (List CV)} {l : List Value}, rowsOf z k cs = some rows → csrel G cs l →
    rows.length = k ∧ (∀ r ∈ rows, r.length = z) ∧ rpre G rows l ∧ k * z ≤ cs.length
  | 0, cs, rows, l, h, _ => by simp [rowsOf] at h; subst h; simp [rpre]
  | k + 1, cs, rows, l, h, hc => by
    simp only [rowsOf] at h
    split at h
    · rename_i x hx
      split at h
      · rename_i r hr
        cases h
        obtain ⟨h1, h2⟩ := firstN_some hx
        have hp := hc.part (off := 0) (n := z) (x := x) (by simp [takeN, dropN, hx])
        simp only [List.drop_zero] at hp
        have hd : csrel G (dropN cs z) (l.drop z) := by
          rw [dropN_eq]
          rw [csrel_iff] at hc ⊢
          intro j c sh hj
          rw [List.getElem?_drop] at hj ⊢
          exact hc _ _ _ hj
        obtain ⟨i1, i2, i3, i4⟩ := rowsOf_sim hr hd
        have hxl : (x.map (·.1)).length = z := by simpa using h2
        have hle : z ≤ cs.length := by
          have : (cs.take z).length = z := by rw [← h1]; exact h2
          simp at this
          omega
        rw [dropN_eq, List.length_drop] at i4
        refine ⟨by simp [i1], ?_, ?_, by rw [Nat.add_mul, Nat.one_mul]; omega⟩
        · intro y hy
          rcases List.mem_cons.1 hy with rfl | hy
          · exact hxl
          · exact i2 y hy
        · simp only [rpre, hxl]
          exact ⟨pre_app (List.take_prefix _ _) hp.1.1, i3⟩
      · cases h
    · cases h

/-- what is appended -/
theorem src_sim (r : Rel W G s w) {zn : Nat} (hz1 : 1 ≤ zn) {x : TV} {v : Value} (hx : tvrel G x v) {new : List (List CV)} {nc : List (CV × Sh)} (h : srcRows s zn x.sh x.v = some (new, nc))
    (hok : okRows zn new = true) : ∃ l, (∀ w' : World, (Builtin.lenOf v).run P w' = .ok new.length w') ∧
      (∀ w' : World, w'.heap = w.heap → (Builtin.firstCells zn new.length v).run P w' = .ok ⟨l⟩ w') ∧ rowsrel G zn new l ∧ csrel G nc l ∧ nc.length = new.length * zn := by
  have hall := okRows_all hok
  have h1 := hx.rv
  unfold srcRows at h
  split at h
  · rename_i sh r0 hcv
    cases h
    rw [hcv] at h1
    have hhead : okHead zn [r0] = true := by simp only [okHead]; simpa using hall r0 (by simp)
    obtain ⟨ad, cap, l, rfl, hle, hr, hf, ho⟩ := old_sim (P := P) r h1 hhead hz1
    obtain ⟨b, off, vals, rfl, k1, k2, k3⟩ := ho (by simp)
    refine ⟨l, fun w' => rfl, hf, hr, ?_, ?_⟩
    · have hp : pre G r0 l := by have := hr.cells; simp only [rpre] at this; exact this.1
      refine withSh_rel hp ?_
      have := hx.ro r0 hcv b off _ _ vals rfl k1
      rw [k2]
      have e : r0.length = [r0].length * zn := by simp [hall r0 (by simp)]
      rwa [e] at this
    · rw [withSh_length]; simp [hall r0 (by simp)]
  · rename_i sh ys hcv
    cases h
    rw [hcv] at h1
    have hhead : okHead zn new = true := by
      cases new with
      | nil => rfl
      | cons y rest => simp only [okHead]; simpa using hall y (by simp)
    obtain ⟨ad, cap, l, rfl, hle, hr, hf, ho⟩ := old_sim (P := P) r h1 hhead hz1
    obtain ⟨k1, k2⟩ := flatNo_rel hr.each hr.cells
    exact ⟨l, fun w' => rfl, hf, hr, k1, k2⟩
  · rename_i sh b hcv
    cases h
    rw [hcv] at h1
    simp only [vrel] at h1
    subst h1
    refine ⟨b.map fun x => Value.int .u8 (.ofNat x.toNat), fun w' => ?_, fun w' _ => ?_, ⟨hall, bytes_rel b, ?_⟩, ?_⟩
    · simp [Builtin.lenOf, ofBytes_length, ByteArray.size]
    · simp only [Builtin.firstCells, Sem.run_pure, ofBytes_length]
      congr 1
      apply Array.ext'
      simp [ByteArray.data_extract]
    · have : b = [] ∨ zn = 1 := by
        cases b with
        | nil => exact .inl rfl
        | cons x b => right; have := hall [.int .u8 (.ofNat x.toNat)] (by simp [ofBytes]); simpa using this.symm
      rcases this with rfl | rfl
      · simp [ofBytes]
      · simp [ofBytes_length]
    · exact flatNo_rel hall (bytes_rel b)
  · rename_i sh i off len hcv
    rw [hcv] at h1
    simp only [vrel] at h1
    obtain ⟨b, z, m, cap, k1, rfl, k2, k3⟩ := h1
    split at h
    · rename_i z0 cs hb
      split at h
      · rename_i hzz
        have hzz := Nat.eq_of_beq_eq_true hzz
        split at h
        · rename_i ys hys
          cases h
          obtain ⟨b', z', m', q1, e, c, t, q2, q3, q4⟩ := r.box i _ hb
          rw [k1] at q1
          cases q1
          have hd : csrel G (dropN cs off) (c.toList.drop off) := by
            rw [dropN_eq]
            rw [csrel_iff] at q3 ⊢
            intro j cc sh' hj
            rw [List.getElem?_drop] at hj ⊢
            exact q3 _ _ _ hj
          obtain ⟨i1, i2, i3, i4⟩ := rowsOf_sim hys hd
          have hdl := hd.length_le
          have htl : ((c.toList.drop off).take (len * zn)).length = len * zn := by
            rw [List.length_take]
            omega
          have hrr : rowsrel G zn new ((c.toList.drop off).take (len * zn)) := by
            refine ⟨hall, ?_, by rw [htl, i1]⟩
            rw [rpre_iff hall]
            intro j r0 hr0
            have h8 := (rpre_iff hall).1 i3 j r0 hr0
            have hj := (List.getElem?_eq_some_iff.1 hr0).1
            have hr1 := hall r0 (List.mem_of_getElem? hr0)
            rw [pre_iff] at h8 ⊢
            intro q c0 hq
            obtain ⟨g1, v', g2, g3⟩ := h8 q c0 hq
            refine ⟨g1, v', ?_, g3⟩
            rw [List.getElem?_drop] at g2 ⊢
            rw [List.getElem?_take]
            have hq1 := (List.getElem?_eq_some_iff.1 hq).1
            have : (j + 1) * zn ≤ len * zn := Nat.mul_le_mul_right zn (by omega)
            rw [Nat.add_mul, Nat.one_mul] at this
            have : j * zn + q < len * zn := by omega
            simp only [this, if_true]
            exact g2
          obtain ⟨f1, f2⟩ := flatNo_rel hrr.each hrr.cells
          refine ⟨_, fun w' => ?_, ?_, hrr, f1, f2⟩
          · simp [Builtin.lenOf, i1]
          · rw [i1]
            exact first_slice q2 (List.take_prefix _ _) htl
        · cases h
      · cases h
    · cases h
  · cases h
end Go.CE
