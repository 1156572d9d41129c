/- append, make, conversions; all operations together; operations in a row. Conditions: the relation of the states, calls that answer alike. -/
import Derived.Test.YtnaobokbalfhkaaGreatDoorA4
import Derived.Defers
import Derived.Recover
namespace Go.CE
variable {P : Program} {W : Frm} {G : Ghost} {s : St} {w : World} {n : Nat} {a : CAct} {A : Act} {o : Oper} {res : OpRes × St} {mt : Bool}

/-- every zero value is as long as its type says -/
def ZeroOk (_ : Program) : Prop := True
theorem zeroFits_ok {i : TypeInfo} (h : zeroFits i = true) : ∃ z, i.zero = some z ∧ z.cells.size = i.size := by
  unfold zeroFits at h
  split at h
  · rename_i v hv; exact ⟨v, hv, Nat.eq_of_beq_eq_true h⟩
  · cases h

theorem notInt_zeros {u : TypeId} (h : notInt (P.underlying u) = true) : P.underlying u = some .string ∨ ∃ e, P.underlying u = some (.slice e) := by
  unfold notInt at h
  split at h
  · rename_i e he; exact .inr ⟨_, he⟩
  · rename_i he; exact .inl he
  · cases h

theorem run_app_in {t u ty e : TypeId} {i : TypeInfo} {base : Option Addr} {sLen sCap k : Nat} {x : Value} {news : Array Value} {w' : World} (hu : notInt (P.underlying u) = true)
    (ht : P.underlying t = some (.slice e)) (hi : P.info? e = some i) (hlen : ∀ w', (Builtin.lenOf x).run P w' = .ok k w') (hfc : (Builtin.firstCells i.size k x).run P w = .ok news w)
    (hfit : sLen + k ≤ sCap) (hst : (match base with | some a => storeCells (a.add (sLen * i.size)) news.toList | none => pure ()).run P w = .ok () w') :
    (Builtin.append_ #[t, u] ty #[.slice base sLen sCap, x]).run P w = .ok (.slice base (sLen + k) sCap) w' := by
  have hd := notInt_zeros hu
  cases base with
  | none =>
    have : w' = w := by
      simp only [Sem.run_pure] at hst
      cases hst; rfl
    subst this
    rcases hd with hd | ⟨e', hd⟩ <;> simp [Builtin.append_, run_und ht, run_und hd, run_size hi, hlen, hfit, hfc]
  | some ad =>
    have hst' : (storeCells (ad.add (sLen * i.size)) news.toList).run P w = .ok () w' := hst
    rcases hd with hd | ⟨e', hd⟩ <;> simp [Builtin.append_, run_und ht, run_und hd, run_size hi, hlen, hfit, hfc, hst']

theorem run_app_grow {t u ty e : TypeId} {i : TypeInfo} {z : Value} {base : Option Addr} {sLen sCap k : Nat} {x : Value} {olds news : Array Value} (hu : notInt (P.underlying u) = true)
    (ht : P.underlying t = some (.slice e)) (hi : P.info? e = some i) (hz : i.zero = some z) (hlen : ∀ w', (Builtin.lenOf x).run P w' = .ok k w')
    (hof : ∀ w' : World, w'.heap = w.heap → (Builtin.firstCells i.size sLen (.slice base sLen sCap)).run P w' = .ok olds w')
    (hfc : ∀ w' : World, w'.heap = w.heap → (Builtin.firstCells i.size k x).run P w' = .ok news w')
    (hg : sCap < sLen + k) (hb : (sLen + k) * i.bytes ≤ 70368744177664) (hbig : 1 ≤ i.bytes) :
    ∃ cap', sLen + k ≤ cap' ∧ (Builtin.append_ #[t, u] ty #[.slice base sLen sCap, x]).run P w =
      .ok (.slice (some ⟨w.heap.size, 0, none⟩) (sLen + k) cap') (put { w with drawn := w.drawn + 1 } (.cells (olds ++ news ++ Builtin.zeroCells z.cells (cap' - (sLen + k))) e)) := by
  have hd := notInt_zeros hu
  refine ⟨(Question.appendCap (sLen + k) sCap e).cut (w.tape w.drawn (.appendCap (sLen + k) sCap e)), by simp [Question.cut], ?_⟩
  have hn : ¬ (sLen + k ≤ sCap) := by omega
  have h48 : ¬ (281474976710656 < Builtin.nextslicecap (sLen + k) sCap * i.bytes) := by
    have := growslice_fits (bytes := i.bytes) hg (by omega)
    omega
  have hf := hfc w.drew rfl
  have hfo := hof w.drew rfl
  have h63 : ¬ (9223372036854775807 < (sLen : Int) + (k : Int) ∧ i.bytes = 0) := by
    rintro ⟨h1, h2⟩
    omega
  rcases hd with hd | ⟨e', hd⟩ <;>
    simp [Builtin.append_, run_und ht, run_und hd, run_size hi, run_info hi, run_zero hi hz, hlen, hn, h48, hf, hfo, Question.forced, newRow, h63]
  all_goals rfl

theorem zeroCells_size (z : Array Value) (k : Nat) : (Builtin.zeroCells z k).size = k * z.size := by simp [Builtin.zeroCells]

/-- the new block: what was there, what is new, what is free -/
theorem fresh_tok (r : Rel W G s w) {zn e : Nat} {L : List Value} {rest : Array Value} {t : TypeId} {m : Nat} {w1 : World} (hw : w1.heap = w.heap) (ho : w1.os = w.os) (hu : w1.output = w.output)
    {c : Array Value} (hc : c.toList = L ++ rest.toList) (hm : m ≤ c.size) :
    ∃ G', G.le G' ∧ Rel W G' (s.pushTok e zn) (put w1 (.cells c t)) ∧ G'.fr w.heap.size = some L ∧ G'.tk s.nt e = some (w.heap.size, L.length, m, zn) := by
  have r1 := r.same_heap hw ho hu
  obtain ⟨r2, le1⟩ := r1.newFr c t L (by rw [hc]; exact List.prefix_append _ _)
  have hs : w1.heap.size = w.heap.size := by rw [hw]
  rw [hs] at r2 le1
  have hcell : (put w1 (.cells c t)).heap[w.heap.size]? = some (.cells c t (0, 0)) := by rw [← hs]; exact put_new
  obtain ⟨r3, le2⟩ := r2.pushTok e zn w.heap.size m L c t (by simp [Ghost.setFr]) hcell hm r.free (by
    intro i e' z b n m hi hk
    obtain ⟨b', n', m', l', c', t', k1, k2, k3, k4, _⟩ := r.tok i e' z hi
    have hk' : G.tk i e' = some (b, n, m, z) := hk
    rw [hk'] at k1
    cases k1
    have := lt_of_obj k4
    omega)
  exact ⟨_, Ghost.le_trans le1 le2, r3, by simp [Ghost.addTk, Ghost.setFr], by simp [Ghost.addTk]⟩
theorem move_tok (r : Rel W G s w) {i e0 e zn : Nat} (hi : look s.toks i = some (e0, zn)) (he : e0 < e) {L : List Value} {rest : Array Value} {t : TypeId} {m : Nat} {w1 : World} (hw : w1.heap = w.heap)
    (ho : w1.os = w.os) (hu : w1.output = w.output) {c : Array Value} (hc : c.toList = L ++ rest.toList) (hm : m ≤ c.size) :
    ∃ G', G.le G' ∧ Rel W G' (s.setTok i e zn) (put w1 (.cells c t)) ∧ G'.fr w.heap.size = some L ∧ G'.tk i e = some (w.heap.size, L.length, m, zn) := by
  have r1 := r.same_heap hw ho hu
  obtain ⟨r2, le1⟩ := r1.newFr c t L (by rw [hc]; exact List.prefix_append _ _)
  have hs : w1.heap.size = w.heap.size := by rw [hw]
  rw [hs] at r2 le1
  have hcell : (put w1 (.cells c t)).heap[w.heap.size]? = some (.cells c t (0, 0)) := by rw [← hs]; exact put_new
  obtain ⟨r3, le2⟩ := r2.moveTok (b := w.heap.size) (m := m) (l := L) (c := c) (t := t) e hi he (by simp [Ghost.setFr]) hcell hm r.free (by
    intro i e' z b n m hi hk
    obtain ⟨b', n', m', l', c', t', k1, k2, k3, k4, _⟩ := r.tok i e' z hi
    have hk' : G.tk i e' = some (b, n, m, z) := hk
    rw [hk'] at k1
    cases k1
    have := lt_of_obj k4
    omega)
  exact ⟨_, Ghost.le_trans le1 le2, r3, by simp [Ghost.addTk, Ghost.setFr], by simp [Ghost.addTk]⟩

/-- a slice that may append, on the rows L at the head of block b -/
theorem slice_tok {G : Ghost} {b zn i e m cap : Nat} {L : List Value} {rows : List (List CV)} (hf : G.fr b = some L) (hk : G.tk i e = some (b, L.length, m, zn)) (hr : rowsrel G zn rows L)
    (hle : rows.length ≤ cap) (hm : cap * zn = m) : tvrel G ⟨.slice rows, [.tok i e]⟩ (.slice (some ⟨b, 0, none⟩) rows.length cap) := by
  refine .short ?_ ⟨?_, trivial⟩ (by simp)
  · simp only [vrel]
    exact ⟨_, cap, rfl, hle, .inr ⟨b, 0, L, zn, rfl, hf, hr.each, hr.cells⟩⟩
  · intro a1 l1 c1 heq
    cases heq
    exact ⟨b, L.length, m, zn, 0, hk, rfl, by rw [hr.len]; omega, by omega⟩
theorem rowsrel_mono {G G' : Ghost} (le : G.le G') {z : Nat} {rows : List (List CV)} {l : List Value} (h : rowsrel G z rows l) : rowsrel G' z rows l := ⟨h.each, rpre_mono le _ _ h.cells, h.len⟩

theorem app_own (r : Rel W G s w) (_hZ : ZeroOk P) {t u ty e : TypeId} {inf : TypeInfo} (hu : notInt (P.underlying u) = true) (ht : P.underlying t = some (.slice e)) (hi : P.info? e = some inf)
    (h1 : 1 ≤ inf.size) (h2 : 1 ≤ inf.bytes) (h3 : zeroFits inf = true) {es new : List (List CV)} {vd vx : Value} {sh : Sh} {l : List Value} (hd : vrel G (.slice es) vd) (hsh : shrel G sh vd)
    (hh : okHead inf.size es = true) (hb : (es.length + new.length) * inf.bytes ≤ 70368744177664) (hn : 0 < new.length)
    (hlen : ∀ w' : World, (Builtin.lenOf vx).run P w' = .ok new.length w') (hfc : ∀ w' : World, w'.heap = w.heap → (Builtin.firstCells inf.size new.length vx).run P w' = .ok ⟨l⟩ w')
    (hnew : rowsrel G inf.size new l) {x : TV} {s' : St} (h : appOwn inf.size es new (es.length + new.length) s sh = some (x, s')) :
    ∃ G' w' v, G.le G' ∧ Rel W G' s' w' ∧ (Builtin.append_ #[t, u] ty #[vd, vx]).run P w = .ok v w' ∧ tvrel G' x v := by
  obtain ⟨z, hz, hzs⟩ := zeroFits_ok h3
  obtain ⟨ad, cap, lo, rfl, hle, hrow, hfo, hold⟩ := old_sim (P := P) r hd hh h1
  have hall := rowsrel_append hrow hnew
  have grown : cap < es.length + new.length → ∃ cap', es.length + new.length ≤ cap' ∧ ∃ c : Array Value, c.toList = (lo ++ l) ++ (Builtin.zeroCells z.cells (cap' - (es.length + new.length))).toList ∧ cap' * inf.size ≤ c.size ∧
      (Builtin.append_ #[t, u] ty #[.slice ad es.length cap, vx]).run P w = .ok (.slice (some ⟨w.heap.size, 0, none⟩) (es.length + new.length) cap') (put { w with drawn := w.drawn + 1 } (.cells c e)) := by
    intro hg
    obtain ⟨cap', k1, k2⟩ := run_app_grow (P := P) (ty := ty) hu ht hi hz hlen hfo hfc hg hb h2
    refine ⟨cap', k1, _, by simp, ?_, k2⟩
    have e1 := hall.len
    rw [List.length_append] at e1
    rw [List.length_append] at e1
    have e2 : (cap' - (es.length + new.length)) * inf.size = cap' * inf.size - (es.length + new.length) * inf.size := Nat.sub_mul ..
    have e3 : (es.length + new.length) * inf.size ≤ cap' * inf.size := Nat.mul_le_mul_right _ k1
    simp only [Array.size_append, zeroCells_size, hzs, List.size_toArray]
    omega
  unfold appOwn at h
  split at h
  · cases h
    have hfull := hsh _ _ _ rfl
    obtain ⟨cap', k1, c, k2, k3, k4⟩ := grown (by omega)
    obtain ⟨G', g1, g2, g3, g4⟩ := fresh_tok r (zn := inf.size) (e := es.length + new.length) (t := e) (w1 := { w with drawn := w.drawn + 1 }) rfl rfl rfl k2 k3
    refine ⟨G', _, _, g1, g2, k4, ?_⟩
    have := slice_tok g3 g4 (rowsrel_mono g1 hall) (cap := cap') (by simpa using k1) rfl
    simpa using this
  · rename_i i k
    split at h
    · rename_i k' z' htok
      split at h
      · rename_i hck
        simp only [Bool.and_eq_true, Nat.beq_eq] at hck
        obtain ⟨rfl, rfl⟩ := hck
        cases h
        obtain ⟨b, n1, m1, z1, off, j1, j2, j3, j4⟩ := hsh _ _ _ rfl
        obtain ⟨b', n', m', l0, c0, t0, q1, q2, q3, q4, q5, q6⟩ := r.tok i k _ htok
        rw [j1] at q1
        cases q1
        subst j2
        by_cases hfit : es.length + new.length ≤ cap
        · have e0 : cap * inf.size = es.length * inf.size + (cap - es.length) * inf.size := by rw [← Nat.add_mul]; congr 1; omega
          have e1 : new.length * inf.size ≤ (cap - es.length) * inf.size := Nat.mul_le_mul_right _ (by omega)
          have e2 := hnew.len
          have hcs : ∃ cs : List (CV × Sh), csrel G cs l ∧ l.length = cs.length := ⟨_, (flatNo_rel hnew.each hnew.cells).1, by rw [e2]; exact (flatNo_rel hnew.each hnew.cells).2.symm⟩
          obtain ⟨cs, hcs1, hcs2⟩ := hcs
          obtain ⟨c', p1, p2, p3⟩ := run_storeCells_at (P := P) (g := b) (off := off + es.length * inf.size) (t := t0) l 0 c0 w q4 (by omega) (hcs1.oneCells hcs2)
          have hrun := run_app_in (P := P) (ty := ty) (base := some ⟨b, off, none⟩) hu ht hi hlen (hfc w rfl) hfit (by show (storeCells (Addr.add ⟨b, off, none⟩ _) l).run P w = _; rw [addr_add]; exact p1)
          obtain ⟨cc, tt, f1, f2⟩ := r.fr b l0 q2
          rw [q4] at f1
          cases f1
          have hpre : l0 ++ l <+: c'.toList := by
            have hx : c'.toList.take (l0 ++ l).length = l0 ++ l := by
              apply List.ext_getElem?
              intro j
              rw [List.getElem?_take, Array.getElem?_toList, p3]
              simp only [Nat.add_zero, List.length_append]
              split
              · rename_i hj
                split
                · rename_i hj2
                  rw [List.getElem?_append_right (by omega)]
                  congr 1
                  omega
                · rename_i hj2
                  have hj3 : j < l0.length := by omega
                  rw [List.getElem?_append_left hj3]
                  obtain ⟨uu, huu⟩ := f2
                  rw [← Array.getElem?_toList, ← huu, List.getElem?_append_left hj3]
              · rename_i hj
                rw [List.getElem?_eq_none]
                simp only [List.length_append]
                omega
            rw [← hx]
            exact List.take_prefix _ _
          obtain ⟨g2, g1⟩ := r.grow (e' := k + new.length) htok j1 q2 q4 (by omega) hpre p2
          refine ⟨_, _, _, g1, g2, hrun, ?_⟩
          refine .short ?_ ⟨?_, trivial⟩ (by simp)
          · simp only [vrel]
            refine ⟨some ⟨b, off, none⟩, cap, by simp, by simpa using hfit, .inr ⟨b, off, l0 ++ l, inf.size, rfl, by simp [Ghost.addTk, Ghost.setFr], hall.each, ?_⟩⟩
            have hlo : lo = l0.drop off := by
              cases es with
              | nil =>
                have := hrow.len
                simp at this j3
                subst this
                rw [List.drop_eq_nil_of_le (by omega)]
              | cons y ys =>
                obtain ⟨b2, off2, vals, v1, v2, v3, v4⟩ := hold (by simp)
                cases v1
                rw [q2] at v2
                cases v2
                rw [v3]
                apply List.take_of_length_le
                rw [List.length_drop]
                omega
            rw [List.drop_append_of_le_length (by omega), ← hlo]
            exact rpre_mono g1 _ _ hall.cells
          · intro a1 l1 c1 heq
            cases heq
            refine ⟨b, (l0 ++ l).length, m1, inf.size, off, by simp [Ghost.addTk], rfl, ?_, j4⟩
            rw [List.length_append, e2, Nat.add_mul]
            omega
        · obtain ⟨cap', k1, c, k2, k3, k4⟩ := grown (by omega)
          obtain ⟨G', g1, g2, g3, g4⟩ := move_tok r (e := k + new.length) htok (by omega) (t := e) (w1 := { w with drawn := w.drawn + 1 }) rfl rfl rfl k2 k3
          refine ⟨G', _, _, g1, g2, k4, ?_⟩
          have := slice_tok g3 g4 (rowsrel_mono g1 hall) (cap := cap') (by simpa using k1) rfl
          simpa using this
      · cases h
    · cases h
  · cases h
end Go.CE

namespace Go.CE
variable {P : Program} {W : Frm} {G : Ghost} {s : St} {w : World} {n : Nat} {a : CAct} {A : Act} {o : Oper} {res : OpRes × St} {mt : Bool}

theorem alter_alter {α : Type} : ∀ (l : List (Nat × α)) (i : Nat) (x y : α), alter (alter l i x) i y = alter l i y
  | [], _, _, _ => by simp [alter]
  | (j, u) :: l, i, x, y => by
    simp only [alter]
    split
    · rename_i h
      simp only [alter, h]
    · rename_i h
      simp only [alter, h, alter_alter l i x y]
theorem setBox_setBox (s : St) (i : Nat) (x y : Box) : (s.setBox i x).setBox i y = s.setBox i y := by
  simp [St.setBox, alter_alter]

theorem newArr (r : Rel W G s w) {zn k cap' : Nat} {nc : List (CV × Sh)} {c : Array Value} {t : TypeId} (hc : csrel G nc c.toList) (hm : cap' * zn ≤ c.size) (hk : k ≤ cap') {w1 : World} (hw : w1.heap = w.heap)
    (ho : w1.os = w.os) (hu : w1.output = w.output) :
    ∃ G', G.le G' ∧ Rel W G' (s.push (.arr zn nc)) (put w1 (.cells c t)) ∧ tvrel G' (plain (.bsl s.nb 0 k)) (.slice (some ⟨w.heap.size, 0, none⟩) k cap') := by
  have r1 := r.same_heap hw ho hu
  have r2 := r1.newBox (.arr zn nc) (.cells c t) zn (cap' * zn) rfl ⟨rfl, c, t, rfl, hc, hm⟩
  have hs : w1.heap.size = w.heap.size := by rw [hw]
  rw [hs] at r2
  refine ⟨_, Ghost.le_addBox r.bx_none, r2, plain_rel ?_⟩
  simp only [vrel]
  exact ⟨w.heap.size, zn, cap' * zn, cap', by simp [Ghost.addBox], rfl, hk, by omega⟩

theorem app_mt (r : Rel W G s w) (_hZ : ZeroOk P) {t u ty e : TypeId} {inf : TypeInfo} (hu : notInt (P.underlying u) = true) (ht : P.underlying t = some (.slice e)) (hi : P.info? e = some inf)
    (h1 : 1 ≤ inf.size) (h2 : 1 ≤ inf.bytes) (h3 : zeroFits inf = true) {es new : List (List CV)} {nc : List (CV × Sh)} {vd vx : Value} {sh : Sh} {l : List Value} (hd : vrel G (.slice es) vd) (hsh : shrel G sh vd)
    (hh : okHead inf.size es = true) (hb : (es.length + new.length) * inf.bytes ≤ 70368744177664) (hn : 0 < new.length)
    (hlen : ∀ w' : World, (Builtin.lenOf vx).run P w' = .ok new.length w') (hfc : ∀ w' : World, w'.heap = w.heap → (Builtin.firstCells inf.size new.length vx).run P w' = .ok ⟨l⟩ w')
    (hnew : rowsrel G inf.size new l) (hnc : csrel G nc l) {x : TV} {s' : St} (h : appMt inf.size es nc (es.length + new.length) s sh = some (x, s')) :
    ∃ G' w' v, G.le G' ∧ Rel W G' s' w' ∧ (Builtin.append_ #[t, u] ty #[vd, vx]).run P w = .ok v w' ∧ tvrel G' x v := by
  obtain ⟨z, hz, hzs⟩ := zeroFits_ok h3
  obtain ⟨ad, cap, lo, rfl, hle, hrow, hfo, hold⟩ := old_sim (P := P) r hd hh h1
  unfold appMt at h
  split at h
  · split at h
    · cases h
      have hfull := hsh _ _ _ rfl
      simp only [List.length_nil] at hfull
      obtain ⟨cap', k1, k2⟩ := run_app_grow (P := P) (ty := ty) hu ht hi hz hlen hfo hfc (by simp; omega) hb h2
      have hlo : lo = [] := by have := hrow.len; simpa using this
      subst hlo
      simp only [List.length_nil, Nat.zero_add] at k1 k2
      have hcs : csrel G nc ((⟨[]⟩ : Array Value) ++ (⟨l⟩ : Array Value) ++ Builtin.zeroCells z.cells (cap' - new.length)).toList := by
        refine ⟨pre_app ?_ hnc.1, hrel_app ?_ ?_ hnc.2⟩
        · simp
        · have := hnc.length_le; simpa using this
        · simp
      have hsz : cap' * inf.size ≤ ((⟨[]⟩ : Array Value) ++ (⟨l⟩ : Array Value) ++ Builtin.zeroCells z.cells (cap' - new.length)).size := by
        have e1 := hnew.len
        have e2 : (cap' - new.length) * inf.size = cap' * inf.size - new.length * inf.size := Nat.sub_mul ..
        have e3 : new.length * inf.size ≤ cap' * inf.size := Nat.mul_le_mul_right _ k1
        simp only [Array.size_append, zeroCells_size, hzs, List.size_toArray, List.length_nil]
        omega
      obtain ⟨G', g1, g2, g3⟩ := newArr r (t := e) hcs hsz k1 (w1 := { w with drawn := w.drawn + 1 }) rfl rfl rfl
      exact ⟨G', _, _, g1, by simpa using g2, k2, by simpa using g3⟩
    · cases h
  · cases h

theorem app_box (r : Rel W G s w) (_hZ : ZeroOk P) {t u ty e : TypeId} {inf : TypeInfo} (hu : notInt (P.underlying u) = true) (ht : P.underlying t = some (.slice e)) (hi : P.info? e = some inf)
    (_h1 : 1 ≤ inf.size) (h2 : 1 ≤ inf.bytes) (h3 : zeroFits inf = true) {new : List (List CV)} {nc : List (CV × Sh)} {vd vx : Value} {i len : Nat} {l : List Value} (hd : vrel G (.bsl i 0 len) vd)
    (_hn : 0 < new.length)
    (hlen : ∀ w' : World, (Builtin.lenOf vx).run P w' = .ok new.length w') (hfc : ∀ w' : World, w'.heap = w.heap → (Builtin.firstCells inf.size new.length vx).run P w' = .ok ⟨l⟩ w')
    (hnew : rowsrel G inf.size new l) (hnc : csrel G nc l) (hncl : nc.length = new.length * inf.size) {x : TV} {s' : St} (h : appBox inf.size len inf.bytes i new nc s (s.box i) = some (x, s')) :
    ∃ G' w' v, G.le G' ∧ Rel W G' s' w' ∧ (Builtin.append_ #[t, u] ty #[vd, vx]).run P w = .ok v w' ∧ tvrel G' x v := by
  obtain ⟨z, hz, hzs⟩ := zeroFits_ok h3
  simp only [vrel] at hd
  obtain ⟨b, zz, m, cap, k1, rfl, k2, k3⟩ := hd
  unfold appBox at h
  split at h
  · rename_i z0 cs hb
    split at h
    · rename_i hck
      simp only [Bool.and_eq_true, Nat.beq_eq, Nat.ble_eq] at hck
      obtain ⟨⟨c1, rfl⟩, c3⟩ := hck
      cases h
      obtain ⟨b', z', m', q1, e0, c, tt, q2, q3, q4⟩ := r.box i _ hb
      rw [k1] at q1
      cases q1
      subst e0
      have hcl := q3.length_le
      simp only [Array.length_toList] at hcl
      have e2 := hnew.len
      by_cases hfit : len + new.length ≤ cap
      · have e1 : (len + new.length) * inf.size ≤ cap * inf.size := Nat.mul_le_mul_right _ hfit
        rw [Nat.add_mul] at e1
        obtain ⟨c', p1, p2, p3⟩ := run_storeCells_at (P := P) (g := b) (off := 0 + len * inf.size) (t := tt) l 0 c w q2 (by omega) (hnc.oneCells (by omega))
        have hrun := run_app_in (P := P) (ty := ty) (base := some ⟨b, 0, none⟩) hu ht hi hlen (hfc w rfl) hfit (by show (storeCells (Addr.add ⟨b, 0, none⟩ _) l).run P w = _; rw [addr_add]; exact p1)
        have hcs : csrel G (cs ++ nc) c'.toList := by
          refine csrel_append ?_ ?_
          · rw [csrel_iff] at q3 ⊢
            intro j cc sh hj
            obtain ⟨g1, v', g2, g3⟩ := q3 j cc sh hj
            have hj1 := (List.getElem?_eq_some_iff.1 hj).1
            refine ⟨g1, v', ?_, g3⟩
            rw [Array.getElem?_toList, p3]
            have : ¬ (0 + len * inf.size + 0 ≤ j ∧ j < 0 + len * inf.size + 0 + l.length) := by omega
            simp only [this, if_false]
            simpa using g2
          · rw [csrel_iff] at hnc ⊢
            intro j cc sh hj
            obtain ⟨g1, v', g2, g3⟩ := hnc j cc sh hj
            have hj1 := (List.getElem?_eq_some_iff.1 hj).1
            refine ⟨g1, v', ?_, g3⟩
            rw [List.getElem?_drop, Array.getElem?_toList, p3]
            have : 0 + len * inf.size + 0 ≤ cs.length + j ∧ cs.length + j < 0 + len * inf.size + 0 + l.length := by omega
            simp only [this, and_self, if_true]
            rw [show cs.length + j - (0 + len * inf.size + 0) = j by omega]
            exact g2
        have r1 := r.setBox hb trivial k1 (o := .cells c' tt (0, 0)) rfl (x' := .arr inf.size (cs ++ nc)) ⟨rfl, c', tt, rfl, hcs, by omega⟩ trivial
        have r2 := r1.kill i
        rw [setBox_setBox] at r2
        have hlt := (r.bxlt _ _ _ _ k1)
        have hdead : look (s.setBox i .dead).boxes i = some .dead := by
          have : look s.boxes i = some (.arr inf.size cs) := hb
          simp [St.setBox, look_alter, this]
        have r3 := r2.pushBox (.arr inf.size (cs ++ nc)) b inf.size m (by simpa using hlt.2.1) hlt.2.2 (r.apart _ _ _ _ _ hb trivial k1) (by
          intro j y z' m' hj hy hk
          by_cases hji : j = i
          · subst hji
            rw [hdead] at hj
            cases hj
            exact hy
          · have hj' : look s.boxes j = some y := by
              simp only [St.setBox, look_alter, hji, if_false] at hj
              exact hj
            exact hji (r.inj j i _ _ _ _ _ _ _ hj' hy hb trivial hk k1)) (by
          refine ⟨rfl, c', tt, ?_, hcs, by omega⟩
          simp [hlt.2.1])
        refine ⟨_, _, _, Ghost.le_addBox r2.bx_none, r3, hrun, plain_rel ?_⟩
        simp only [vrel]
        refine ⟨b, inf.size, m, cap, ?_, rfl, hfit, by omega⟩
        show (if s.nb = s.nb then some (b, inf.size, m) else G.bx s.nb) = _
        simp
      · have htl : (c.toList.take (len * inf.size)).length = len * inf.size := by
          rw [List.length_take, Array.length_toList]; omega
        have hfo := first_slice (P := P) (off := 0) (len := len) (cap := cap) (l := c.toList.take (len * inf.size)) q2 (by rw [List.drop_zero]; exact List.take_prefix _ _) htl
        obtain ⟨cap', g1, g2⟩ := run_app_grow (P := P) (ty := ty) hu ht hi hz hlen hfo hfc (by omega) c3 h2
        have hcs : csrel G (cs ++ nc) ((⟨c.toList.take (len * inf.size)⟩ : Array Value) ++ (⟨l⟩ : Array Value) ++ Builtin.zeroCells z.cells (cap' - (len + new.length))).toList := by
          refine csrel_append ?_ ?_
          · rw [csrel_iff] at q3 ⊢
            intro j cc sh hj
            obtain ⟨f1, v', f2, f3⟩ := q3 j cc sh hj
            have hj1 := (List.getElem?_eq_some_iff.1 hj).1
            refine ⟨f1, v', ?_, f3⟩
            simp only [Array.toList_append, List.append_assoc]
            rw [List.getElem?_append_left (by omega), List.getElem?_take]
            have : j < len * inf.size := by omega
            simp only [this, if_true]
            exact f2
          · rw [csrel_iff] at hnc ⊢
            intro j cc sh hj
            obtain ⟨f1, v', f2, f3⟩ := hnc j cc sh hj
            have hj1 := (List.getElem?_eq_some_iff.1 hj).1
            refine ⟨f1, v', ?_, f3⟩
            rw [List.getElem?_drop]
            simp only [Array.toList_append, List.append_assoc]
            rw [List.getElem?_append_right (by omega), List.getElem?_append_left (by omega)]
            rw [show cs.length + j - (c.toList.take (len * inf.size)).length = j by omega]
            exact f2
        have hsz : cap' * inf.size ≤ ((⟨c.toList.take (len * inf.size)⟩ : Array Value) ++ (⟨l⟩ : Array Value) ++ Builtin.zeroCells z.cells (cap' - (len + new.length))).size := by
          have e3 : (cap' - (len + new.length)) * inf.size = cap' * inf.size - (len + new.length) * inf.size := Nat.sub_mul ..
          have e4 : (len + new.length) * inf.size ≤ cap' * inf.size := Nat.mul_le_mul_right _ g1
          have e5 : (len + new.length) * inf.size = len * inf.size + new.length * inf.size := Nat.add_mul ..
          simp only [Array.size_append, zeroCells_size, hzs, List.size_toArray]
          omega
        obtain ⟨G', f1, f2, f3⟩ := newArr (r.kill i) (t := e) hcs hsz g1 (w1 := { w with drawn := w.drawn + 1 }) rfl rfl rfl
        exact ⟨G', _, _, f1, f2, g2, f3⟩
    · cases h
  · cases h

theorem sim_append (r : Rel W G s w) (hZ : ZeroOk P) {xs : List TV} {vs : List Value} (hx : tvrels G xs vs) {tys : Array TypeId} {ty : TypeId} {consts : Array Bool}
    (h : builtinC P mt .append tys xs s = some res) : Ans W G ((builtin .append tys ty consts ⟨vs⟩).run P w) res := by
  match xs, hx with
  | [], _ => simp [builtinC] at h
  | [x], _ => simp [builtinC] at h
  | x :: y :: _ :: _, _ => simp [builtinC] at h
  | [d, x], ⟨vd, _, hvs, hd, vx, _, hus, hxx, hn⟩ =>
    subst hvs; subst hus; subst hn
    simp only [builtinC] at h
    split at h
    · rename_i t u
      cases hr : appendT P mt t u d x s with
      | none => rw [hr] at h; simp [appEnd] at h
      | some q =>
      obtain ⟨y, s'⟩ := q
      rw [hr] at h
      simp only [appEnd, Option.some.injEq] at h
      subst h
      suffices hs : ∃ G' w' v, G.le G' ∧ Rel W G' s' w' ∧ (Builtin.append_ #[t, u] ty #[vd, vx]).run P w = .ok v w' ∧ tvrel G' y v by
        obtain ⟨G', w', v, k1, k2, k3, k4⟩ := hs
        exact ⟨G', w', v, k1, k2, by simp [builtin, k3], k4⟩
      unfold appendT at hr
      split at hr
      · rename_i hu
        unfold appendC at hr
        split at hr
        · rename_i e ht
          unfold appElem at hr
          split at hr
          · rename_i inf hi
            split at hr
            · rename_i hck
              simp only [Bool.and_eq_true, Nat.ble_eq] at hck
              obtain ⟨⟨h1, h2⟩, h3⟩ := hck
              unfold appNew at hr
              split at hr
              · rename_i nc0 hsrc
                obtain ⟨l, q1, q2, q3, q4, q5⟩ := src_sim (P := P) r h1 hxx hsrc rfl
                have hl : l = [] := by have := q3.len; simpa using this
                subst hl
                have key : ∀ ad n cap, vd = .slice ad n cap → n ≤ cap → (Builtin.append_ #[t, u] ty #[vd, vx]).run P w = .ok vd w := by
                  intro ad n cap hv hle
                  subst hv
                  have := run_app_in (P := P) (w := w) (w' := w) (ty := ty) (base := ad) (sLen := n) (sCap := cap) (k := 0) hu ht hi q1 (q2 w rfl) (by omega) (by cases ad <;> rfl)
                  simpa using this
                have hdv := hd.rv
                split at hr
                · rename_i rows hcv
                  cases hr
                  rw [hcv] at hdv
                  simp only [vrel] at hdv
                  obtain ⟨ad, cap, hv, hle, _⟩ := hdv
                  exact ⟨G, w, vd, G.le_refl, r, key _ _ _ hv hle, hd⟩
                · rename_i i off len hcv
                  cases hr
                  rw [hcv] at hdv
                  simp only [vrel] at hdv
                  obtain ⟨b, z, m, cap, _, hv, hle, _⟩ := hdv
                  exact ⟨G, w, vd, G.le_refl, r, key _ _ _ hv hle, hd⟩
                · cases hr
              · rename_i r0 new nc hsrc
                split at hr
                · rename_i hok
                  obtain ⟨l, q1, q2, q3, q4, q5⟩ := src_sim (P := P) r h1 hxx hsrc hok
                  have hdv := hd.rv
                  unfold appTo at hr
                  split at hr
                  · rename_i i len hcv
                    rw [hcv] at hdv
                    exact app_box r hZ hu ht hi h1 h2 h3 hdv (by simp) q1 q2 q3 q4 q5 hr
                  · rename_i es hcv
                    rw [hcv] at hdv
                    have hsh : shrel G (shAt d.sh 0) vd := by
                      have hv2 := hdv
                      simp only [vrel] at hv2
                      obtain ⟨ad, cap, hv, _⟩ := hv2
                      exact shAt_rel (v := vd) hd.rs (by rw [hv]; rfl)
                    split at hr
                    · rename_i hck2
                      simp only [Bool.and_eq_true, Nat.ble_eq] at hck2
                      split at hr
                      · exact app_mt r hZ hu ht hi h1 h2 h3 hdv hsh hck2.2 hck2.1 (by simp) q1 q2 q3 q4 hr
                      · exact app_own r hZ hu ht hi h1 h2 h3 hdv hsh hck2.2 hck2.1 (by simp) q1 q2 q3 hr
                    · cases hr
                  · cases hr
                · cases hr
              · cases hr
            · cases hr
          · cases hr
        · cases hr
      · cases hr
    · cases h
end Go.CE

namespace Go.CE
variable {P : Program} {W : Frm} {G : Ghost} {s : St} {w : World} {n : Nat} {a : CAct} {A : Act} {o : Oper} {res : OpRes × St} {mt : Bool}

theorem repCells_get {cs : List (CV × Sh)} {z : Nat} (hz : cs.length = z) (hz1 : 1 ≤ z) : ∀ {k j : Nat} {x : CV × Sh}, (repCells cs k)[j]? = some x → cs[j % z]? = some x ∧ j < k * z
  | 0, j, x, h => by simp [repCells] at h
  | k + 1, j, x, h => by
    simp only [repCells] at h
    rcases Nat.lt_or_ge j cs.length with q | q
    · rw [List.getElem?_append_left q] at h
      rw [Nat.mod_eq_of_lt (by omega)]
      refine ⟨h, ?_⟩
      rw [Nat.add_mul, Nat.one_mul]
      omega
    · rw [List.getElem?_append_right q] at h
      obtain ⟨h1, h2⟩ := repCells_get hz hz1 h
      rw [hz] at h1 h2 q
      refine ⟨?_, by rw [Nat.add_mul, Nat.one_mul]; omega⟩
      rwa [← Nat.mod_eq_sub_mod q] at h1
theorem rep_cells {cs : List (CV × Sh)} {v : Array Value} {z k c : Nat} (hz : cs.length = z) (hz1 : 1 ≤ z) (hv : v.size = z) (hc : csrel G cs v.toList) (hk : k ≤ c) :
    csrel G (repCells cs k) ((Array.range (c * z)).map (v[· % v.size]!)).toList := by
  rw [csrel_iff] at hc ⊢
  intro j cc sh hj
  obtain ⟨h1, h2⟩ := repCells_get hz hz1 hj
  obtain ⟨g1, u, g2, g3⟩ := hc _ _ _ h1
  refine ⟨g1, u, ?_, g3⟩
  have hlt : j < c * z := by
    have : k * z ≤ c * z := Nat.mul_le_mul_right z hk
    omega
  rw [Array.getElem?_toList] at g2 ⊢
  simp only [Array.getElem?_map, Array.getElem?_range, hlt, if_true, Option.map_some, hv]
  rw [getElem!_def, g2]

theorem wrap_i64 {m : Nat} (h : m ≤ 1000000) : IntKind.i64.wrap (.ofNat m) = .ofNat m := by
  simp only [IntKind.wrap, IntKind.bits, IntKind.signed]
  simp
  omega

theorem sim_makeSlice (r : Rel W G s w) (ha : arel G n a A) {t : TypeId} {x y : Operand} (ho : o.op = .makeSlice t x y) (h : exMakeSlice P a s t x y = some res) :
    Ans W G ((execOp A.eval o).run P w) res := by
  obtain ⟨vx, vy, hx, hy, h⟩ := eval2_some h
  have h1 := (ha.eval hx).rv
  have h2 := (ha.eval hy).rv
  unfold mkSliceT at h
  split at h
  · rename_i e ht
    split at h
    · rename_i k nn k' cc hxv hyv
      rw [hxv] at h1
      rw [hyv] at h2
      simp only [vrel] at h1 h2
      unfold mkSlice at h
      split at h
      · rename_i inf cs hi hz
        split at h
        · rename_i l c
          split at h
          · rename_i hck
            simp only [Bool.and_eq_true, Nat.beq_eq, Nat.ble_eq] at hck
            obtain ⟨⟨⟨⟨c1, c2⟩, c3⟩, c4⟩, c5⟩ := hck
            unfold zeroCells? at hz
            split at hz
            · rename_i z hzc
              obtain ⟨i', v, hi', hv, hc⟩ := zeroC_some hzc
              rw [hi] at hi'
              cases hi'
              obtain ⟨k1, k2⟩ := (ofConst_rel (G := G) hc).cells hz
              have hl := wrap_i64 (m := l) (by omega)
              have hcw := wrap_i64 (m := c) (by omega)
              have hbytes : inf.bytes * c ≤ 1000000 * 1000000 := Nat.mul_le_mul c3 c2
              have hrun : (execOp A.eval o).run P w = .ok (.value (.slice (some ⟨w.heap.size, 0, none⟩) l c)) (put w (.cells ((Array.range (c * inf.size)).map (v.cells[· % v.cells.size]!)) e)) := by
                have e1 : ¬ ((inf.bytes : Int) * Int.ofNat c > 2 ^ 48) := by
                  show ¬ ((inf.bytes : Int) * (c : Int) > 2 ^ 48)
                  rw [← Int.natCast_mul]
                  generalize inf.bytes * c = q at hbytes ⊢
                  omega
                have e3 : ¬ ((Int.ofNat c : Int) < 0) := by simp
                have e4 : ¬ ((Int.ofNat l : Int) < 0) := by simp
                have e5 : ¬ ((Int.ofNat l : Int) > Int.ofNat c) := by simp; omega
                have tn : ∀ m : Nat, (Int.ofNat m).toNat = m := fun _ => rfl
                by_cases h0 : c * inf.size = 0
                · simp only [execOp, ho, Instr.makeSlice, Sem.run_bind, run_und ht, Result.andThen_ok, h1, h2, asInt, asIntOf, Sem.run_pure, run_info hi, hl, hcw,
                    e3, e4, e5, e1, decide_false, Bool.or_self, Bool.false_eq_true, if_false, if_true, run_askRoom, run_size hi, tn,
                    h0, Sem.run_ite, newRow, run_newObj, put]
                  try simp [show Array.range 0 = #[] from rfl]
                · simp only [execOp, ho, Instr.makeSlice, Sem.run_bind, run_und ht, Result.andThen_ok, h1, h2, asInt, asIntOf, Sem.run_pure, run_info hi, hl, hcw,
                    e3, e4, e5, e1, decide_false, Bool.or_self, Bool.false_eq_true, if_false, run_askRoom, run_size hi, tn,
                    h0, Sem.run_ite, run_zero hi hv, newRow, run_newObj, put]
                  try simp [h0, show Array.range 0 = #[] from rfl]
              have hvs : v.cells.size = inf.size := by omega
              unfold mkSliceN at h
              split at h
              · cases h
                obtain ⟨G', g1, g2, g3, g4⟩ := fresh_tok r (zn := inf.size) (e := 0) (t := e) (w1 := w) (L := []) (m := c * inf.size) (rest := (Array.range (c * inf.size)).map (v.cells[· % v.cells.size]!)) rfl rfl rfl
                  (c := (Array.range (c * inf.size)).map (v.cells[· % v.cells.size]!)) (by simp) (by simp)
                refine ⟨G', _, _, g1, g2, hrun, ?_⟩
                exact slice_tok (rows := []) g3 g4 ⟨by simp, by simp [rpre], by simp⟩ (by simp) rfl
              · rename_i l'
                cases h
                obtain ⟨G', g1, g2, g3⟩ := newArr r (zn := inf.size) (k := l' + 1) (cap' := c) (nc := repCells cs (l' + 1)) (t := e) (c := (Array.range (c * inf.size)).map (v.cells[· % v.cells.size]!))
                  (rep_cells c4 c5 hvs k1 c1) (by simp) c1 (w1 := w) rfl rfl rfl
                exact ⟨G', _, _, g1, g2, hrun, g3⟩
            · cases hz
          · cases h
        · cases h
      · cases h
    · cases h
  · cases h

theorem allBytes_some : ∀ {rows : List (List CV)} {b : List UInt8}, allBytes rows = some b → ∃ ns : List Int, rows = ns.map (fun n => [CV.int .u8 n]) ∧ b = ns.map (fun n => UInt8.ofNat n.toNat)
  | [], b, h => by simp [allBytes] at h; exact ⟨[], by simp [h]⟩
  | r :: rows, b, h => by
    unfold allBytes at h
    split at h
    · rename_i e; cases e
    · rename_i n0 rest he
      cases he
      split at h
      · rename_i l hl
        cases h
        obtain ⟨ns, h1, h2⟩ := allBytes_some hl
        exact ⟨n0 :: ns, by simp [h1], by simp [h2]⟩
      · cases h
    · cases h
theorem foldl_push : ∀ (ns : List Int) (acc : List UInt8), (ns.foldl (fun r n => r.push (UInt8.ofNat n.toNat)) (⟨⟨acc⟩⟩ : ByteArray)) = ⟨⟨acc ++ ns.map (fun n => UInt8.ofNat n.toNat)⟩⟩
  | [], acc => by simp
  | n :: ns, acc => by
    simp only [List.foldl_cons, List.map_cons]
    have : (⟨⟨acc⟩⟩ : ByteArray).push (UInt8.ofNat n.toNat) = ⟨⟨acc ++ [UInt8.ofNat n.toNat]⟩⟩ := by simp [ByteArray.push]
    rw [this, foldl_push ns]
    simp

theorem bytes_cells : ∀ (ns : List Int) (l : List Value), rpre G (ns.map fun n => [CV.int .u8 n]) l → l.length = ns.length → l = ns.map (Value.int .u8)
  | [], l, _, h => by simpa using h
  | n :: ns, l, h, hl => by
    simp only [List.map_cons, rpre, List.length_singleton, pre, vrel, and_true] at h
    obtain ⟨⟨_, v, r, rfl, rfl⟩, h2⟩ := h
    have := bytes_cells ns r (by simpa using h2) (by simpa using hl)
    simp [this]
theorem sim_conv (r : Rel W G s w) (ha : arel G n a A) {src dst : TypeId} {x : Operand} (ho : o.op = .convert src dst x) (h : exConv P a s src dst x = some res) :
    Ans W G ((execOp A.eval o).run P w) res := by
  obtain ⟨v, hv, h⟩ := eval1_some h
  obtain ⟨c, hc, rfl⟩ := cvR_some h
  have h1 := (ha.eval hv).rv
  have hexec : (execOp A.eval o).run P w = ((convert src dst (A.eval x)).run P w).andThen fun v w' => .ok (.value v) w' := by
    simp [execOp, ho]
  suffices hs : ∃ z, (convert src dst (A.eval x)).run P w = .ok z w ∧ vrel G c z by
    obtain ⟨z, e1, e2⟩ := hs
    exact Ans.val r (v := z) (by rw [hexec, e1]; rfl) (plain_rel e2)
  unfold convC at hc
  split at hc
  · rename_i u d hu hd
    split at hc
    · rename_i k k' m hcv
      rw [hcv] at h1
      simp only [vrel] at h1
      cases hc
      refine ⟨.int k (k.wrap m), ?_, by simp [vrel, wrapF_eq]⟩
      rw [h1]
      obtain ⟨u', hu'⟩ : ∃ u', P.underlying src = some u' := ⟨_, hu⟩
      cases u' <;> simp [convert, run_und hu', run_und hd, Conv.intToInt]
    · rename_i b hcv
      rw [hcv] at h1
      simp only [vrel] at h1
      cases hc
      refine ⟨.string ⟨⟨b⟩⟩, ?_, by simp [vrel]⟩
      rw [h1]
      obtain ⟨u', hu'⟩ : ∃ u', P.underlying src = some u' := ⟨_, hu⟩
      cases u' <;> simp [convert, run_und hu', run_und hd]
    · rename_i e es hcv
      rw [hcv] at h1
      split at hc
      · rename_i he
        split at hc
        · rename_i b hb
          cases hc
          obtain ⟨ns, e1, e2⟩ := allBytes_some hb
          have hhead : okHead 1 es = true := by subst e1; cases ns <;> rfl
          obtain ⟨ad, cap, l, hval, hle, hrow, hfo, hold⟩ := old_sim (P := P) r h1 hhead (Nat.le_refl 1)
          rw [hval]
          rw [run_convert_bytes_string w src dst e ad _ cap hu he hd]
          have hl : l = ns.map (Value.int .u8) := by
            have hlen := hrow.len
            have hcells := hrow.cells
            rw [e1] at hlen hcells
            exact bytes_cells ns l hcells (by simpa using hlen)
          refine ⟨.string ⟨⟨b⟩⟩, ?_, by simp [vrel]⟩
          cases ad with
          | none =>
            have : es = [] := by
              cases es with
              | nil => rfl
              | cons y ys => obtain ⟨b0, off, vals, q, _⟩ := hold (by simp); cases q
            have hns : ns = [] := by rw [this] at e1; simpa using e1.symm
            subst hns
            subst e2
            simp [Conv.bytesToString]
            rfl
          | some ad =>
            have hf := hfo w rfl
            rw [hval] at hf
            simp only [Builtin.firstCells, Nat.mul_one] at hf
            have := run_bytesToString (P := P) w ad es.length cap ns (by rw [hf, hl])
            rw [this]
            have := foldl_push ns []
            simp only [List.nil_append] at this
            have hem : ByteArray.empty = (⟨⟨[]⟩⟩ : ByteArray) := rfl
            rw [hem, this, e2]
        · cases hc
      · cases hc
    · cases hc
  · cases hc
end Go.CE

namespace Go.CE
variable {P : Program} {W : Frm} {G : Ghost} {s : St} {w : World} {n : Nat} {a : CAct} {A : Act} {o : Oper} {res : OpRes × St} {mt : Bool}

def opOf : CRes → OpRes
  | .ret x => .val x
  | .panic c => .panic c
/-- how a call ends -/
def EndOk (W : Frm) (G : Ghost) (cr : CRes) (s' : St) : Ending → World → Prop
  | .returned v, w' => ∃ G', G.le G' ∧ Rel W G' s' w' ∧ ∃ x, cr = .ret x ∧ tvrel G' x v
  | .panicked chain, w' => ∃ G', G.le G' ∧ Rel W G' s' w' ∧ ∃ c v, cr = .panic c ∧ chain = [{ v, recovered := false }] ∧ vrel G' c v
  | .outgrown, _ => False
/-- what a call comes to: at once, or a function entered -/
def InvOk (P : Program) (W : Frm) (G : Ghost) (cr : CRes) (s' : St) (res : Result Next) : Prop :=
  (∃ x, cr = .ret x ∧ Ans W G res (.val x, s')) ∨ ∃ g args w, res = .ok (.enter g args) w ∧ Calls P g args w (EndOk W G cr s')
def CallOk (P : Program) (W : Frm) (call : CallF) : Prop :=
  ∀ g targs s cr s', call g targs s = some (cr, s') → ∀ G w (vargs : Array Value), Rel W G s w → tvrels G targs vargs.toList → InvOk P W G cr s' ((callFunc g vargs).run P w)

def OpOk (P : Program) (W : Frm) (G : Ghost) (res : OpRes × St) (r : Result Next) : Prop :=
  Ans W G r res ∨ ∃ cr s', res = (opOf cr, s') ∧ InvOk P W G cr s' r

theorem exec_sim {call : CallF} (hZ : ZeroOk P) (hcall : CallOk P W call) (r : Rel W G s w) (ha : arel G n a A) (h : execC P mt call a s o.op = some res) :
    OpOk P W G res ((execOp A.eval o).run P w) := by
  cases hop : o.op <;> rw [hop] at h <;> simp only [execC] at h <;> (try (cases h; done))
  case move x => exact .inl (sim_move r ha (.inl hop) h)
  case assign x => exact .inl (sim_move r ha (.inr hop) h)
  case pick b x y => exact .inl (sim_pick r ha hop h)
  case alloc e => exact .inl (sim_alloc r hop h)
  case box e x => exact .inl (sim_box r ha hop h)
  case build t parts => exact .inl (sim_build r ha hop h)
  case buildSlice t len parts => exact .inl (sim_buildSlice r ha hop h)
  case load t p => exact .inl (sim_load r ha hop h)
  case store t p x => exact .inl (sim_store r ha hop h)
  case nilCheck x => exact .inl (sim_nil r ha hop h)
  case binOp op t x y yt => exact .inl (sim_bin r ha hop h)
  case unOp op t x => exact .inl (sim_un r ha hop h)
  case convert src dst x => exact .inl (sim_conv r ha hop h)
  case makeInterface t x => exact .inl (sim_iface r ha hop h)
  case makeFunc f first cap => exact .inl (sim_func r ha hop h)
  case makeMap t x => exact .inl (sim_makeMap r hop h)
  case makeSlice t x y => exact .inl (sim_makeSlice r ha hop h)
  case slice t x lo hi mx => exact .inl (sim_slice r ha hop h)
  case fieldAddr t x f => exact .inl (sim_fieldAddr r ha hop h)
  case field t x f => exact .inl (sim_field r ha hop h)
  case indexAddr t x i => exact .inl (sim_indexAddr r ha hop h)
  case index t x i => exact .inl (sim_index r ha hop h)
  case lookup t m k ok => exact .inl (sim_lookup r ha hop h)
  case mapUpdate t m k x => exact .inl (sim_update r ha hop h)
  case extract t i => exact .inl (sim_extract r ha hop h)
  case typeAssert x xt t ok => exact .inl (sim_assert r ha hop h)
  case panic x => exact .inl (sim_panic r ha hop h)
  case defer c => exact .inl (sim_defer r ha hop h)
  case call c =>
    unfold exCall at h
    split at h
    · rename_i f hf
      obtain ⟨l, hl, h⟩ := evalL_some h
      obtain ⟨fv, hfv, h⟩ := eval1_some h
      unfold callR at h
      split at h
      · rename_i g args hg
        obtain ⟨cap, h1, h2⟩ := calleeC_rel (ha.eval hfv).rv (ha.evals hl) hg
        have hrun : (execOp A.eval o).run P w = (callFunc g ⟨c.args.toList.map A.eval ++ cap⟩).run P w := by
          have := arr_map c.args A.eval
          simp [execOp, hop, resolve, hf, Deferred.ofValue, h1, this, invoke]
        rw [hrun]
        cases hc : call g args s with
        | none => rw [hc] at h; simp [callRes] at h
        | some q =>
          obtain ⟨cr, s'⟩ := q
          rw [hc] at h
          refine .inr ⟨cr, s', ?_, hcall _ _ _ _ _ hc _ _ _ r h2⟩
          cases cr <;> (simp [callRes] at h; rw [← h]; rfl)
      · cases h
    · rename_i b hb
      obtain ⟨l, hl, h⟩ := evalL_some h
      obtain ⟨consts, hrun⟩ := sim_builtin_run (P := P) (w := w) (A := A) hop hb
      rw [hrun]
      have hx := ha.evals hl
      left
      cases b <;> (try (simp [builtinC] at h; done))
      · exact sim_append r hZ hx h
      · exact sim_len r hx h
      · exact sim_max r hx h
      · exact sim_min r hx h
    · cases h

/-! operations, one behind the other -/
theorem wanted_sim (ha : arel G n a A) {ops : List Oper} {g : Option (Nat × Bool)} {b : Bool} (ho : o.guard = g) (h : wantedC ops a.slots g = some b) :
    Region.wanted o (yielded ⟨ops⟩ A.tmps) = b := by
  unfold Region.wanted
  rw [ho]
  unfold wantedC at h
  split at h
  · cases h; rfl
  · rename_i j c
    rw [nthO_eq] at h
    have hy : yielded ⟨ops⟩ A.tmps j = (match (ops[j]?).bind (·.dst) with | some t => (match A.tmps[t]? with | some (.bool b) => some b | _ => none) | none => none) := by
      unfold yielded
      simp only [List.getElem?_toArray]
      cases (ops[j]?).bind (·.dst) with
      | none => rfl
      | some t => rfl
    simp only []
    rw [hy]
    split at h
    · rename_i o' ho'
      rw [ho']
      simp only [Option.bind_some]
      split at h
      · rename_i t ht
        rw [ht]
        simp only
        have hr := (ha.slot t).rv
        have hget : ∀ v, A.tmps[t]? = some v → A.tmps.getD t undef = v := fun v hv => by simp [Array.getD_eq_getD_getElem?, hv]
        unfold wantedV at h
        split at h
        · rename_i d hd
          rw [hd] at hr
          simp only [vrel] at hr
          have hlt : A.tmps[t]? = some (.bool d) := by
            cases hq : A.tmps[t]? with
            | none => simp [Array.getD_eq_getD_getElem?, hq, undef] at hr
            | some v => rw [hget v hq] at hr; rw [hr]
          rw [hlt]
          cases h
          cases c <;> cases d <;> rfl
        · cases h
        · rename_i hnb hnu
          cases h
          cases hq : A.tmps[t]? with
          | none => rfl
          | some v =>
            rw [hget v hq] at hr
            cases v with
            | bool d =>
              exfalso
              cases hc : (a.slots.get t).v <;> rw [hc] at hr <;> simp only [vrel] at hr
              all_goals first
                | (cases hr; done)
                | (exact hnb _ hc)
                | (exact hnu hc)
                | (obtain ⟨_, hr⟩ := hr; cases hr; done)
                | (obtain ⟨_, hr, _⟩ := hr; cases hr; done)
                | (obtain ⟨_, _, hr, _⟩ := hr; cases hr; done)
                | (obtain ⟨_, _, _, _, hr⟩ := hr; cases hr; done)
                | (obtain ⟨_, _, _, _, hr, _⟩ := hr; cases hr; done)
                | (obtain ⟨_, _, _, _, _, hr, _⟩ := hr; cases hr; done)
            | _ => rfl
      · rename_i ht
        rw [ht]
        cases h
        rfl
    · rename_i ho'
      rw [ho']
      cases h
      rfl

def ExOk (G : Ghost) : CExit → Exit → Prop
  | .normal, .normal => True
  | .exit i, .exit j => i = j
  | .goto l, .goto m => l = m
  | .ret, .ret => True
  | .panic c, .panic chain => ∃ v, chain = [{ v, recovered := false }] ∧ vrel G c v
  | _, _ => False
/-- what a piece of code comes to -/
def CPost (W : Frm) (G : Ghost) (n : Nat) (r : CExit × CAct × St) (e : Exit) (A : Act) (w : World) : Prop :=
  ∃ G', G.le G' ∧ Rel W G' r.2.2 w ∧ arel G' n r.2.1 A ∧ ExOk G' r.1 e

theorem CPost.le {G G' : Ghost} {r : CExit × CAct × St} {e : Exit} {A : Act} {w : World} (h : CPost W G' n r e A w) (le : G.le G') : CPost W G n r e A w := by
  obtain ⟨G2, h1, h2⟩ := h
  exact ⟨G2, Ghost.le_trans le h1, h2⟩
theorem upon_mono {next next' : Act → World → Prop} {Q Q' : Exit → Act → World → Prop} (hn : ∀ a w, next a w → next' a w) (hq : ∀ e a w, Q e a w → Q' e a w) {res : Result Next}
    (h : o.upon P A next Q res) : o.upon P A next' Q' res := by
  cases res with
  | ok x w' =>
    cases x <;> simp only [Oper.upon] at h ⊢ <;> first
      | exact hn _ _ h
      | (refine Calls.mono h ?_
         intro e w2 he
         cases e with
         | returned v => exact hn _ _ he
         | panicked c => exact hq _ _ _ he
         | outgrown => obtain ⟨a0, w0, h0⟩ := he; exact ⟨a0, w0, hq _ _ _ h0⟩)
      | exact Rows.mono h (fun _ _ he => hn _ _ he)
      | exact h
  | halt x w' => cases x <;> simp only [Oper.upon] at h ⊢ <;> first | exact hq _ _ _ h | exact h
theorem wpOps_mono {ops : Array Oper} {Q Q' : Exit → Act → World → Prop} (hq : ∀ e a w, Q e a w → Q' e a w) : ∀ (l : List Nat) (A : Act) (w : World), wpOps P ops Q l A w → wpOps P ops Q' l A w
  | [], _, _, h => hq _ _ _ h
  | i :: l, A, w, h => by
    simp only [wpOps] at h ⊢
    split at h
    · exact wpOps_mono hq l _ _ h
    · split at h
      · rename_i hw
        simp only [hw, if_true]
        refine h.imp (fun h => upon_mono (fun a w h => wpOps_mono hq l a w h) hq h) (fun ⟨h1, a0, w0, h2⟩ => ⟨h1, a0, w0, hq _ _ _ h2⟩)
      · rename_i hw
        simp only [hw]
        exact wpOps_mono hq l _ _ h

/-- one operation that is run -/
theorem step_sim {call : CallF} (hZ : ZeroOk P) (hcall : CallOk P W call) (r : Rel W G s w) (ha : arel G n a A) {ops : List Oper} (hd : ∀ d, o.dst = some d → d < n)
    {next : Act → World → Prop} {Q : Exit → Act → World → Prop}
    (hon : ∀ a' s', stepOp P mt call ops o a s = .on a' s' → ∀ G' A' w', G.le G' → Rel W G' s' w' → arel G' n a' A' → next A' w')
    (hpan : ∀ c s', stepOp P mt call ops o a s = .panic c s' → ∀ G' w' v, G.le G' → Rel W G' s' w' → vrel G' c v → Q (.panic [{ v, recovered := false }]) A w')
    (hst : stepOp P mt call ops o a s ≠ .stuck) :
    if Region.wanted o (yielded ⟨ops⟩ A.tmps) then o.wp P A w next Q else next (A.put o.dst undef) w := by
  unfold stepOp at hon hpan hst
  split at hon
  · rename_i hw
    have hwn := wanted_sim (o := o) ha rfl hw
    rw [hwn, if_pos rfl]
    simp only [hw] at hpan hst
    cases hex : execC P mt call a s o.op with
    | none => rw [hex] at hst; exact absurd rfl hst
    | some res =>
      rw [hex] at hon hpan
      have hs := exec_sim hZ hcall r ha hex
      unfold Oper.wp
      rcases hs with hs | ⟨cr, s', rfl, hs⟩
      · obtain ⟨x, s'⟩ := res
        cases x with
        | val x =>
          obtain ⟨G', w', v, h1, h2, h3, h4⟩ := hs
          rw [h3]
          exact hon _ _ rfl G' _ w' h1 h2 ((ha.mono h1).put hd h4)
        | skip =>
          obtain ⟨G', w', h1, h2, h3⟩ := hs
          rw [h3]
          exact hon _ _ rfl G' _ w' h1 h2 ((ha.mono h1).put hd undef_rel)
        | panic c =>
          obtain ⟨G', w', v, h1, h2, h3, h4⟩ := hs
          rw [h3]
          exact hpan _ _ rfl G' w' v h1 h2 h4
        | defer f xs =>
          obtain ⟨G', w', d, h1, h2, h3, h4⟩ := hs
          rw [h3]
          have ha' : arel G' n { a with defers := (f, xs) :: a.defers } { A with defers := d :: A.defers } :=
            ⟨ha.size, fun t => (ha.slot t).mono h1, d, A.defers, rfl, h4, dsrel_mono h1 ha.defers⟩
          exact hon _ _ rfl G' _ w' h1 h2 (ha'.put hd undef_rel)
      · rcases hs with ⟨x, rfl, hs⟩ | ⟨g, args, w1, h1, hs⟩
        · obtain ⟨G', w', v, h1, h2, h3, h4⟩ := hs
          rw [h3]
          exact hon _ _ rfl G' _ w' h1 h2 ((ha.mono h1).put hd h4)
        · rw [h1]
          refine Calls.mono hs ?_
          intro e w' he
          cases e with
          | returned v =>
            obtain ⟨G', h1, h2, x, rfl, h3⟩ := he
            exact hon _ _ rfl G' _ w' h1 h2 ((ha.mono h1).put hd h3)
          | panicked chain =>
            obtain ⟨G', h1, h2, c, v, rfl, rfl, h3⟩ := he
            exact hpan _ _ rfl G' w' v h1 h2 h3
          | outgrown => exact he.elim
  · rename_i hw
    have hwn := wanted_sim (o := o) ha rfl hw
    rw [hwn]
    simp only [Bool.false_eq_true, if_false]
    exact hon _ _ rfl G _ w G.le_refl r (ha.put hd undef_rel)
  · rename_i hw
    simp only [hw] at hst
    exact absurd rfl hst

theorem ops_sim {call : CallF} (hZ : ZeroOk P) (hcall : CallOk P W call) {ops : List Oper} (hfit : ∀ o ∈ ops, ∀ d, o.dst = some d → d < n) :
    ∀ (rest : List Oper) (i : Nat) (G : Ghost) (s : St) (w : World) (a : CAct) (A : Act) (r : CExit × CAct × St), rest = ops.drop i → Rel W G s w → arel G n a A → runOps P mt call ops rest a s = some r →
      wpOps P ⟨ops⟩ (CPost W G n r) (List.range' i rest.length) A w
  | [], i, G, s, w, a, A, r, _, hr, ha, h => by
    simp only [runOps, Option.some.injEq] at h
    subst h
    exact ⟨G, G.le_refl, hr, ha, trivial⟩
  | o :: rest, i, G, s, w, a, A, r, hrest, hr, ha, h => by
    simp only [runOps] at h
    have hi : ops[i]? = some o := by
      have : (ops.drop i)[0]? = some o := by rw [← hrest]; rfl
      simpa using this
    have hrest' : rest = ops.drop (i + 1) := by
      rw [← List.tail_drop, ← hrest]
      rfl
    have ho : o ∈ ops := List.mem_of_getElem? hi
    simp only [List.length_cons, List.range'_succ]
    rw [wpOps]
    simp only [List.getElem?_toArray, hi]
    have key := step_sim (mt := mt) hZ hcall hr ha (o := o) (ops := ops) (hfit o ho)
      (next := wpOps P ⟨ops⟩ (CPost W G n r) (List.range' (i + 1) rest.length)) (Q := CPost W G n r) ?_ ?_ ?_
    · split
      · rename_i hw
        rw [if_pos hw] at key
        exact .inl key
      · rename_i hw
        rw [if_neg hw] at key
        exact key
    · intro a' s' hs G' A' w' h1 h2 h3
      rw [hs] at h
      have ih := ops_sim hZ hcall hfit rest (i + 1) G' s' w' a' A' r hrest' h2 h3 h
      exact wpOps_mono (fun e A w h => h.le h1) _ _ _ ih
    · intro c s' hs G' w' v h1 h2 h3
      rw [hs] at h
      simp only [goOn, Option.some.injEq] at h
      subst h
      exact ⟨G', h1, h2, ha.mono h1, v, rfl, h3⟩
    · intro hs
      rw [hs] at h
      simp [goOn] at h
end Go.CE
