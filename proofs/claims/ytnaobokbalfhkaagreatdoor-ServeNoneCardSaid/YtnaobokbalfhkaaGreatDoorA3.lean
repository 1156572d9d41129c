/- Plain operations, slices, comparisons, arithmetic: where the clean run answers, the model answers alike. Conditions: the relation of the states. -/
import Derived.Test.YtnaobokbalfhkaaGreatDoorA2
import Derived.Laws.Slices
import Derived.Laws.StructEq
import Derived.ChangeKeysEq
import Derived.MapKept
namespace Go.CE

theorem arr_map {α β : Type} (a : Array α) (f : α → β) : a.map f = ⟨a.toList.map f⟩ := Array.ext' (by simp)
theorem eval1_some {f : TV → OpR} {o : Option TV} {r : OpRes × St} (h : eval1 f o = some r) : ∃ v, o = some v ∧ f v = some r := by
  cases o with
  | none => simp [eval1] at h
  | some v => exact ⟨v, rfl, h⟩
theorem eval2_some {f : TV → TV → OpR} {o p : Option TV} {r : OpRes × St} (h : eval2 f o p = some r) : ∃ v u, o = some v ∧ p = some u ∧ f v u = some r := by
  cases o with
  | none => cases p <;> simp [eval2] at h
  | some v => cases p with
    | none => simp [eval2] at h
    | some u => exact ⟨v, u, rfl, rfl, h⟩
theorem eval3_some {f : TV → TV → TV → OpR} {o p q : Option TV} {r : OpRes × St} (h : eval3 f o p q = some r) : ∃ v u x, o = some v ∧ p = some u ∧ q = some x ∧ f v u x = some r := by
  cases o with
  | none => cases p <;> cases q <;> simp [eval3] at h
  | some v => cases p with
    | none => cases q <;> simp [eval3] at h
    | some u => cases q with
      | none => simp [eval3] at h
      | some x => exact ⟨v, u, x, rfl, rfl, rfl, h⟩
theorem evalL_some {f : List TV → OpR} {o : Option (List TV)} {r : OpRes × St} (h : evalL f o = some r) : ∃ v, o = some v ∧ f v = some r := by
  cases o with
  | none => simp [evalL] at h
  | some v => exact ⟨v, rfl, h⟩
theorem evalP_some {f : List (Nat × TV) → OpR} {o : Option (List (Nat × TV))} {r : OpRes × St} (h : evalP f o = some r) : ∃ v, o = some v ∧ f v = some r := by
  cases o with
  | none => simp [evalP] at h
  | some v => exact ⟨v, rfl, h⟩
theorem tvR_some {s : St} {o : Option TV} {r : OpRes × St} (h : tvR s o = some r) : ∃ v, o = some v ∧ r = (.val v, s) := by
  cases o with
  | none => simp [tvR] at h
  | some v => simp [tvR] at h; exact ⟨v, rfl, h.symm⟩
theorem cvR_some {s : St} {o : Option CV} {r : OpRes × St} (h : cvR s o = some r) : ∃ v, o = some v ∧ r = (.val (plain v), s) := by
  cases o with
  | none => simp [cvR] at h
  | some v => simp [cvR] at h; exact ⟨v, rfl, h.symm⟩

variable {P : Program} {W : Frm} {G : Ghost} {s : St} {w : World} {n : Nat} {a : CAct} {A : Act} {o : Oper} {res : OpRes × St}

theorem Ans.pure {c : CV} {v : Value} (r : Rel W G s w) {x : Sem Value} (h : x.run P w = .ok v w) (hx : vrel G c v) :
    Ans W G ((x >>= fun v => Pure.pure (Next.value v)).run P w) (.val (plain c), s) :=
  Ans.val r (by simp [h]) (plain_rel hx)
theorem Ans.pureT {c : TV} {v : Value} (r : Rel W G s w) {x : Sem Value} (h : x.run P w = .ok v w) (hx : tvrel G c v) :
    Ans W G ((x >>= fun v => Pure.pure (Next.value v)).run P w) (.val c, s) :=
  Ans.val r (by simp [h]) hx

theorem sim_move (r : Rel W G s w) (ha : arel G n a A) {x : Operand} (ho : o.op = .move x ∨ o.op = .assign x) (h : exMove a s x = some res) :
    Ans W G ((execOp A.eval o).run P w) res := by
  obtain ⟨v, hv, rfl⟩ := tvR_some h
  rcases ho with ho | ho <;> exact Ans.val r (by simp [execOp, ho]) (ha.eval hv)

theorem sim_pick (r : Rel W G s w) (ha : arel G n a A) {b x y : Operand} (ho : o.op = .pick b x y) (h : exPick a s b x y = some res) :
    Ans W G ((execOp A.eval o).run P w) res := by
  obtain ⟨c, hc, h⟩ := eval1_some h
  obtain ⟨v, hv, rfl⟩ := tvR_some h
  have h1 := (ha.eval hc).rv
  unfold pickOf at hv
  split at hv
  · rename_i hcv
    rw [hcv] at h1
    simp only [vrel] at h1
    exact Ans.val r (v := A.eval x) (by simp [execOp, ho, h1, asBool]) (ha.eval hv)
  · rename_i hcv
    rw [hcv] at h1
    simp only [vrel] at h1
    exact Ans.val r (v := A.eval y) (by simp [execOp, ho, h1, asBool]) (ha.eval hv)
  · cases hv

/-- a new variable -/
theorem newVar_sim (r : Rel W G s w) {x : TV} {v : Value} (hx : tvrel G x v) (t : TypeId) (h : boxOf s (some x) = some res) :
    Ans W G ((do let a ← newVar t v; Pure.pure (Next.value (.pointer (some a)))).run P w) res := by
  simp only [boxOf] at h
  unfold boxCells at h
  split at h
  · rename_i cs hcs
    cases h
    obtain ⟨h1, h2⟩ := hx.cells hcs
    refine ⟨G.addBox s.nb w.heap.size 0 0, put w (.cells v.cells t), .pointer (some ⟨w.heap.size, 0, none⟩), Ghost.le_addBox r.bx_none, ?_, ?_, ?_⟩
    · exact r.newBox (.cells cs) (.cells v.cells t) 0 0 rfl ⟨v.cells, t, rfl, h1⟩
    · simp [newVar, newRow, put]
    · refine plain_rel ?_
      simp only [vrel]
      exact ⟨w.heap.size, 0, 0, by simp [Ghost.addBox], rfl⟩
  · cases h

theorem sim_alloc (r : Rel W G s w) {e : TypeId} (ho : o.op = .alloc e) (h : boxOf s (zeroC P e) = some res) : Ans W G ((execOp A.eval o).run P w) res := by
  cases hz : zeroC P e with
  | none => rw [hz] at h; simp [boxOf] at h
  | some x =>
    rw [hz] at h
    obtain ⟨i, v, hi, hv, hc⟩ := zeroC_some hz
    have := newVar_sim (P := P) r (ofConst_rel hc) e h
    simpa [execOp, ho, Instr.alloc, run_zero hi hv] using this

theorem sim_box (r : Rel W G s w) (ha : arel G n a A) {e : TypeId} {x : Operand} (ho : o.op = .box e x) (h : boxOf s (a.eval x) = some res) :
    Ans W G ((execOp A.eval o).run P w) res := by
  cases hx : a.eval x with
  | none => rw [hx] at h; simp [boxOf] at h
  | some v =>
    rw [hx] at h
    have := newVar_sim (P := P) r (ha.eval hx) e h
    simpa [execOp, ho, Instr.box] using this

theorem sim_load (r : Rel W G s w) (ha : arel G n a A) {t : TypeId} {p : Operand} (ho : o.op = .load t p) (h : exLoad P a s t p = some res) :
    Ans W G ((execOp A.eval o).run P w) res := by
  obtain ⟨p', hp, h⟩ := eval1_some h
  obtain ⟨x, hx, rfl⟩ := tvR_some h
  obtain ⟨v, ad, h1, h2, h3⟩ := loadC_sim (P := P) r (ha.eval hp).rv hx
  exact Ans.val r (v := v) (by simp [execOp, ho, Instr.loadAt, h1, Instr.sureAddr, h2]) h3

theorem sim_store (r : Rel W G s w) (ha : arel G n a A) {t : TypeId} {p x : Operand} (ho : o.op = .store t p x) (h : exStore P a s t p x = some res) :
    Ans W G ((execOp A.eval o).run P w) res := by
  obtain ⟨p', x', hp, hx, h⟩ := eval2_some h
  unfold skipR at h
  split at h
  · rename_i s' hs
    cases h
    obtain ⟨w', h1, h2⟩ := storeC_sim (P := P) r (ha.eval hp).rv (ha.eval hx) hs
    exact ⟨G, w', G.le_refl, h2, by simp [execOp, ho, h1]⟩
  · cases h

theorem sim_nil (r : Rel W G s w) (ha : arel G n a A) {x : Operand} (ho : o.op = .nilCheck x) (h : exNil a s x = some res) :
    Ans W G ((execOp A.eval o).run P w) res := by
  obtain ⟨v, hv, h⟩ := eval1_some h
  obtain ⟨u, hu, rfl⟩ := tvR_some h
  have h1 := ha.eval hv
  have h2 := h1.rv
  unfold notNil at hu
  split at hu
  · rename_i hcv
    cases hu
    rw [hcv] at h2
    simp only [vrel] at h2
    obtain ⟨b, z, m, _, h3⟩ := h2
    exact Ans.val r (v := A.eval x) (by simp [execOp, ho, h3]) h1
  · rename_i hcv
    cases hu
    rw [hcv] at h2
    simp only [vrel] at h2
    obtain ⟨l, h3, _⟩ := h2
    exact Ans.val r (v := A.eval x) (by simp [execOp, ho, h3]) h1
  · cases hu

theorem sim_un (r : Rel W G s w) (ha : arel G n a A) {op : UnOp} {t : TypeId} {x : Operand} (ho : o.op = .unOp op t x) (h : exUn a s op x = some res) :
    Ans W G ((execOp A.eval o).run P w) res := by
  obtain ⟨v, hv, h⟩ := eval1_some h
  obtain ⟨u, hu, rfl⟩ := cvR_some h
  have h2 := (ha.eval hv).rv
  unfold unC at hu
  split at hu
  · rename_i k m hcv _
    cases hu
    rw [hcv] at h2
    simp only [vrel] at h2
    exact Ans.val r (v := .int k (k.wrap (0 - m))) (by simp [execOp, ho, h2, Op.unary, Op.intArith]) (plain_rel (by simp [vrel]))
  · rename_i k m hcv _
    cases hu
    rw [hcv] at h2
    simp only [vrel] at h2
    exact Ans.val r (by simp [execOp, ho, h2, Op.unary, Op.intBits]; rfl) (plain_rel (by simp [vrel, bits2]))
  · rename_i b hcv _
    cases hu
    rw [hcv] at h2
    simp only [vrel] at h2
    exact Ans.val r (v := .bool !b) (by simp [execOp, ho, h2, Op.unary]) (plain_rel (by simp [vrel]))
  · cases hu

theorem sim_iface (r : Rel W G s w) (ha : arel G n a A) {t : TypeId} {x : Operand} (ho : o.op = .makeInterface t x) (h : exIface P a s t x = some res) :
    Ans W G ((execOp A.eval o).run P w) res := by
  obtain ⟨v, hv, h⟩ := eval1_some h
  obtain ⟨u, hu, rfl⟩ := cvR_some h
  have h2 := (ha.eval hv).rv
  unfold ifaceC at hu
  split at hu
  · cases hu
  · rename_i d hni hd
    cases hu
    refine Ans.val r (v := .iface t (A.eval x)) ?_ (plain_rel (by simp only [vrel]; exact ⟨_, rfl, h2⟩))
    cases d <;> first
      | (simp [execOp, ho, Instr.makeInterface, run_und hd]; done)
      | exact absurd rfl (hni _)
  · cases hu

theorem sim_func (r : Rel W G s w) (ha : arel G n a A) {f : Fn} {first cap : Array Operand} (ho : o.op = .makeFunc f first cap) (h : exFunc a s cap f first = some res) :
    Ans W G ((execOp A.eval o).run P w) res := by
  unfold exFunc at h
  split at h
  · rename_i g
    obtain ⟨l, hl, h⟩ := evalL_some h
    obtain ⟨u, hu, rfl⟩ := cvR_some h
    cases hu
    have h1 := vrels_of_tv (ha.evals hl)
    refine Ans.val r (v := .func (.func g) #[] ⟨cap.toList.map A.eval⟩) ?_ (plain_rel ?_)
    rotate_left
    · simp only [vrel]; exact ⟨_, rfl, h1⟩
    have := arr_map cap A.eval
    simp [execOp, ho, Instr.makeFunc, this]
  · cases h

theorem sim_makeMap (r : Rel W G s w) {t : TypeId} {x : Option Operand} (ho : o.op = .makeMap t x) (h : exMakeMap s x = some res) :
    Ans W G ((execOp A.eval o).run P w) res := by
  unfold exMakeMap at h
  split at h
  · cases h
    refine ⟨G.addBox s.nb w.heap.size 0 0, put w (.map #[] 0), .map (some w.heap.size), Ghost.le_addBox r.bx_none, ?_, ?_, ?_⟩
    · exact r.newBox (.map []) (.map #[] 0) 0 0 trivial ⟨#[], 0, rfl, rfl⟩
    · simp [execOp, ho, Instr.makeMap, put]
    · refine plain_rel ?_
      simp only [vrel]
      exact ⟨w.heap.size, 0, 0, by simp [Ghost.addBox], rfl⟩
  · cases h

theorem sim_extract (r : Rel W G s w) (ha : arel G n a A) {t : Operand} {i : Nat} (ho : o.op = .extract t i) (h : exExtract a s t i = some res) :
    Ans W G ((execOp A.eval o).run P w) res := by
  obtain ⟨v, hv, h⟩ := eval1_some h
  obtain ⟨u, hu, rfl⟩ := cvR_some h
  have h2 := (ha.eval hv).rv
  unfold tupAt at hu
  split at hu
  · rename_i vs hcv
    rw [hcv] at h2
    rw [nthO_eq] at hu
    simp only [vrel] at h2
    obtain ⟨l, h2, h3⟩ := h2
    · have : ∀ (cs : List CV) (l : List Value) (i : Nat) (c : CV), vrels G cs l → cs[i]? = some c → ∃ v : Value, l[i]? = some v ∧ vrel G c v := by
        intro cs
        induction cs with
        | nil => intro l i c _ h; simp at h
        | cons c0 cs ih =>
          intro l i c h hc
          simp only [vrels] at h
          obtain ⟨v0, l0, rfl, h4, h5⟩ := h
          cases i with
          | zero => simp at hc; subst hc; exact ⟨v0, by simp, h4⟩
          | succ i => simpa using ih l0 i c h5 (by simpa using hc)
      obtain ⟨v', h4, h5⟩ := this _ _ _ _ h3 hu
      exact Ans.val r (v := v') (by simp [execOp, ho, h2, Instr.extract, h4]) (plain_rel h5)
  · cases hu

theorem sim_panic (r : Rel W G s w) (ha : arel G n a A) {x : Operand} (ho : o.op = .panic x) (h : exPanic a s x = some res) :
    Ans W G ((execOp A.eval o).run P w) res := by
  obtain ⟨v, hv, h⟩ := eval1_some h
  have h2 := (ha.eval hv).rv
  unfold panicR at h
  split at h
  · rename_i t y hcv
    cases h
    rw [hcv] at h2
    have h3 := h2
    simp only [vrel] at h2
    obtain ⟨u, h4, _⟩ := h2
    exact ⟨G, w, A.eval x, G.le_refl, r, by simp [execOp, ho, h4, Instr.panic], h3⟩
  · cases h

theorem sim_assert (r : Rel W G s w) (ha : arel G n a A) {x : Operand} {xt t : TypeId} {ok : Bool} (ho : o.op = .typeAssert x xt t ok) (h : exAssert P a s x t ok = some res) :
    Ans W G ((execOp A.eval o).run P w) res := by
  unfold exAssert at h
  split at h
  · obtain ⟨v, hv, h⟩ := eval1_some h
    obtain ⟨u, hu, rfl⟩ := cvR_some h
    have h2 := (ha.eval hv).rv
    have pairs : ∀ (b : Bool) (u : CV), pairC b (zeroC P t) = some u → ∃ z : Value, (zeroValue t).run P w = .ok z w ∧ vrel G u (.tuple #[z, .bool b]) := by
      intro b u hu
      unfold pairC at hu
      split at hu
      · rename_i z hz
        cases hu
        obtain ⟨i, v, hi, hv, hc⟩ := zeroC_some hz
        refine ⟨v, run_zero hi hv, ?_⟩
        simp only [vrel]
        refine ⟨[v, .bool b], rfl, ?_⟩
        simp only [vrels]
        exact ⟨_, _, rfl, (ofConst_rel hc).rv, _, _, rfl, by simp [vrel], rfl⟩
      · cases hu
    unfold assertC at hu
    split at hu
    · cases hu
    · rename_i d tt y hni hd hcv
      rw [hcv] at h2
      simp only [vrel] at h2
      obtain ⟨y', h3, h4⟩ := h2
      split at hu
      · rename_i hb
        have hb := Nat.eq_of_beq_eq_true hb
        cases hu
        refine Ans.val r (v := .tuple #[y', .bool true]) ?_ (plain_rel ?_)
        · cases d <;> first
            | (simp [execOp, ho, Instr.typeAssert, run_und hd, h3, hb]; done)
            | exact absurd rfl (hni _)
        · simp only [vrel]
          refine ⟨[y', .bool true], rfl, ?_⟩
          simp only [vrels]
          exact ⟨_, _, rfl, h4, _, _, rfl, by simp [vrel], rfl⟩
      · rename_i hb
        have hb : tt ≠ t := fun e => by subst e; simp at hb
        obtain ⟨z, h5, h6⟩ := pairs _ _ hu
        refine Ans.val r (v := .tuple #[z, .bool false]) ?_ (plain_rel h6)
        cases d <;> first
          | (simp [execOp, ho, Instr.typeAssert, run_und hd, h3, hb, h5]; done)
          | exact absurd rfl (hni _)
    · rename_i d hni hd hcv
      rw [hcv] at h2
      simp only [vrel] at h2
      obtain ⟨z, h5, h6⟩ := pairs _ _ hu
      refine Ans.val r (v := .tuple #[z, .bool false]) ?_ (plain_rel h6)
      cases d <;> first
        | (simp [execOp, ho, Instr.typeAssert, run_und hd, h2, h5]; done)
        | exact absurd rfl (hni _)
    · cases hu
  · cases h

theorem calleeC_rel {f : CV} {fv : Value} {args : List TV} {l : List Value} {g : FuncId} {xs : List TV} (hf : vrel G f fv) (hl : tvrels G args l) (h : calleeC f args = some (g, xs)) :
    ∃ cap : List Value, fv = .func (.func g) #[] ⟨cap⟩ ∧ tvrels G xs (l ++ cap) := by
  unfold calleeC at h
  split at h
  · simp only [vrel] at hf
    obtain ⟨cap, h1, h2⟩ := hf
    cases h
    exact ⟨cap, h1, tvrels_append hl (tvrels_noSh h2)⟩
  · cases h

theorem sim_defer (r : Rel W G s w) (ha : arel G n a A) {c : Call} (ho : o.op = .defer c) (h : exDefer a s c.args c.callee = some res) :
    Ans W G ((execOp A.eval o).run P w) res := by
  unfold exDefer at h
  split at h
  · rename_i f hf
    obtain ⟨l, hl, h⟩ := evalL_some h
    obtain ⟨fv, hfv, h⟩ := eval1_some h
    unfold deferR at h
    split at h
    · rename_i g xs hg
      cases h
      obtain ⟨cap, h1, h2⟩ := calleeC_rel (ha.eval hfv).rv (ha.evals hl) hg
      refine ⟨G, w, ⟨.fn (.func g) ⟨cap⟩, ⟨c.args.toList.map A.eval⟩⟩, G.le_refl, r, ?_, ⟨_, _, rfl, h2⟩⟩
      have := arr_map c.args A.eval
      simp [execOp, ho, resolve, hf, Deferred.ofValue, h1, this]
    · cases h
  · cases h
end Go.CE

namespace Go.CE
variable {P : Program} {W : Frm} {G : Ghost} {s : St} {w : World} {n : Nat} {a : CAct} {A : Act} {o : Oper} {res : OpRes × St}

theorem rpre_get : ∀ {rows : List (List CV)} {l : List Value} {z i : Nat} {r : List CV}, rpre G rows l → (∀ x ∈ rows, x.length = z) → rows[i]? = some r → pre G r (l.drop (i * z))
  | [], _, _, _, _, _, _, h => by simp at h
  | x :: rows, l, z, 0, r, h, _, hr => by
    simp only [rpre] at h
    simp at hr
    subst hr
    simpa using h.1
  | x :: rows, l, z, i + 1, r, h, hz, hr => by
    simp only [rpre] at h
    have ih := rpre_get (i := i) h.2 (fun y hy => hz y (List.mem_cons_of_mem _ hy)) (by simpa using hr)
    rw [List.drop_drop, hz x (List.mem_cons_self ..)] at ih
    rw [Nat.add_mul, Nat.one_mul, Nat.add_comm]
    exact ih
theorem rpre_drop : ∀ {rows : List (List CV)} {l : List Value} {z : Nat} (i : Nat), rpre G rows l → (∀ x ∈ rows, x.length = z) → rpre G (rows.drop i) (l.drop (i * z))
  | rows, l, z, 0, h, _ => by simpa using h
  | [], l, z, i + 1, h, _ => by simp [rpre]
  | x :: rows, l, z, i + 1, h, hz => by
    simp only [rpre] at h
    have ih := rpre_drop i h.2 (fun y hy => hz y (List.mem_cons_of_mem _ hy))
    rw [List.drop_drop, hz x (List.mem_cons_self ..)] at ih
    have e : (i + 1) * z = z + i * z := by rw [Nat.add_mul, Nat.one_mul, Nat.add_comm]
    rw [e, List.drop_succ_cons]
    exact ih
theorem rpre_take : ∀ {rows : List (List CV)} {l : List Value} (i : Nat), rpre G rows l → rpre G (rows.take i) l
  | rows, l, 0, h => by simp [rpre]
  | [], l, i + 1, h => by simp [rpre]
  | x :: rows, l, i + 1, h => by
    simp only [rpre] at h
    simp only [List.take_succ_cons, rpre]
    exact ⟨h.1, rpre_take i h.2⟩
theorem rpre_length : ∀ {rows : List (List CV)} {l : List Value} {z : Nat}, rpre G rows l → (∀ x ∈ rows, x.length = z) → rows.length * z ≤ l.length
  | [], l, z, _, _ => by simp
  | x :: rows, l, z, h, hz => by
    simp only [rpre] at h
    have ih := rpre_length h.2 (fun y hy => hz y (List.mem_cons_of_mem _ hy))
    have h1 := h.1.length_le
    have h2 := hz x (List.mem_cons_self ..)
    rw [List.length_drop] at ih
    simp only [List.length_cons, Nat.add_mul, Nat.one_mul]
    omega

theorem intOf_rel {c : CV} {v : Value} {i : Int} (h : vrel G c v) (k : intOf? c = some i) : ∃ kd, v = .int kd i := by
  unfold intOf? at k
  split at k
  · cases k
    simp only [vrel] at h
    exact ⟨_, h⟩
  · cases k
theorem evalInt_rel (ha : arel G n a A) {d i : Int} {x : Option Operand} (h : evalInt? a d x = some i) :
    (x = none ∧ i = d) ∨ ∃ y kd, x = some y ∧ A.eval y = .int kd i := by
  unfold evalInt? at h
  split at h
  · cases h; exact .inl ⟨rfl, rfl⟩
  · rename_i y
    split at h
    · rename_i v hv
      obtain ⟨kd, h1⟩ := intOf_rel (ha.eval hv).rv h
      exact .inr ⟨y, kd, rfl, h1⟩
    · cases h

theorem sim_fieldAddr (r : Rel W G s w) (ha : arel G n a A) {t : TypeId} {x : Operand} {f : Nat} (ho : o.op = .fieldAddr t x f) (h : exFieldAddr P a s t x f = some res) :
    Ans W G ((execOp A.eval o).run P w) res := by
  obtain ⟨v, hv, h⟩ := eval1_some h
  obtain ⟨u, hu, rfl⟩ := cvR_some h
  have h2 := (ha.eval hv).rv
  unfold fieldAddrC at hu
  split at hu
  · rename_i fs hfs
    split at hu
    · rename_i fd hfd
      split at hu
      · rename_i m ag hs
        obtain ⟨i, d, hi, hd, rfl, rfl⟩ := szAgg_some hs
        split at hu
        · cases hu
        · rename_i hn
          split at hu
          · rename_i j off hcv
            cases hu
            rw [hcv] at h2
            simp only [vrel] at h2
            obtain ⟨b, z, m, h3, h4⟩ := h2
            refine Ans.val r (v := .pointer (some ⟨b, off + fd.offset, none⟩)) ?_ (plain_rel ?_)
            · simp [execOp, ho, Instr.fieldAt, run_und hfs, hfd, h4, Instr.sureAddr, fieldPlace, run_size hi, hn, addr_add]
            · simp only [vrel]; exact ⟨b, z, m, h3, rfl⟩
          · rename_i cs off hcv
            cases hu
            rw [hcv] at h2
            simp only [vrel] at h2
            obtain ⟨b, off', vals, h3, h4, h5⟩ := h2
            refine Ans.val r (v := .pointer (some ⟨b, off' + (off + fd.offset), none⟩)) ?_ (plain_rel ?_)
            · simp [execOp, ho, Instr.fieldAt, run_und hfs, hfd, h4, Instr.sureAddr, fieldPlace, run_size hi, hn, addr_add, Nat.add_assoc]
            · simp only [vrel]; exact ⟨b, off', vals, h3, rfl, h5⟩
          · cases hu
      · cases hu
    · cases hu
  · cases hu

theorem run_part {t : TypeId} {m : Nat} {ag : Bool} {cs : Array Value} {off : Nat} (hs : szAgg P t = some (m, ag)) (h : ag = false → (cs[off]?).isSome = true) :
    (part t cs off).run P w = .ok (if ag then .agg (cs.extract off (off + m)) else (cs[off]?).getD undef) w := by
  obtain ⟨i, d, hi, hd, rfl, rfl⟩ := szAgg_some hs
  unfold part
  simp only [Sem.run_bind, run_isAgg hd, Result.andThen_ok]
  cases hag : isAggD d with
  | true => simp [run_size hi]
  | false =>
    have := h hag
    cases hc : cs[off]? with
    | none => simp [hc] at this
    | some v => simp

theorem part_rel {cl : List CV} {l : List Value} {m off : Nat} {ag : Bool} {u : CV} (h : pre G cl l)
    (hu : (if ag then (match takeN cl off m with | some x => some (CV.agg x) | none => none) else cl[off]?) = some u) :
    (ag = false → ((⟨l⟩ : Array Value)[off]?).isSome = true) ∧ vrel G u (if ag then .agg ((⟨l⟩ : Array Value).extract off (off + m)) else ((⟨l⟩ : Array Value)[off]?).getD undef) := by
  cases ag with
  | true =>
    simp only [if_true] at hu ⊢
    split at hu
    · rename_i x hx
      cases hu
      obtain ⟨h1, h2, h3⟩ := h.part hx
      refine ⟨by simp, ?_⟩
      simp only [vrel]
      refine ⟨(l.drop off).take m, ?_, by omega, h1⟩
      congr 1
      apply Array.ext'
      simp
    · cases hu
  | false =>
    simp only [Bool.false_eq_true, if_false] at hu ⊢
    obtain ⟨h1, v, h2, h3⟩ := pre_iff.1 h _ _ hu
    simp [h2, h3]

theorem sim_field (r : Rel W G s w) (ha : arel G n a A) {t : TypeId} {x : Operand} {f : Nat} (ho : o.op = .field t x f) (h : exField P a s t x f = some res) :
    Ans W G ((execOp A.eval o).run P w) res := by
  obtain ⟨v, hv, h⟩ := eval1_some h
  obtain ⟨u, hu, rfl⟩ := cvR_some h
  have h2 := (ha.eval hv).rv
  unfold fieldC at hu
  split at hu
  · rename_i fs hfs
    split at hu
    · rename_i fd hfd
      split at hu
      · rename_i m ag cs hs hcv
        rw [hcv] at h2
        simp only [vrel] at h2
        obtain ⟨l, h3, h4, h5⟩ := h2
        obtain ⟨h6, h7⟩ := part_rel h5 hu
        exact Ans.val r (by simp [execOp, ho, Instr.field, run_und hfs, hfd, h3, asAgg, run_part hs h6]) (plain_rel h7)
      · cases hu
    · cases hu
  · cases hu

theorem sim_indexAddr (r : Rel W G s w) (ha : arel G n a A) {t : TypeId} {x i : Operand} (ho : o.op = .indexAddr t x i) (h : exIndexAddr P a s t x i = some res) :
    Ans W G ((execOp A.eval o).run P w) res := by
  obtain ⟨v, iv, hv, hiv, h⟩ := eval2_some h
  obtain ⟨u, hu, rfl⟩ := cvR_some h
  have h2 := (ha.eval hv).rv
  have hi2 := (ha.eval hiv).rv
  unfold withInt at hu
  split at hu
  · rename_i k hk
    obtain ⟨kd, hint⟩ := intOf_rel hi2 hk
    unfold indexAddrC at hu
    split at hu
    · rename_i e ht
      split at hu
      · rename_i z ag hs
        obtain ⟨inf, d, hi, hd, rfl, rfl⟩ := szAgg_some hs
        unfold idxAddr at hu
        split at hu
        · rename_i rows hcv
          rw [hcv] at h2
          simp only [vrel] at h2
          obtain ⟨ad, cap, h3, h4, h5⟩ := h2
          unfold idxRow at hu
          split at hu
          · rename_i j
            split at hu
            · rename_i row hrow
              split at hu
              · rename_i hlen
                have hlen := Nat.eq_of_beq_eq_true hlen
                cases hu
                rw [nthO_eq] at hrow
                have hj := (List.getElem?_eq_some_iff.1 hrow).1
                rcases h5 with h5 | ⟨b, off, vals, z', h5, h6, h7, h8⟩
                · subst h5; simp at hrow
                · have hz' : z' = inf.size := by rw [← hlen]; exact (h7 row (List.mem_of_getElem? hrow)).symm
                  subst hz'
                  subst h5
                  refine Ans.val r (v := .pointer (some ⟨b, off + j * inf.size, none⟩)) ?_ (plain_rel ?_)
                  · simp [execOp, ho, Instr.indexAt, hint, asIntOf, run_und ht, h3, run_size hi, hj, addr_add]
                  · simp only [vrel]
                    refine ⟨b, off + j * inf.size, vals, h6, rfl, ?_⟩
                    have := rpre_get h8 h7 hrow
                    rwa [List.drop_drop] at this
              · cases hu
            · cases hu
          · cases hu
        · rename_i bi off len hcv
          rw [hcv] at h2
          simp only [vrel] at h2
          obtain ⟨b, z, m, cap, h3, h4, h5, h6⟩ := h2
          unfold idxBox at hu
          split at hu
          · rename_i j
            split at hu
            · rename_i hlt
              have hlt := of_decide_eq_true (show decide (j < len) = true from by simpa using hlt)
              cases hu
              refine Ans.val r (v := .pointer (some ⟨b, off + j * inf.size, none⟩)) ?_ (plain_rel ?_)
              · simp [execOp, ho, Instr.indexAt, hint, asIntOf, run_und ht, h4, run_size hi, hlt, addr_add]
              · simp only [vrel]; exact ⟨b, z, m, h3, rfl⟩
            · cases hu
          · cases hu
        · cases hu
      · cases hu
    · rename_i ln e ht
      split at hu
      · rename_i z ag hs
        obtain ⟨inf, d, hi, hd, rfl, rfl⟩ := szAgg_some hs
        unfold idxArr at hu
        split at hu
        · rename_i bi off hcv
          rw [hcv] at h2
          simp only [vrel] at h2
          obtain ⟨b, z, m, h3, h4⟩ := h2
          split at hu
          · unfold idxBox at hu
            split at hu
            · rename_i j
              split at hu
              · rename_i hlt
                have hlt := of_decide_eq_true (show decide (j < ln) = true from by simpa using hlt)
                cases hu
                refine Ans.val r (v := .pointer (some ⟨b, off + j * inf.size, none⟩)) ?_ (plain_rel ?_)
                · simp [execOp, ho, Instr.indexAt, hint, asIntOf, run_und ht, h4, Instr.sureAddr, run_size hi, hlt, addr_add]
                · simp only [vrel]; exact ⟨b, z, m, h3, rfl⟩
              · cases hu
            · cases hu
          · cases hu
        · cases hu
      · cases hu
    · cases hu
  · cases hu

theorem sim_index (r : Rel W G s w) (ha : arel G n a A) {t : TypeId} {x i : Operand} (ho : o.op = .index t x i) (h : exIndex P a s t x i = some res) :
    Ans W G ((execOp A.eval o).run P w) res := by
  obtain ⟨v, iv, hv, hiv, h⟩ := eval2_some h
  obtain ⟨u, hu, rfl⟩ := cvR_some h
  have h2 := (ha.eval hv).rv
  have hi2 := (ha.eval hiv).rv
  unfold withInt at hu
  split at hu
  · rename_i k hk
    obtain ⟨kd, hint⟩ := intOf_rel hi2 hk
    unfold indexC at hu
    split at hu
    · rename_i ht
      unfold idxStr at hu
      split at hu
      · rename_i j b hcv
        rw [hcv] at h2
        simp only [vrel] at h2
        rw [nthO_eq] at hu
        split at hu
        · rename_i c hc
          cases hu
          refine Ans.val r (v := .int .u8 (.ofNat c.toNat)) ?_ (plain_rel (by simp [vrel]))
          have hj := (List.getElem?_eq_some_iff.1 hc)
          obtain ⟨hj, hc'⟩ := hj
          have hs : (⟨⟨b⟩⟩ : ByteArray)[j]? = some c := by
            have hsz : j < (⟨⟨b⟩⟩ : ByteArray).size := by simpa [ByteArray.size] using hj
            rw [getElem?_pos _ j hsz]
            simpa [ByteArray.getElem_eq_getElem_data] using hc'
          simp [execOp, ho, Instr.index, hint, asIntOf, run_und ht, h2, hs]
        · cases hu
      · cases hu
    · rename_i ln e ht
      split at hu
      · rename_i z ag hs
        obtain ⟨inf, d, hi, hd, rfl, rfl⟩ := szAgg_some hs
        unfold idxAgg at hu
        split at hu
        · rename_i j cs hcv
          rw [hcv] at h2
          simp only [vrel] at h2
          obtain ⟨l, h3, h4, h5⟩ := h2
          split at hu
          · rename_i hlt
            have hlt := of_decide_eq_true (show decide (j < ln) = true from by simpa using hlt)
            have hu' : (if isAggD d then (match takeN cs (j * inf.size) inf.size with | some x => some (CV.agg x) | none => none) else cs[j * inf.size]?) = some u := by
              cases hag : isAggD d with
              | true => rw [hag] at hu; exact hu
              | false => rw [hag] at hu; simp only [nthO_eq] at hu; exact hu
            obtain ⟨h6, h7⟩ := part_rel h5 hu'
            exact Ans.val r (by simp [execOp, ho, Instr.index, hint, asIntOf, run_und ht, h3, run_size hi, hlt, run_part hs h6]) (plain_rel h7)
          · cases hu
        · cases hu
      · cases hu
    · cases hu
  · cases hu
end Go.CE

namespace Go.CE
variable {P : Program} {W : Frm} {G : Ghost} {s : St} {w : World} {n : Nat} {a : CAct} {A : Act} {o : Oper} {res : OpRes × St} {mt : Bool}

theorem run_bounds {isSlice : Bool} {len cap l h : Nat} {lo hi : Option Value} (hlo : (lo = none ∧ l = 0) ∨ ∃ kd, lo = some (.int kd (.ofNat l)))
    (hhi : (hi = none ∧ h = len) ∨ ∃ kd, hi = some (.int kd (.ofNat h))) (h1 : l ≤ h) (h2 : h ≤ cap) :
    (Instr.sliceBounds isSlice len cap lo hi none).run P w = .ok (l, h, cap) w := by
  rcases hlo with ⟨rfl, rfl⟩ | ⟨kd, rfl⟩ <;> rcases hhi with ⟨rfl, rfl⟩ | ⟨kd', rfl⟩ <;>
    simp [Instr.sliceBounds, Instr.sliceBound, asIntOf, h1, h2]

theorem bound_of (ha : arel G n a A) {d : Int} {k : Nat} {x : Option Operand} (h : evalInt? a d x = some (.ofNat k)) :
    (x.map A.eval = none ∧ (.ofNat k : Int) = d) ∨ ∃ kd, x.map A.eval = some (.int kd (.ofNat k)) := by
  rcases evalInt_rel ha h with ⟨rfl, h1⟩ | ⟨y, kd, rfl, h1⟩
  · exact .inl ⟨rfl, h1⟩
  · exact .inr ⟨kd, by simp [h1]⟩

theorem shAt_rel {sh : List Sh} {v : Value} {j : Nat} {u : Value} (h : hrel G sh v.cells.toList) (hj : v.cells[j]? = some u) : shrel G (shAt sh j) u := by
  unfold shAt
  cases k : sh[j]? with
  | none => simp [List.getD, k, shrel]
  | some x =>
    simp only [List.getD, k, Option.getD_some]
    exact hrel_iff.1 h j x u k (by simpa using hj)

theorem sim_slice (r : Rel W G s w) (ha : arel G n a A) {t : TypeId} {x : Operand} {lo hi mx : Option Operand} (ho : o.op = .slice t x lo hi mx) (h : exSlice P a s t x lo hi mx = some res) :
    Ans W G ((execOp A.eval o).run P w) res := by
  unfold exSlice at h
  split at h
  · obtain ⟨v, hv, h⟩ := eval1_some h
    have h2 := ha.eval hv
    unfold slice2 at h
    split at h
    · rename_i l' h' hl hh
      obtain ⟨u, hu, rfl⟩ := tvR_some h
      unfold sliceC at hu
      split at hu
      · rename_i b ht hcv
        have h3 := h2.rv
        rw [hcv] at h3 hh
        simp only [vrel] at h3
        unfold slcStr at hu
        split at hu
        · rename_i l hN
          split at hu
          · rename_i hc
            simp only [Bool.and_eq_true, Nat.ble_eq] at hc
            cases hu
            have e1 := bound_of ha hl
            have e2 := bound_of ha hh
            have hsz : (⟨⟨b⟩⟩ : ByteArray).size = b.length := rfl
            refine Ans.val r (v := .string ((⟨⟨b⟩⟩ : ByteArray).extract l hN)) ?_ (plain_rel ?_)
            · have hb : (Instr.sliceBounds false b.length b.length (lo.map A.eval) (hi.map A.eval) none).run P w = .ok (l, hN, b.length) w := by
                refine run_bounds ?_ ?_ hc.1 hc.2
                · rcases e1 with ⟨e1, e3⟩ | e1
                  · exact .inl ⟨e1, by simpa using e3⟩
                  · exact .inr e1
                · rcases e2 with ⟨e2, e3⟩ | e2
                  · exact .inl ⟨e2, by simp only [lenC] at e3; exact Int.ofNat.inj e3⟩
                  · exact .inr e2
              simp [execOp, ho, Instr.sliceAt, Instr.slice, run_und ht, h3, hsz, hb]
            · simp only [vrel, dropN_eq]
              congr 1
              apply ByteArray.ext
              apply Array.ext'
              simp [ByteArray.data_extract, List.drop_take]
          · cases hu
        · cases hu
      · rename_i e rows ht hcv
        have h3 := h2.rv
        rw [hcv] at h3 hh
        simp only [vrel] at h3
        obtain ⟨ad, cap, h4, h5, h6⟩ := h3
        split at hu
        · rename_i z ag hs
          obtain ⟨inf, d, hi', hd, rfl, rfl⟩ := szAgg_some hs
          split at hu
          · rename_i hhead
            unfold slcRows at hu
            split at hu
            · rename_i l hN
              split at hu
              · rename_i hc
                simp only [Bool.and_eq_true, Nat.ble_eq] at hc
                have e1 := bound_of ha hl
                have e2 := bound_of ha hh
                have hb : (Instr.sliceBounds true rows.length cap (lo.map A.eval) (hi.map A.eval) none).run P w = .ok (l, hN, cap) w := by
                  refine run_bounds ?_ ?_ hc.1 (by omega)
                  · rcases e1 with ⟨e1, e3⟩ | e1
                    · exact .inl ⟨e1, by simpa using e3⟩
                    · exact .inr e1
                  · rcases e2 with ⟨e2, e3⟩ | e2
                    · exact .inl ⟨e2, by simp only [lenC] at e3; exact Int.ofNat.inj e3⟩
                    · exact .inr e2
                have hrun : (execOp A.eval o).run P w = .ok (.value (.slice (if cap = l then ad else ad.map (·.add (l * inf.size))) (hN - l) (cap - l))) w := by
                  simp [execOp, ho, Instr.sliceAt, Instr.slice, run_und ht, h4, hb, run_size hi']
                have hz : ∀ y ∈ rows, y.length = inf.size := by
                  rcases h6 with h6 | ⟨b, off, vals, z', _, _, h9, _⟩
                  · subst h6; simp
                  · intro y hy
                    cases rows with
                    | nil => simp at hy
                    | cons y0 rest =>
                      simp only [okHead] at hhead
                      have := Nat.eq_of_beq_eq_true hhead
                      rw [h9 y hy, ← h9 y0 (List.mem_cons_self ..), this]
                have hval : vrel G (.slice ((rows.take hN).drop l)) (.slice (if cap = l then ad else ad.map (·.add (l * inf.size))) (hN - l) (cap - l)) := by
                  simp only [vrel]
                  have hlen : ((rows.take hN).drop l).length = hN - l := by simp; omega
                  refine ⟨_, cap - l, by rw [hlen], by omega, ?_⟩
                  by_cases hlt : l < hN
                  · right
                    have hne : cap ≠ l := by omega
                    rcases h6 with h6 | ⟨b, off, vals, z', h7, h8, h9, h10⟩
                    · subst h6; simp at hc; omega
                    · have hz' : z' = inf.size := by
                        cases rows with
                        | nil => simp at hc; omega
                        | cons y0 rest => rw [← h9 y0 (List.mem_cons_self ..)]; exact hz y0 (List.mem_cons_self ..)
                      subst hz'
                      refine ⟨b, off + l * inf.size, vals, inf.size, by simp [hne, h7, addr_add], h8, ?_, ?_⟩
                      · intro y hy; exact hz y (List.mem_of_mem_take (List.mem_of_mem_drop hy))
                      · have := rpre_drop l (rpre_take hN h10) (fun y hy => hz y (List.mem_of_mem_take hy))
                        rwa [List.drop_drop] at this
                  · left
                    have : hN = l := by omega
                    subst this
                    simp
                split at hu
                · rename_i hfull
                  cases hu
                  have hN' : hN = rows.length := by
                    rcases evalInt_rel ha hh with ⟨_, e3⟩ | ⟨y, kd, e3, _⟩
                    · simp only [lenC] at e3; exact Int.ofNat.inj e3
                    · subst e3; simp at hfull
                  subst hN'
                  refine Ans.val r hrun (.short ?_ ?_ (by simp))
                  · simpa [dropN_eq] using hval
                  · refine ⟨?_, trivial⟩
                    simp only [dropN_eq]
                    have hsh : shrel G (shAt v.sh 0) (A.eval x) := shAt_rel (v := A.eval x) h2.rs (by rw [h4]; rfl)
                    cases hr : rows.drop l with
                    | nil => exact trivial
                    | cons y0 rest =>
                      have hlt : l < rows.length := by
                        rcases Nat.lt_or_ge l rows.length with k | k
                        · exact k
                        · rw [List.drop_eq_nil_of_le k] at hr; cases hr
                      have hne : cap ≠ l := by omega
                      simp only [shRest]
                      cases hsa : shAt v.sh 0 with
                      | no => exact trivial
                      | full =>
                        rw [hsa] at hsh
                        intro a1 len1 cap1 heq
                        cases heq
                        have := hsh _ _ _ h4
                        omega
                      | tok i e =>
                        rw [hsa] at hsh
                        obtain ⟨b, n1, m1, z1, off, k1, k2, k3, k4⟩ := hsh _ _ _ h4
                        simp only [shTok]
                        split
                        · rename_i e' z' htok
                          split
                          · rename_i hzz
                            have hzz := Nat.eq_of_beq_eq_true hzz
                            obtain ⟨e'', k5, _⟩ := r.tkle _ _ _ _ _ _ k1
                            have : look s.toks i = some (e', z') := htok
                            rw [this] at k5
                            cases k5
                            subst hzz
                            intro a1 len1 cap1 heq
                            cases heq
                            refine ⟨b, n1, m1, inf.size, off + l * inf.size, k1, by simp [hne, k2, addr_add], ?_, ?_⟩
                            · rw [← k3, Nat.add_assoc, ← Nat.add_mul]
                              congr 2
                              omega
                            · rw [← k4, Nat.add_assoc, ← Nat.add_mul]
                              congr 2
                              omega
                          · exact trivial
                        · exact trivial
                · cases hu
                  refine Ans.val r hrun (plain_rel ?_)
                  simpa [dropN_eq] using hval
              · cases hu
            · cases hu
          · cases hu
        · cases hu
      · cases hu
    · cases h
  · cases h

/-! len, min, max -/
theorem sim_builtin_run {b : Builtin} {c : Call} (ho : o.op = .call c) (hc : c.callee = .builtin b) :
    ∃ consts, (execOp A.eval o).run P w = (builtin b c.argTypes o.type consts ⟨c.args.toList.map A.eval⟩).run P w := by
  rw [← arr_map]
  exact ⟨_, by simp [execOp, ho, resolve, hc, invoke]; rfl⟩

theorem entries_length : ∀ {es : List (CV × CV)} {l : List MapEntry}, entries G es l → l.length = es.length
  | [], _, h => by rw [show _ = _ from h]; rfl
  | (_, _) :: _, _, ⟨_, _, h1, _, _, h4⟩ => by rw [h1]; simp [entries_length h4]

theorem sim_len (r : Rel W G s w) {xs : List TV} {vs : List Value} (hx : tvrels G xs vs) {tys : Array TypeId} {ty : TypeId} {consts : Array Bool}
    (h : builtinC P mt .len tys xs s = some res) : Ans W G ((builtin .len tys ty consts ⟨vs⟩).run P w) res := by
  cases xs with
  | nil => simp [builtinC] at h
  | cons x xs =>
    cases xs with
    | cons _ _ => simp [builtinC] at h
    | nil =>
      obtain ⟨v, r0, rfl, hv, hr0⟩ := hx
      have : r0 = [] := hr0
      subst this
      simp only [builtinC] at h
      split at h
      · rename_i t
        have h2 := hv.rv
        cases hd : P.underlying t with
        | none => rw [hd] at h; unfold lenR at h; split at h <;> first | (rename_i k; cases k; done) | (rename_i k _; cases k; done) | cases h
        | some d =>
        rw [hd] at h
        unfold lenR at h
        split at h
        · rename_i b hcv hk
          cases hk
          rw [hcv] at h2
          simp only [vrel] at h2
          cases h
          exact Ans.val r (v := .int .i64 (.ofNat b.length)) (by simp [builtin, Builtin.len_, run_und hd, h2, goInt]; rfl) (plain_rel (by simp [vrel]))
        · rename_i es e hcv hk
          cases hk
          rw [hcv] at h2
          simp only [vrel] at h2
          obtain ⟨ad, cap, h3, _⟩ := h2
          cases h
          exact Ans.val r (v := .int .i64 (.ofNat es.length)) (by simp [builtin, Builtin.len_, run_und hd, h3, goInt]) (plain_rel (by simp [vrel]))
        · rename_i i off len e hcv hk
          cases hk
          rw [hcv] at h2
          simp only [vrel] at h2
          obtain ⟨b, z, m, cap, _, h3, _⟩ := h2
          cases h
          exact Ans.val r (v := .int .i64 (.ofNat len)) (by simp [builtin, Builtin.len_, run_und hd, h3, goInt]) (plain_rel (by simp [vrel]))
        · rename_i k e hcv hk
          cases hk
          rw [hcv] at h2
          simp only [vrel] at h2
          cases h
          exact Ans.val r (v := .int .i64 0) (by simp [builtin, Builtin.len_, run_und hd, h2, goInt]) (plain_rel (by simp [vrel]))
        · rename_i i k e hcv hk
          cases hk
          rw [hcv] at h2
          simp only [vrel] at h2
          obtain ⟨b, z, m, h3, h4⟩ := h2
          unfold lenOfMap at h
          split at h
          · rename_i es hb
            cases h
            obtain ⟨b', z', m', h5, h6⟩ := r.box i _ hb
            rw [h3] at h5
            cases h5
            obtain ⟨l, clock, h7, h8⟩ := h6
            have h9 := entries_length h8
            have hg : (getObj b).run P w = .ok (.map l clock) w := by simp [getObj, Sem.run, h7]
            refine Ans.val r (v := .int .i64 (.ofNat es.length)) ?_ (plain_rel (by simp [vrel]))
            simp only [Array.length_toList] at h9
            simp [builtin, Builtin.len_, run_und hd, h4, hg, goInt, h9]
          · cases h
        · cases h
      · cases h

theorem intLt_eq (a b : Int) : intLt a b = decide (a < b) := by
  cases a <;> cases b <;> simp only [intLt]
  · rename_i x y
    rw [Bool.eq_iff_iff]; simp; try omega
  · rename_i x y
    rw [Bool.eq_iff_iff]; simp; try omega
  · rename_i x y
    rw [Bool.eq_iff_iff]; simp; try omega
  · rename_i x y
    rw [Bool.eq_iff_iff]; simp; try omega
theorem intLe_eq (a b : Int) : intLe a b = decide (a ≤ b) := by
  cases a <;> cases b <;> simp only [intLe]
  · rename_i x y
    rw [Bool.eq_iff_iff]; simp; try omega
  · rename_i x y
    rw [Bool.eq_iff_iff]; simp; try omega
  · rename_i x y
    rw [Bool.eq_iff_iff]; simp; try omega
  · rename_i x y
    rw [Bool.eq_iff_iff]; simp; try omega
theorem intEq_eq (a b : Int) : intEq a b = (a == b) := by
  cases a <;> cases b <;> simp only [intEq] <;> rw [Bool.eq_iff_iff] <;> simp <;> omega

theorem sim_min (r : Rel W G s w) {xs : List TV} {vs : List Value} (hx : tvrels G xs vs) {tys : Array TypeId} {ty : TypeId} {consts : Array Bool}
    (h : builtinC P mt .min tys xs s = some res) : Ans W G ((builtin .min tys ty consts ⟨vs⟩).run P w) res := by
  match xs, hx with
  | [], _ => simp [builtinC] at h
  | [x], _ => simp [builtinC] at h
  | x :: y :: _ :: _, _ => simp [builtinC] at h
  | [x, y], ⟨v, _, hvs, hv, u, _, hus, hu, hn⟩ =>
    subst hvs; subst hus; subst hn
    simp only [builtinC, cvR0] at h
    split at h
    · rename_i c hc
      cases h
      unfold minC at hc
      split at hc
      · rename_i k p k' q hp hq
        have h1 := hv.rv
        have h2 := hu.rv
        rw [hp] at h1
        rw [hq] at h2
        simp only [vrel] at h1 h2
        cases hc
        refine Ans.val r (v := .int k (if q < p then q else p)) (by simp [builtin, Builtin.min_, Builtin.min2, h1, h2]) (plain_rel ?_)
        simp only [vrel, intLt_eq]
        by_cases hlt : q < p <;> simp [hlt]
      · cases hc
    · cases h
theorem sim_max (r : Rel W G s w) {xs : List TV} {vs : List Value} (hx : tvrels G xs vs) {tys : Array TypeId} {ty : TypeId} {consts : Array Bool}
    (h : builtinC P mt .max tys xs s = some res) : Ans W G ((builtin .max tys ty consts ⟨vs⟩).run P w) res := by
  match xs, hx with
  | [], _ => simp [builtinC] at h
  | [x], _ => simp [builtinC] at h
  | x :: y :: _ :: _, _ => simp [builtinC] at h
  | [x, y], ⟨v, _, hvs, hv, u, _, hus, hu, hn⟩ =>
    subst hvs; subst hus; subst hn
    simp only [builtinC, cvR0] at h
    split at h
    · rename_i c hc
      cases h
      unfold maxC at hc
      split at hc
      · rename_i k p k' q hp hq
        have h1 := hv.rv
        have h2 := hu.rv
        rw [hp] at h1
        rw [hq] at h2
        simp only [vrel] at h1 h2
        cases hc
        refine Ans.val r (v := .int k (if q > p then q else p)) (by simp [builtin, Builtin.max_, Builtin.max2, h1, h2]) (plain_rel ?_)
        simp only [vrel, intLt_eq]
        by_cases hlt : p < q <;> simp [hlt]
      · cases hc
    · cases h
end Go.CE

namespace Go.CE
variable {P : Program} {W : Frm} {G : Ghost} {s : St} {w : World} {n : Nat} {a : CAct} {A : Act} {o : Oper} {res : OpRes × St} {mt : Bool}

theorem bytesEq_eq : ∀ (a b : List UInt8), bytesEq a b = (a == b)
  | [], [] => rfl
  | [], _ :: _ => rfl
  | _ :: _, [] => rfl
  | x :: a, y :: b => by
    simp only [bytesEq, List.cons_beq_cons]
    have e : Nat.beq x.toNat y.toNat = (x == y) := by
      rw [Bool.eq_iff_iff, Nat.beq_eq, beq_iff_eq]
      exact UInt8.toNat_inj
    rw [e, ← bytesEq_eq a b]
    cases x == y <;> rfl
theorem bytesLess_eq : ∀ (a b : List UInt8), bytesLess a b = Op.bytesLess a b
  | [], [] => rfl
  | _ :: _, [] => by simp [bytesLess, Op.bytesLess]
  | [], _ :: _ => rfl
  | x :: a, y :: b => by
    simp only [bytesLess, Op.bytesLess]
    have e : Nat.beq x.toNat y.toNat = (x == y) := by
      rw [Bool.eq_iff_iff, Nat.beq_eq, beq_iff_eq]
      exact UInt8.toNat_inj
    have e2 : Nat.blt x.toNat y.toNat = decide (x < y) := by
      rw [Bool.eq_iff_iff]
      simp [UInt8.lt_iff_toNat_lt]
    rw [e, e2, ← bytesLess_eq a b]
    cases decide (x < y) <;> cases x == y <;> rfl
theorem kindEq_eq {a b : IntKind} (h : kindEq a b = true) : a = b := by
  cases a <;> cases b <;> first | rfl | (simp [kindEq] at h; done)
theorem toList_mk (l : List UInt8) : (⟨⟨l⟩⟩ : ByteArray).toList = l := by rw [ByteArray.toList_eq]
theorem beq_mk (a b : List UInt8) : ((⟨⟨a⟩⟩ : ByteArray) == ⟨⟨b⟩⟩) = bytesEq a b := by rw [beq_toListBytes, toList_mk, toList_mk, bytesEq_eq]

theorem cutP_sim {cl : List CV} {l : List Value} {off : Nat} {t : TypeId} {u : CV} (h : pre G cl l) (hu : cutP cl off (szAgg P t) = some u) :
    ∃ v, (part t ⟨l⟩ off).run P w = .ok v w ∧ vrel G u v := by
  unfold cutP at hu
  split at hu
  · rename_i m hs
    obtain ⟨h1, h2⟩ := part_rel (ag := true) (m := m) (off := off) (u := u) h (by exact hu)
    exact ⟨_, run_part hs h1, h2⟩
  · rename_i m hs
    rw [nthO_eq] at hu
    obtain ⟨h1, h2⟩ := part_rel (ag := false) (m := m) (off := off) (u := u) h (by simpa using hu)
    exact ⟨_, run_part hs h1, h2⟩
  · cases hu

theorem upFrom_eq : ∀ (i n : Nat), upFrom i n = List.range' i n
  | _, 0 => rfl
  | i, n + 1 => by simp [upFrom, List.range'_succ, upFrom_eq (i + 1) n]

theorem eqC_sim : ∀ (d : Nat) (t : TypeId) (x y : CV) (vx vy : Value) (b : Bool) (D : Nat), vrel G x vx → vrel G y vy → eqC P d t x y = some b → d ≤ D →
    (Op.equalIn D t vx vy).run P w = .ok b w
  | 0, t, x, y, vx, vy, b, D, _, _, h, _ => by simp [eqC] at h
  | d + 1, t, x, y, vx, vy, b, D, hx, hy, h, hD => by
    obtain ⟨D, rfl⟩ : ∃ D', D = D' + 1 := ⟨D - 1, by omega⟩
    have hD : d ≤ D := by omega
    simp only [eqC] at h
    split at h
    · cases h
    · rename_i u hu
      split at h <;> (try simp only [vrel] at hx hy)
      · cases h; subst hx; subst hy
        simp [Op.equalIn, run_und hu]
      · split at h
        · rename_i hk
          cases h; subst hx; subst hy
          simp [Op.equalIn, run_und hu, hk]
        · cases h
      · cases h; subst hx; subst hy
        simp [Op.equalIn, run_und hu, beq_mk]
      · cases h; subst hx; subst hy
        simp [Op.equalIn, run_und hu]
      · cases h; subst hx
        obtain ⟨_, _, _, _, rfl⟩ := hy
        simp [Op.equalIn, run_und hu]
      · cases h; subst hy
        obtain ⟨_, _, _, _, rfl⟩ := hx
        simp [Op.equalIn, run_und hu]
      · split at h
        · cases h; subst hx; subst hy
          simp [Op.equalIn, run_und hu]
        · cases h
      · cases h; subst hx
        obtain ⟨_, rfl, _⟩ := hy
        simp [Op.equalIn, run_und hu]
      · cases h; subst hy
        obtain ⟨_, rfl, _⟩ := hx
        simp [Op.equalIn, run_und hu]
      · cases h; subst hx; subst hy
        simp [Op.equalIn, run_und hu]
      · cases h; subst hx
        obtain ⟨_, rfl, _⟩ := hy
        simp [Op.equalIn, run_und hu]
      · cases h; subst hy
        obtain ⟨_, rfl, _⟩ := hx
        simp [Op.equalIn, run_und hu]
      · cases h; subst hx; subst hy
        simp [Op.equalIn, run_und hu]
      · cases h; subst hy
        obtain ⟨_, _, _, _, rfl⟩ := hx
        simp [Op.equalIn, run_und hu]
      · rename_i fs xs ys
        obtain ⟨lx, rfl, _, px⟩ := hx
        obtain ⟨ly, rfl, _, py⟩ := hy
        split at h
        · rename_i hg
          simp only [Bool.or_eq_false_iff] at hg
          have hf : P.fieldsOf t = fs := by simp [Program.fieldsOf, hu]
          rw [run_equalIn_struct w D t ⟨lx⟩ ⟨ly⟩ (by rw [hf]; exact hu) hg.1, hf]
          have : ∀ (L : List Field) (b : Bool), eqAt (eqC P d) (szAgg P) xs ys L = some b → (Op.eqFields D ⟨lx⟩ ⟨ly⟩ L).run P w = .ok b w := by
            intro L
            induction L with
            | nil => intro b h; simp [eqAt] at h; subst h; simp [Op.eqFields]
            | cons fd L ih =>
              intro b h
              simp only [eqAt] at h
              split at h
              · cases h
              · rename_i hn
                have hn : fd.name ≠ "_" := by simpa using hn
                unfold eqTwo at h
                split at h
                · rename_i u v hcu hcv
                  obtain ⟨vu, r1, h1⟩ := cutP_sim (w := w) px hcu
                  obtain ⟨vv, r2, h2⟩ := cutP_sim (w := w) py hcv
                  split at h
                  · rename_i he
                    have := eqC_sim d _ _ _ _ _ _ D h1 h2 he hD
                    simp [Op.eqFields, hn, r1, r2, this, ih b h]
                  · rename_i he
                    have := eqC_sim d _ _ _ _ _ _ D h1 h2 he hD
                    cases h
                    simp [Op.eqFields, hn, r1, r2, this]
                  · cases h
                · cases h
          exact this _ _ h
        · cases h
      · rename_i ln e xs ys
        obtain ⟨lx, rfl, _, px⟩ := hx
        obtain ⟨ly, rfl, _, py⟩ := hy
        split at h
        · rename_i z ag hs
          have hs : szAgg P e = some (z, ag) := by
            split at hs
            · exact hs
            · cases hs
          obtain ⟨inf, dd, hi, hd, rfl, rfl⟩ := szAgg_some hs
          have hc : P.cellsOf e = inf.size := by simp [Program.cellsOf, hi]
          rw [run_equalIn_array w D ⟨lx⟩ ⟨ly⟩ hu hi, hc, List.range_eq_range', ← upFrom_eq]
          have : ∀ (L : List Nat) (b : Bool), eqRow (eqC P d e) inf.size (some (inf.size, isAggD dd)) xs ys L = some b → (Op.eqItems D e inf.size ⟨lx⟩ ⟨ly⟩ L).run P w = .ok b w := by
            intro L
            induction L with
            | nil => intro b h; simp [eqRow] at h; subst h; simp [Op.eqItems]
            | cons j L ih =>
              intro b h
              simp only [eqRow] at h
              unfold eqTwo at h
              split at h
              · rename_i u v hcu hcv
                obtain ⟨vu, r1, h1⟩ := cutP_sim (P := P) (w := w) (t := e) px (by rw [hs]; exact hcu)
                obtain ⟨vv, r2, h2⟩ := cutP_sim (P := P) (w := w) (t := e) py (by rw [hs]; exact hcv)
                split at h
                · rename_i he
                  have := eqC_sim d _ _ _ _ _ _ D h1 h2 he hD
                  simp [Op.eqItems, r1, r2, this, ih b h]
                · rename_i he
                  have := eqC_sim d _ _ _ _ _ _ D h1 h2 he hD
                  cases h
                  simp [Op.eqItems, r1, r2, this]
                · cases h
              · cases h
          exact this _ _ h
        · cases h
      · cases h

theorem run_guardNil {t : TypeId} {ms : Array (String × TypeId)} (d : Nat) (hu : P.underlying t = some (.interface ms)) :
    (Op.eqGuardIn (d + 1) t .nilIface .nilIface).run P w = .ok (!ms.isEmpty) w := by simp [Op.eqGuardIn, run_und hu]
theorem run_guard {op : BinOp} {t : TypeId} {x y : Operand} {vx vy : Value} {cx cy : CV} {b : Bool} (hx : vrel G cx vx) (hy : vrel G cy vy) (h : eqC P 8 t cx cy = some b) :
    (eqGuard op t x y vx vy).run P w = .ok () w := by
  by_cases hop : op = .eql ∨ op = .neq
  · have hop' : (!(match op with | .eql | .neq => true | _ => false)) = false := by rcases hop with rfl | rfl <;> rfl
    simp only [eqC] at h
    split at h
    · cases h
    · rename_i u hu
      split at h <;> (try simp only [vrel] at hx hy)
      all_goals try (subst hx)
      all_goals try (subst hy)
      all_goals try (obtain ⟨_, _, _, _, rfl⟩ := hx)
      all_goals try (obtain ⟨_, _, _, _, rfl⟩ := hy)
      all_goals try (obtain ⟨_, rfl, _⟩ := hx)
      all_goals try (obtain ⟨_, rfl, _⟩ := hy)
      all_goals try (rcases hop with rfl | rfl <;> simp [eqGuard]; done)
      · rename_i ms
        split at h
        · rename_i hms
          have : (Op.eqGuardIn Op.maxDepth t .nilIface .nilIface).run P w = .ok false w := by
            have := run_guardNil (w := w) 9999 hu
            rw [hms] at this
            exact this
          rcases hop with rfl | rfl <;> (simp only [eqGuard]; simp; (try split) <;> simp [this])
        · cases h
      · split at h
        · rename_i hg
          simp only [Bool.or_eq_false_iff] at hg
          exact run_eqGuard_agg w op t x y _ _ hg.2
        · cases h
      · rename_i ln e xs ys _
        have hg : P.eqGuardType P.depth t = false := by
          split at h
          · rename_i z ag hs
            split at hs
            · assumption
            · cases hs
          · cases h
        exact run_eqGuard_agg w op t x y _ _ hg
      · cases h
  · have : (eqGuard op t x y vx vy) = pure () := by
      unfold eqGuard
      cases op <;> first | rfl | (exact absurd (.inl rfl) hop) | (exact absurd (.inr rfl) hop)
    rw [this]
    rfl

theorem run_binEq {op : BinOp} {t : TypeId} {x y : Operand} {vx vy : Value} {cx cy : CV} {b : Bool} (hx : vrel G cx vx) (hy : vrel G cy vy) (h : eqC P 8 t cx cy = some b)
    (hni : ∀ k p k' q, cx = .int k p → cy = .int k' q → False) (hns : ∀ p q, cx = .str p → cy = .str q → False) :
    (eqGuard op t x y vx vy).run P w = .ok () w ∧ (binOp .eql t vx vy).run P w = .ok (.bool b) w ∧ (binOp .neq t vx vy).run P w = .ok (.bool !b) w := by
  have hk : (Op.equal t vx vy).run P w = .ok b w := eqC_sim 8 t _ _ _ _ b Op.maxDepth hx hy h (by decide)
  refine ⟨run_guard hx hy h, ?_⟩
  simp only [eqC] at h
  split at h
  · cases h
  · rename_i u hu
    split at h <;> (try simp only [vrel] at hx hy)
    all_goals try (exact (hni _ _ _ _ rfl rfl).elim)
    all_goals try (exact (hns _ _ rfl rfl).elim)
    all_goals try (subst hx)
    all_goals try (subst hy)
    all_goals try (obtain ⟨_, _, _, _, rfl⟩ := hx)
    all_goals try (obtain ⟨_, _, _, _, rfl⟩ := hy)
    all_goals try (obtain ⟨_, rfl, _⟩ := hx)
    all_goals try (obtain ⟨_, rfl, _⟩ := hy)
    all_goals try (cases h; done)
    all_goals (exact ⟨by simp [binOp, hk], by simp [binOp, hk]⟩)

theorem wrap_small {k : IntKind} {m : Nat} (h : m < 128) : k.wrap (.ofNat m) = .ofNat m := by
  cases k <;> simp only [IntKind.wrap, IntKind.bits, IntKind.signed] <;> simp <;> omega
theorem wrapF_eq (k : IntKind) (m : Int) : wrapF k m = k.wrap m := by
  unfold wrapF
  split
  · rename_i q
    split
    · rename_i h
      exact (wrap_small (by simpa using h)).symm
    · split
      · split
        · rename_i h
          have h : q < 4611686018427387904 := by simpa using h
          simp only [IntKind.wrap, IntKind.bits, IntKind.signed]
          simp
          omega
        · rfl
      · split
        · rename_i h
          have h : q < 256 := by simpa using h
          simp only [IntKind.wrap, IntKind.bits, IntKind.signed]
          simp
          omega
        · rfl
      · rfl
  · rfl

theorem eqGuard_int {op : BinOp} {t : TypeId} {x y : Operand} {k k' : IntKind} {p q : Int} : (eqGuard op t x y (.int k p) (.int k' q)).run P w = .ok () w := by
  cases op <;> rfl
theorem eqGuard_str {op : BinOp} {t : TypeId} {x y : Operand} {p q : ByteArray} : (eqGuard op t x y (.string p) (.string q)).run P w = .ok () w := by
  cases op <;> rfl

theorem sim_bin (r : Rel W G s w) (ha : arel G n a A) {op : BinOp} {t yt : TypeId} {x y : Operand} (ho : o.op = .binOp op t x y yt) (h : exBin P a s op t x y = some res) :
    Ans W G ((execOp A.eval o).run P w) res := by
  unfold exBin at h
  split at h
  · rename_i hnil
    have hy : y = .const (.slice none 0 0) := by
      unfold isNilSlice at hnil
      split at hnil
      · rfl
      · cases hnil
    subst hy
    obtain ⟨v, hv, h⟩ := eval1_some h
    obtain ⟨c, hc, rfl⟩ := cvR_some h
    have h1 := (ha.eval hv).rv
    unfold nilCmp at hc
    split at hc
    · rename_i r0 rest e hcv ht
      rw [hcv] at h1
      simp only [vrel] at h1
      obtain ⟨ad, cap, h3, _, h4⟩ := h1
      rcases h4 with h4 | ⟨b, off, _, _, h4, _⟩
      · cases h4
      · subst h4
        have hk : ∀ len, (Op.equal t (.slice (some ⟨b, off, none⟩) len cap) (.slice none 0 0)).run P w = .ok false w := by
          intro len
          have : ∀ d, (Op.equalIn (d + 1) t (.slice (some ⟨b, off, none⟩) len cap) (.slice none 0 0)).run P w = .ok false w := fun d => by simp [Op.equalIn, run_und ht]
          exact this 9999
        have hev : A.eval (.const (.slice none 0 0)) = .slice none 0 0 := rfl
        split at hc
        · cases hc
          exact Ans.val r (v := .bool false) (by simp [execOp, ho, h3, hev, eqGuard, binOp, hk]) (plain_rel (by simp [vrel]))
        · cases hc
          exact Ans.val r (v := .bool true) (by simp [execOp, ho, h3, hev, eqGuard, binOp, hk]) (plain_rel (by simp [vrel]))
        · cases hc
    · cases hc
  obtain ⟨v, u, hv, hu, h⟩ := eval2_some h
  obtain ⟨c, hc, rfl⟩ := cvR_some h
  have h1 := (ha.eval hv).rv
  have h2 := (ha.eval hu).rv
  have hexec : (execOp A.eval o).run P w = ((eqGuard op t x y (A.eval x) (A.eval y)).run P w).andThen fun _ w' => ((binOp op t (A.eval x) (A.eval y)).run P w').andThen fun v w'' => .ok (.value v) w'' := by
    simp [execOp, ho]
  suffices hs : ∃ z, (eqGuard op t x y (A.eval x) (A.eval y)).run P w = .ok () w ∧ (binOp op t (A.eval x) (A.eval y)).run P w = .ok z w ∧ vrel G c z by
    obtain ⟨z, e1, e2, e3⟩ := hs
    exact Ans.val r (v := z) (by rw [hexec, e1]; simp [e2]) (plain_rel e3)
  clear hexec h
  unfold binC at hc
  split at hc
  · rename_i k p k' q hp hq
    rw [hp] at h1
    rw [hq] at h2
    simp only [vrel] at h1 h2
    rw [h1, h2]
    refine (fun (hs : ∃ z, (binOp op t (.int k p) (.int k' q)).run P w = .ok z w ∧ vrel G c z) => ?_) ?_
    · obtain ⟨z, e1, e2⟩ := hs
      exact ⟨z, eqGuard_int, e1, e2⟩
    · split at hc
      · split at hc
        · cases hc
        · rename_i hn
          cases hc
          exact ⟨_, by simp [binOp, Op.shift, hn]; rfl, by simp [vrel]⟩
      · split at hc
        · cases hc
        · rename_i hn
          cases hc
          exact ⟨_, by simp [binOp, Op.shift, hn]; rfl, by simp [vrel]⟩
      · rename_i hshl hshr
        split at hc
        · rename_i hk
          have hk := kindEq_eq hk
          subst hk
          unfold intOp at hc
          split at hc
          · cases hc; exact ⟨.int k (k.wrap (p + q)), by simp [binOp, Op.intArith], by simp [vrel, wrapF_eq]⟩
          · cases hc; exact ⟨.int k (k.wrap (p - q)), by simp [binOp, Op.intArith], by simp [vrel, wrapF_eq]⟩
          · cases hc; exact ⟨.int k (k.wrap (p * q)), by simp [binOp, Op.intArith], by simp [vrel, wrapF_eq]⟩
          · split at hc
            · cases hc
            · rename_i hq0; cases hc; exact ⟨_, by simp [binOp, Op.intDiv, hq0]; rfl, by simp [vrel]⟩
          · split at hc
            · cases hc
            · rename_i hq0; cases hc; exact ⟨_, by simp [binOp, Op.intDiv, hq0]; rfl, by simp [vrel]⟩
          · cases hc; exact ⟨_, by simp [binOp, Op.intBits]; rfl, by simp [vrel, bits2]⟩
          · cases hc; exact ⟨_, by simp [binOp, Op.intBits]; rfl, by simp [vrel, bits2]⟩
          · cases hc; exact ⟨_, by simp [binOp, Op.intBits]; rfl, by simp [vrel, bits2]⟩
          · cases hc; exact ⟨_, by simp [binOp, Op.intBits]; rfl, by simp [vrel, bits2]⟩
          · cases hc; exact ⟨.bool (p == q), by simp [binOp, Op.intCmp], by simp [vrel, intEq_eq]⟩
          · cases hc; exact ⟨.bool (p != q), by simp [binOp, Op.intCmp], by simp [vrel, intEq_eq, bne]⟩
          · cases hc; exact ⟨.bool (p < q), by simp [binOp, Op.intCmp], by simp [vrel, intLt_eq]⟩
          · cases hc; exact ⟨.bool (p ≤ q), by simp [binOp, Op.intCmp], by simp [vrel, intLe_eq]⟩
          · cases hc; exact ⟨.bool (p > q), by simp [binOp, Op.intCmp], by simp [vrel, intLt_eq]⟩
          · cases hc; exact ⟨.bool (p ≥ q), by simp [binOp, Op.intCmp], by simp [vrel, intLe_eq]⟩
          · cases hc
        · cases hc
  · rename_i p q hp hq
    rw [hp] at h1
    rw [hq] at h2
    simp only [vrel] at h1 h2
    rw [h1, h2]
    refine (fun (hs : ∃ z, (binOp op t (.string ⟨⟨p⟩⟩) (.string ⟨⟨q⟩⟩)).run P w = .ok z w ∧ vrel G c z) => ?_) ?_
    · obtain ⟨z, e1, e2⟩ := hs
      exact ⟨z, eqGuard_str, e1, e2⟩
    · unfold strOp at hc
      split at hc
      · split at hc
        · rename_i hle
          cases hc
          refine ⟨.string (⟨⟨p⟩⟩ ++ ⟨⟨q⟩⟩), ?_, ?_⟩
          · have hsz : ¬ (((⟨⟨p⟩⟩ : ByteArray).size + (⟨⟨q⟩⟩ : ByteArray).size : Nat) : Int) > IntKind.i64.max := by
              have e1 : (⟨⟨p⟩⟩ : ByteArray).size = p.length := rfl
              have e2 : (⟨⟨q⟩⟩ : ByteArray).size = q.length := rfl
              rw [e1, e2]
              have : IntKind.i64.max = 9223372036854775807 := by decide
              rw [this]
              omega
            simp only [binOp, Op.stringOp, hsz, if_false, Sem.run_pure]
          · simp only [vrel]
            have : ((⟨⟨p⟩⟩ : ByteArray) ++ ⟨⟨q⟩⟩) = ⟨⟨p ++ q⟩⟩ := ByteArray.ext (Array.ext' (by simp))
            rw [this]
        · cases hc
      · cases hc; exact ⟨.bool (p == q), by simp [binOp, Op.stringOp], by simp [vrel, bytesEq_eq]⟩
      · cases hc; exact ⟨.bool !(p == q), by simp [binOp, Op.stringOp], by simp [vrel, bytesEq_eq]⟩
      · cases hc; exact ⟨.bool (Op.bytesLess p q), by simp [binOp, Op.stringOp], by simp [vrel, bytesLess_eq]⟩
      · cases hc; exact ⟨.bool (Op.bytesLess p q || p == q), by simp [binOp, Op.stringOp], by simp [vrel, bytesLess_eq, bytesEq_eq]⟩
      · cases hc; exact ⟨.bool !(Op.bytesLess p q || p == q), by simp [binOp, Op.stringOp], by simp [vrel, bytesLess_eq, bytesEq_eq]⟩
      · cases hc; exact ⟨.bool !(Op.bytesLess p q), by simp [binOp, Op.stringOp], by simp [vrel, bytesLess_eq]⟩
      · cases hc
  · rename_i hni hns
    have hb : ∀ {b}, eqC P 8 t v.v u.v = some b → _ := fun h => run_binEq (w := w) (x := x) (y := y) (op := op) h1 h2 h hni hns
    split at hc
    · simp only [Option.map_eq_some_iff] at hc
      obtain ⟨b, hb', rfl⟩ := hc
      obtain ⟨e1, e2, e3⟩ := hb hb'
      exact ⟨.bool b, e1, e2, by simp [vrel]⟩
    · simp only [Option.map_eq_some_iff] at hc
      obtain ⟨b, hb', rfl⟩ := hc
      obtain ⟨e1, e2, e3⟩ := hb hb'
      exact ⟨.bool !b, e1, e3, by simp [vrel]⟩
    · cases hc
end Go.CE
