/- The closed facts as checks; calls that are known; calls of plain data serve in every state; a function whose first question is open; the call in every world. Conditions: the closed facts. -/
import Derived.Test.YtnaobokbalfhkaaGreatDoorA8
import Derived.RowKit3
namespace Go.CE
variable {P : Program}

/-! the closed facts, each a check -/
def dstFit (n : Nat) (o : Oper) : Bool := match o.dst with | some d => Nat.blt d n | none => true
def opsFitB (n : Nat) : List Oper → Bool
  | [] => true
  | o :: r => dstFit n o && opsFitB n r
def codeFitB (n : Nat) : Code → Bool
  | .region _ ops _ => opsFitB n ops.toList
  | .seq x y => codeFitB n x && codeFitB n y
  | .cond _ x y => codeFitB n x && codeFitB n y
  | .block _ b => codeFitB n b
  | .loop b => codeFitB n b
  | .scope b => codeFitB n b
  | _ => true
theorem opsFitB_fit {n : Nat} : ∀ {l : List Oper}, opsFitB n l = true → opsFit n l
  | [], _ => fun o h => by simp at h
  | o :: r, h => by
    simp only [opsFitB, Bool.and_eq_true] at h
    intro o' ho' d hd
    rcases List.mem_cons.1 ho' with rfl | ho'
    · have := h.1
      simp only [dstFit, hd] at this
      rwa [Nat.blt_eq] at this
    · exact opsFitB_fit h.2 o' ho' d hd
theorem codeFitB_fit {n : Nat} : ∀ {c : Code}, codeFitB n c = true → codeFit n c
  | .region _ ops _, h => opsFitB_fit h
  | .seq x y, h => by simp only [codeFitB, Bool.and_eq_true] at h; exact ⟨codeFitB_fit h.1, codeFitB_fit h.2⟩
  | .cond _ x y, h => by simp only [codeFitB, Bool.and_eq_true] at h; exact ⟨codeFitB_fit h.1, codeFitB_fit h.2⟩
  | .block _ b, h => codeFitB_fit (c := b) h
  | .loop b, h => codeFitB_fit (c := b) h
  | .scope b, h => codeFitB_fit (c := b) h
  | .skip, _ => trivial
  | .label _, _ => trivial
  | .exit _, _ => trivial
  | .goto _, _ => trivial
  | .ret, _ => trivial
  | .refuse _, _ => trivial
  | .rangeFunc _ _ _ _, _ => trivial
def fnOk (od : List (Nat × Tab)) (fn : Func) : Bool :=
  match fn.body with
  | some c => !(fn.name == "runtime.NumGoroutine") && codeFitB fn.ntmps c && drawsOk od c
  | none => true
def fnsOk (od : FuncId → List (Nat × Tab)) : Nat → List Func → Bool
  | _, [] => true
  | i, fn :: r => fnOk (od i) fn && fnsOk od (i + 1) r
theorem fnsOk_at {od : FuncId → List (Nat × Tab)} : ∀ {l : List Func} {i j : Nat} {fn : Func}, fnsOk od i l = true → l[j]? = some fn → fnOk (od (i + j)) fn = true
  | [], _, _, _, _, h => by simp at h
  | fn :: r, i, 0, fn', h, h' => by
    simp only [fnsOk, Bool.and_eq_true] at h
    simp only [List.getElem?_cons_zero, Option.some.injEq] at h'
    subst h'
    exact h.1
  | fn :: r, i, j + 1, fn', h, h' => by
    simp only [fnsOk, Bool.and_eq_true] at h
    have := fnsOk_at h.2 (by simpa using h')
    rwa [show i + (j + 1) = i + 1 + j by omega]
/-- so many of a row -/
def someN {α : Type} : List α → Nat → List α
  | _, 0 => []
  | [], _ + 1 => []
  | x :: l, n + 1 => x :: someN l n
/-- in parts: the first m, then the rest -/
theorem fnsOk_split {od : FuncId → List (Nat × Tab)} : ∀ {m : Nat} {l : List Func} {i : Nat}, fnsOk od i (someN l m) = true → fnsOk od (i + m) (dropN l m) = true → fnsOk od i l = true
  | 0, l, i, _, h => by simpa [dropN] using h
  | m + 1, [], i, _, _ => rfl
  | m + 1, fn :: r, i, h1, h2 => by
    simp only [someN, fnsOk, Bool.and_eq_true] at h1
    simp only [dropN] at h2
    simp only [fnsOk, Bool.and_eq_true]
    exact ⟨h1.1, fnsOk_split h1.2 (by rwa [show i + 1 + m = i + (m + 1) by omega])⟩
theorem drawsOk_nil : ∀ (c : Code), drawsOk [] c = true
  | .region id ops true => by simp [drawsOk, look]
  | .region id ops false => by simp [drawsOk]
  | .seq x y => by simp [drawsOk, drawsOk_nil x, drawsOk_nil y]
  | .cond _ x y => by simp [drawsOk, drawsOk_nil x, drawsOk_nil y]
  | .block _ b => by simp [drawsOk, drawsOk_nil b]
  | .loop b => by simp [drawsOk, drawsOk_nil b]
  | .scope b => by simp [drawsOk, drawsOk_nil b]
  | .skip => rfl
  | .label _ => rfl
  | .exit _ => rfl
  | .goto _ => rfl
  | .ret => rfl
  | .refuse _ => rfl
  | .rangeFunc _ _ _ _ => rfl

/-- what is said of the functions that are not run by their text -/
structure PrimFit (P : Program) (O : Opts) : Prop where
  idx : ∀ f, O.prim f = 1 → IndexFit P f
  cln : ∀ f, O.prim f = 2 → ∃ fn c, P.funcs[f]? = some fn ∧ fn.body = some c ∧ ∀ sh s b, cloneRun P fn b (start [⟨.slice [], sh⟩]) s fn.body = some s
  rc : ∀ f k args s cr s', O.prim f = k + 3 → O.rc (k + 3) args s = some (cr, s') → ∀ W G w (vargs : Array Value), Rel W G s w → tvrels G args vargs.toList → InvOk P W G cr s' ((callFunc f vargs).run P w)
theorem fit_of {O : Opts} (hm : P.follows .mixedOrders = true) (hfn : fnsOk O.od 0 P.funcs.toList = true) (hp : PrimFit P O) : Fit P O := by
  have hZ : ZeroOk P := trivial
  have hall : ∀ {f : FuncId} {fn : Func} {c : Code}, P.funcs[f]? = some fn → fn.body = some c → (fn.name == "runtime.NumGoroutine") = false ∧ codeFit fn.ntmps c ∧ drawsOk (O.od f) c = true := by
    intro f fn c hf hb
    have h := fnsOk_at (j := f) (fn := fn) hfn (by simpa using hf)
    simp only [Nat.zero_add, fnOk, hb, Bool.and_eq_true, Bool.not_eq_true'] at h
    exact ⟨h.1.1, codeFitB_fit h.1.2, h.2⟩
  refine ⟨hm, hZ, fun f fn c hf hb => (hall hf hb).1, fun f fn c hf hb => (hall hf hb).2.1, fun f fn c hf hb => (hall hf hb).2.2, drawSim hZ, hedgeSim hZ, ?_⟩
  intro f k args s cr s' hk h W G w vargs hr hx
  have hk2 : k = 0 ∨ k = 1 ∨ 2 ≤ k := by omega
  unfold primR at h
  rcases hk2 with rfl | rfl | hk2
  · exact index_ok (hp.idx f hk) h vargs hr hx
  · obtain ⟨fn, c, hf, hb, hrun⟩ := hp.cln f hk
    have h : primC 2 args s = some (cr, s') := h
    match args, h, hx with
    | [], h, _ => simp [primC] at h
    | x :: y :: l, h, _ => cases l <;> simp [primC] at h
    | [x], h, hx =>
      have h : (match x.v with | .slice [] => some (CRes.ret ⟨.slice [], [.full]⟩, s) | _ => none) = some (cr, s') := h
      split at h
      · rename_i hcv
        cases h
        have ex : x = ⟨.slice [], x.sh⟩ := by rw [← hcv]
        exact clone_ok hm hZ hf hb (hall hf hb).1 (hall hf hb).2.1 (drawsOk_nil c) (fun b => by rw [ex]; exact hrun x.sh _ b) hr hx
      · cases h
  · obtain ⟨j, rfl⟩ : ∃ j, k = j + 2 := ⟨k - 2, by omega⟩
    have hble : Nat.ble (j + 2 + 1) 2 = false := by
      cases hb : Nat.ble (j + 2 + 1) 2 with
      | false => rfl
      | true => rw [Nat.ble_eq] at hb; omega
    rw [hble] at h
    exact hp.rc f j args s cr s' hk h W G w vargs hr hx

/-- what is known of a call -/
def RecOk (P : Program) (r : Rec) : Prop :=
  ∀ W G w (vargs : Array Value), Rel W G r.s w → tvrels G r.args vargs.toList → InvOk P W G r.cr r.s' ((callFunc r.f vargs).run P w)
theorem tvsEq_eq : ∀ {x y : List TV}, tvsEq x y = true → x = y
  | [], [], _ => rfl
  | [], _ :: _, h => by simp [tvsEq] at h
  | _ :: _, [], h => by simp [tvsEq] at h
  | a :: x, b :: y, h => by
    simp only [tvsEq, Bool.and_eq_true] at h
    rw [tvEq_eq h.1, tvsEq_eq h.2]
theorem crEq_eq {x y : CRes} (h : crEq x y = true) : x = y := by
  cases x <;> cases y <;> simp only [crEq] at h <;> first | (cases h; done) | rw [tvEq_eq h] | rw [cvEq_eq h]
theorem rec_of_run {O : Opts} (F : Fit P O) {r : Rec} {k : Nat} (h : resEq r (callF P O k r.f r.args r.s) = true) : RecOk P r := by
  unfold resEq at h
  split at h
  · rename_i c t hc
    simp only [Bool.and_eq_true] at h
    rw [crEq_eq h.1, stEq_eq h.2] at hc
    intro W G w vargs hr hx
    exact (call_ok F k).1 W r.f r.args r.s r.cr r.s' hc G w vargs hr hx
  · cases h
theorem useRec_ok {f : FuncId} {args : List TV} {s : St} {cr : CRes} {s' : St} : ∀ {l : List Rec}, (∀ r ∈ l, r.f = f ∧ RecOk P r) → useRec args s l = some (cr, s') →
    ∀ W G w (vargs : Array Value), Rel W G s w → tvrels G args vargs.toList → InvOk P W G cr s' ((callFunc f vargs).run P w)
  | [], _, h => by simp [useRec] at h
  | r :: l, hl, h => by
    simp only [useRec] at h
    split at h
    · rename_i he
      simp only [Bool.and_eq_true] at he
      cases h
      have e1 := tvsEq_eq he.1
      have e2 := stEq_eq he.2
      subst e1; subst e2
      have := hl r (by simp)
      rw [← this.1]
      exact this.2
    · exact useRec_ok (fun r hr => hl r (by simp [hr])) h
end Go.CE

namespace Go.CE
variable {P : Program}

/-! a call that is handed plain data and gives plain data, in an empty state: it serves in every state -/
def pureCV : CV → Bool
  | .bool _ => true
  | .int _ _ => true
  | .str _ => true
  | .nilptr => true
  | .nilmap => true
  | .nilFunc => true
  | .nilIface => true
  | _ => false
def noShs : List Sh → Bool
  | [] => true
  | .no :: r => noShs r
  | _ => false
def pureTV (x : TV) : Bool := pureCV x.v && noShs x.sh
def pureTVs : List TV → Bool
  | [] => true
  | x :: r => pureTV x && pureTVs r
theorem pureCV_rel {G G' : Ghost} {c : CV} {v : Value} (h : pureCV c = true) (hr : vrel G c v) : vrel G' c v := by
  cases c <;> simp only [pureCV] at h <;> first | (cases h; done) | (simp only [vrel] at hr ⊢; exact hr)
theorem noShs_rel {G' : Ghost} : ∀ {hs : List Sh} {l : List Value}, noShs hs = true → hrel G' hs l
  | [], _, _ => by simp [hrel]
  | .no :: _, [], _ => by simp [hrel]
  | .no :: r, _ :: _, h => ⟨trivial, noShs_rel (hs := r) h⟩
  | .full :: _, _, h => by simp [noShs] at h
  | .tok _ _ :: _, _, h => by simp [noShs] at h
theorem pureTV_rel {G G' : Ghost} {x : TV} {v : Value} (h : pureTV x = true) (hr : tvrel G x v) : tvrel G' x v := by
  simp only [pureTV, Bool.and_eq_true] at h
  refine .noSlice (pureCV_rel h.1 hr.rv) (noShs_rel h.2) ?_
  intro rows e
  rw [e] at h
  simp [pureCV] at h
theorem pureTVs_rel {G G' : Ghost} : ∀ {xs : List TV} {l : List Value}, pureTVs xs = true → tvrels G xs l → tvrels G' xs l
  | [], _, _, h => h
  | x :: r, _, hp, ⟨v, t, h1, h2, h3⟩ => by
    simp only [pureTVs, Bool.and_eq_true] at hp
    exact ⟨v, t, h1, pureTV_rel hp.1 h2, pureTVs_rel hp.2 h3⟩

def St.none : St := ⟨[], 0, [], 0⟩
def Ghost.none : Ghost := ⟨fun _ => .none, fun _ => .none, fun _ _ => .none⟩
/-- all there is is held -/
def Frm.all (w : World) : Frm := ⟨w, fun b => (w.heap[b]?).map (·, true)⟩
theorem Rel.start (w : World) : Rel (Frm.all w) Ghost.none St.none w where
  box := fun i x h => by simp [St.none, look] at h
  fr := fun b l h => by cases h
  tok := fun i e z h => by simp [St.none, look] at h
  bxlt := fun i b z m h => by cases h
  apart := fun i x b z m h => by simp [St.none, look] at h
  inj := fun i j x y b z m z' m' h => by simp [St.none, look] at h
  tkle := fun i e b n m z h => by cases h
  tkinj := fun i j e e' z z' b n m n' m' h => by simp [St.none, look] at h
  nt := trivial
  nb := trivial
  hid := fun _ _ _ => rfl
  size := Nat.le_refl _
  old := fun b x h => by
    simp only [Frm.all, Option.map_eq_some_iff] at h
    obtain ⟨o, h1, rfl⟩ := h
    exact h1
  new := fun b c t f h k => by
    simp only [Frm.all, Option.map_eq_none_iff] at h
    rw [h] at k
    cases k
  os := rfl
  out := rfl
/-- behind it all is as it was -/
theorem Rel.back {W : Frm} {G G' : Ghost} {s s1 : St} {w w' : World} (r : Rel W G s w) (q : Rel (Frm.all w) G' s1 w') : Rel W G s w' := by
  have same : ∀ b, b < w.heap.size → w'.heap[b]? = w.heap[b]? := by
    intro b hb
    have h1 : w.heap[b]? = some w.heap[b] := by simp [hb]
    have := q.old b (w.heap[b], true) (by simp [Frm.all, h1])
    rw [this, h1]
  have obj : ∀ {b o}, w.heap[b]? = some o → w'.heap[b]? = some o := fun h => by rw [same _ (lt_of_obj h)]; exact h
  have hsz : w.heap.size ≤ w'.heap.size := q.size
  refine ⟨?_, ?_, ?_, ?_, r.apart, r.inj, r.tkle, r.tkinj, r.nt, r.nb, r.hid, Nat.le_trans r.size hsz, ?_, ?_, q.os.trans r.os, q.out.trans r.out⟩
  · intro i x h
    obtain ⟨b, z, m, h1, h2⟩ := r.box i x h
    exact ⟨b, z, m, h1, by rw [same b (r.bxlt _ _ _ _ h1).2.1]; exact h2⟩
  · intro b l h
    obtain ⟨c, t, h1, h2⟩ := r.fr b l h
    exact ⟨c, t, obj h1, h2⟩
  · intro i e z h
    obtain ⟨b, n, m, l, c, t, h1, h2, h3, h4, h5⟩ := r.tok i e z h
    exact ⟨b, n, m, l, c, t, h1, h2, h3, obj h4, h5⟩
  · intro i b z m h
    have := r.bxlt i b z m h
    exact ⟨this.1, by omega, this.2.2⟩
  · intro b x h
    exact obj (r.old b x h)
  · intro b c t f h k
    rcases Nat.lt_or_ge b w.heap.size with e | e
    · rw [same b e] at k
      exact r.new b c t f h k
    · refine q.new b c t f ?_ k
      simp [Frm.all, Array.getElem?_eq_none e]

/-- plain data in, plain data out -/
structure Iso where
  f : FuncId
  args : List TV
  r : TV
def IsoOk (P : Program) (i : Iso) : Prop :=
  ∀ W G s w (vargs : Array Value), Rel W G s w → tvrels G i.args vargs.toList → InvOk P W G (.ret i.r) s ((callFunc i.f vargs).run P w)
theorem iso_of_run {O : Opts} (F : Fit P O) {i : Iso} {k : Nat} {s1 : St} (h : callF P O k i.f i.args St.none = some (.ret i.r, s1)) (ha : pureTVs i.args = true) (hr : pureTV i.r = true) : IsoOk P i := by
  intro W G s w vargs r hx
  have hcall := (call_ok F k).1 (Frm.all w) i.f i.args St.none (.ret i.r) s1 h Ghost.none w vargs (Rel.start w) (pureTVs_rel ha hx)
  rcases hcall with ⟨x, e, G', w', v, _, h2, h3, h4⟩ | ⟨g, args, w1, h1, h2⟩
  · cases e
    exact .inl ⟨_, rfl, G, w', v, G.le_refl, r.back h2, h3, pureTV_rel hr h4⟩
  · refine .inr ⟨g, args, w1, h1, Calls.mono h2 ?_⟩
    intro e w' he
    cases e with
    | returned v =>
      obtain ⟨G', _, q2, x, e, q3⟩ := he
      cases e
      exact ⟨G, G.le_refl, r.back q2, _, rfl, pureTV_rel hr q3⟩
    | panicked c =>
      obtain ⟨G', _, _, c, v, e, _⟩ := he
      cases e
    | outgrown => exact he.elim
def isoEq (i : Iso) : Option (CRes × St) → Bool
  | some (.ret x, _) => tvEq x i.r && pureTV i.r && pureTVs i.args
  | _ => false
theorem iso_of_eq {O : Opts} (F : Fit P O) {i : Iso} {k : Nat} (h : isoEq i (callF P O k i.f i.args St.none) = true) : IsoOk P i := by
  unfold isoEq at h
  split at h
  · rename_i x s1 hc
    simp only [Bool.and_eq_true] at h
    rw [tvEq_eq h.1.1] at hc
    exact iso_of_run F hc h.2 h.1.2
  · cases h
def useIso (args : List TV) (s : St) : List Iso → Option (CRes × St)
  | [] => none
  | i :: l => match tvsEq args i.args with
    | true => some (.ret i.r, s)
    | false => useIso args s l
theorem useIso_ok {f : FuncId} {args : List TV} {s : St} {cr : CRes} {s' : St} : ∀ {l : List Iso}, (∀ i ∈ l, i.f = f ∧ IsoOk P i) → useIso args s l = some (cr, s') →
    ∀ W G w (vargs : Array Value), Rel W G s w → tvrels G args vargs.toList → InvOk P W G cr s' ((callFunc f vargs).run P w)
  | [], _, h => by simp [useIso] at h
  | i :: l, hl, h => by
    simp only [useIso] at h
    split at h
    · rename_i he
      cases h
      have e1 := tvsEq_eq he
      subst e1
      have := hl i (by simp)
      rw [← this.1]
      exact fun W G w vargs => this.2 W G _ w vargs
    · exact useIso_ok (fun r hr => hl r (by simp [hr])) h
end Go.CE

namespace Go.CE
variable {P : Program}

/-! a run that leans on calls that are known -/
def primOf (base : FuncId → Nat) (l : List (Nat × List Rec)) (is : List (Nat × List Iso)) (f : FuncId) : Nat :=
  match look l f with
  | some _ => f + 3
  | none => match look is f with
    | some _ => f + 3
    | none => base f
def rcOf (l : List (Nat × List Rec)) (is : List (Nat × List Iso)) (k : Nat) (args : List TV) (s : St) : Option (CRes × St) :=
  match look l (k - 3) with
  | some rs => useRec args s rs
  | none => match look is (k - 3) with
    | some rs => useIso args s rs
    | none => none
structure Base where
  prim : FuncId → Nat
  mt : FuncId → Bool
  keep : FuncId → Bool
  od : FuncId → List (Nat × Tab)
def Base.opts (b : Base) (l : List (Nat × List Rec)) (is : List (Nat × List Iso)) : Opts := { prim := primOf b.prim l is, mt := b.mt, keep := b.keep, od := b.od, rc := rcOf l is }
/-- what the runs lean on, of the program -/
structure BaseFit (P : Program) (b : Base) : Prop where
  mixed : P.follows .mixedOrders = true
  fns : fnsOk b.od 0 P.funcs.toList = true
  idx : ∀ f, b.prim f = 1 → IndexFit P f
  cln : ∀ f, b.prim f = 2 → ∃ fn c, P.funcs[f]? = some fn ∧ fn.body = some c ∧ ∀ sh s b, cloneRun P fn b (start [⟨.slice [], sh⟩]) s fn.body = some s
  few : ∀ f, b.prim f ≤ 2
def RecsOk (P : Program) (l : List (Nat × List Rec)) : Prop := ∀ f rs, (f, rs) ∈ l → ∀ r ∈ rs, r.f = f ∧ RecOk P r
def IsosOk (P : Program) (l : List (Nat × List Iso)) : Prop := ∀ f rs, (f, rs) ∈ l → ∀ r ∈ rs, r.f = f ∧ IsoOk P r
theorem look_mem {α : Type} : ∀ {l : List (Nat × α)} {i : Nat} {x : α}, look l i = some x → (i, x) ∈ l
  | [], _, _, h => by simp [look] at h
  | (j, y) :: l, i, x, h => by
    simp only [look] at h
    split at h
    · rename_i hb
      cases h
      rw [Nat.eq_of_beq_eq_true hb]
      simp
    · exact List.mem_cons_of_mem _ (look_mem h)
theorem Base.fit {b : Base} (B : BaseFit P b) {l : List (Nat × List Rec)} {is : List (Nat × List Iso)} (hl : RecsOk P l) (hi : IsosOk P is) : Fit P (b.opts l is) := by
  have hprim : ∀ f k, primOf b.prim l is f = k → (∃ rs, look l f = some rs ∧ k = f + 3) ∨ (look l f = none ∧ ∃ rs, look is f = some rs ∧ k = f + 3) ∨ b.prim f = k := by
    intro f k h
    unfold primOf at h
    cases hl : look l f with
    | some rs => rw [hl] at h; exact .inl ⟨rs, rfl, h.symm⟩
    | none =>
      rw [hl] at h
      simp only at h
      cases hi : look is f with
      | some rs => rw [hi] at h; exact .inr (.inl ⟨rfl, rs, rfl, h.symm⟩)
      | none => rw [hi] at h; exact .inr (.inr h)
  refine fit_of B.mixed B.fns ⟨?_, ?_, ?_⟩
  · intro f h
    rcases hprim f 1 h with ⟨rs, _, h2⟩ | ⟨_, rs, _, h2⟩ | h2
    · omega
    · omega
    · exact B.idx f h2
  · intro f h
    rcases hprim f 2 h with ⟨rs, _, h2⟩ | ⟨_, rs, _, h2⟩ | h2
    · omega
    · omega
    · exact B.cln f h2
  · intro f k args s cr s' h hrc
    have hrc : rcOf l is (k + 3) args s = some (cr, s') := hrc
    unfold rcOf at hrc
    rw [Nat.add_sub_cancel] at hrc
    rcases hprim f (k + 3) h with ⟨rs, h1, h2⟩ | ⟨h0, rs, h1, h2⟩ | h2
    · have : k = f := by omega
      subst this
      rw [h1] at hrc
      exact useRec_ok (hl k rs (look_mem h1)) hrc
    · have : k = f := by omega
      subst this
      rw [h0] at hrc
      simp only [h1] at hrc
      exact useIso_ok (hi k rs (look_mem h1)) hrc
    · have := B.few f
      omega
/-- a record is shown by a run -/
theorem Base.known {b : Base} (B : BaseFit P b) {l : List (Nat × List Rec)} {is : List (Nat × List Iso)} (hl : RecsOk P l) (hi : IsosOk P is) {r : Rec} {k : Nat} (h : resEq r (callF P (b.opts l is) k r.f r.args r.s) = true) : RecOk P r :=
  rec_of_run (Base.fit B hl hi) h
theorem Base.iso {b : Base} (B : BaseFit P b) {l : List (Nat × List Rec)} {is : List (Nat × List Iso)} (hl : RecsOk P l) (hi : IsosOk P is) {i : Iso} {k : Nat} (h : isoEq i (callF P (b.opts l is) k i.f i.args St.none) = true) : IsoOk P i :=
  iso_of_eq (Base.fit B hl hi) h
theorem isos_nil : IsosOk P [] := fun _ _ h => by simp at h
theorem isos_one {f : Nat} {i : Iso} {l : List (Nat × List Iso)} (hf : i.f = f) (h : IsoOk P i) (hl : IsosOk P l) : IsosOk P ((f, [i]) :: l) := by
  intro g ss hm
  rcases List.mem_cons.1 hm with hm | hm
  · cases hm
    intro r hr
    rw [List.mem_singleton.1 hr]
    exact ⟨hf, h⟩
  · exact hl g ss hm
theorem recs_nil : RecsOk P [] := fun _ _ h => by simp at h
theorem recs_cons {f : Nat} {rs : List Rec} {l : List (Nat × List Rec)} (h : ∀ r ∈ rs, r.f = f ∧ RecOk P r) (hl : RecsOk P l) : RecsOk P ((f, rs) :: l) := by
  intro g ss hm
  rcases List.mem_cons.1 hm with hm | hm
  · cases hm
    exact h
  · exact hl g ss hm
theorem recs_one {f : Nat} {r : Rec} {l : List (Nat × List Rec)} (hf : r.f = f) (h : RecOk P r) (hl : RecsOk P l) : RecsOk P ((f, [r]) :: l) :=
  recs_cons (fun r' hr' => by rw [List.mem_singleton.1 hr']; exact ⟨hf, h⟩) hl
end Go.CE

namespace Go.CE
variable {P : Program}

/-! a function whose first question hangs on what is not known: two runs -/
def forkParts : Code → Option ((Code × Code) × (Operand × Code × Code × Code))
  | .seq (.region i o false) (.seq (.seq (.region j p false) (.cond c x y)) z) => some ((.region i o false, .region j p false), (c, x, y, z))
  | _ => none
def forkCond (P : Program) (mt : Bool) (od : List (Nat × Tab)) (call : CallF) (n : Nat) (c : Code) (a : CAct) (s : St) : Option TV :=
  match forkParts c with
  | some ((r0, r1), (cc, _)) => match runCode P mt od call n r0 a s with
    | some (.normal, a1, s1) => match runCode P mt od call n r1 a1 s1 with
      | some (.normal, a2, _) => a2.eval cc
      | _ => none
    | _ => none
  | none => none
def forkRun (P : Program) (mt : Bool) (od : List (Nat × Tab)) (call : CallF) (n : Nat) (b : Bool) (c : Code) (a : CAct) (s : St) : CodeR :=
  match forkParts c with
  | some ((r0, r1), (_, x, y, z)) => match runCode P mt od call n r0 a s with
    | some (.normal, a1, s1) => match runCode P mt od call n r1 a1 s1 with
      | some (.normal, a2, s2) => thenC (runCode P mt od call n z) (match b with | true => runCode P mt od call n x a2 s2 | false => runCode P mt od call n y a2 s2)
      | _ => none
    | _ => none
  | none => none
theorem fork_eq {mt : Bool} {od : List (Nat × Tab)} {call : CallF} {n : Nat} {b : Bool} {c : Code} {a : CAct} {s : St} {v : TV}
    (h : forkCond P mt od call n c a s = some v) (hv : v.v = .bool b) : runCode P mt od call n c a s = forkRun P mt od call n b c a s := by
  unfold forkCond at h
  unfold forkRun
  split at h
  · rename_i r0 r1 cc rest hp
    obtain ⟨x, y, z⟩ := rest
    rw [hp]
    simp only
    have hc : ∃ i o j p, r0 = .region i o false ∧ r1 = .region j p false ∧ c = .seq r0 (.seq (.seq r1 (.cond cc x y)) z) := by
      unfold forkParts at hp
      split at hp
      · rename_i i o j p c' x' y' z'
        simp only [Option.some.injEq, Prod.mk.injEq] at hp
        obtain ⟨⟨rfl, rfl⟩, rfl, rfl, rfl, rfl⟩ := hp
        exact ⟨i, o, j, p, rfl, rfl, rfl⟩
      · cases hp
    obtain ⟨i, o, j, p, rfl, rfl, rfl⟩ := hc
    split at h
    · rename_i a1 s1 h1
      split at h
      · rename_i a2 s2 h2
        have e1 : runCode P mt od call n (.seq (.region i o false) (.seq (.seq (.region j p false) (.cond cc x y)) z)) a s =
            thenC (runCode P mt od call n (.seq (.seq (.region j p false) (.cond cc x y)) z)) (runCode P mt od call n (.region i o false) a s) := rfl
        have e2 : ∀ a s, runCode P mt od call n (.seq (.seq (.region j p false) (.cond cc x y)) z) a s =
            thenC (runCode P mt od call n z) (runCode P mt od call n (.seq (.region j p false) (.cond cc x y)) a s) := fun _ _ => rfl
        have e3 : ∀ a s, runCode P mt od call n (.seq (.region j p false) (.cond cc x y)) a s =
            thenC (runCode P mt od call n (.cond cc x y)) (runCode P mt od call n (.region j p false) a s) := fun _ _ => rfl
        have e4 : runCode P mt od call n (.cond cc x y) a2 s2 = condC (fun _ => runCode P mt od call n x a2 s2) (fun _ => runCode P mt od call n y a2 s2) (a2.eval cc) := rfl
        rw [e1, h1]
        simp only [thenC]
        rw [e2, e3, h2]
        simp only [thenC]
        rw [e4, h]
        simp only [condC, hv]
        cases b <;> rfl
      · cases h
    · cases h
  · cases h

theorem iso_fork {O : Opts} (F : Fit P O) {i : Iso} {fn : Func} {c : Code} (hf : P.funcs[i.f]? = some fn) (hb : fn.body = some c) (hp : O.prim i.f = 0) {k : Nat} {b : Bool} {v : TV}
    (h : forkCond P (O.mt i.f) (O.od i.f) (callF P O k) k c (start i.args) St.none = some v) (hv : v.v = .bool b)
    (hrun : isoEq i (endC P (callD P O k) fn St.none (O.keep i.f) (forkRun P (O.mt i.f) (O.od i.f) (callF P O k) k b c (start i.args) St.none)) = true) : IsoOk P i := by
  refine iso_of_eq F (k := k + 1) ?_
  have e : callF P O (k + 1) i.f i.args St.none = endC P (callD P O k) fn St.none (O.keep i.f) (runCode P (O.mt i.f) (O.od i.f) (callF P O k) k c (start i.args) St.none) := by
    rw [callF]
    simp only [hf, hp, hb, bodyC]
  rw [e, fork_eq h hv]
  exact hrun
end Go.CE

namespace Go.CE
open Go.RowKit
variable {P : Program}

theorem Rel.grown {w w' : World} {G : Ghost} {s : St} (q : Rel (Frm.all w) G s w') : Grown w w' := by
  have same : ∀ b, b < w.heap.size → w'.heap[b]? = w.heap[b]? := by
    intro b hb
    have h1 : w.heap[b]? = some w.heap[b] := by simp [hb]
    have := q.old b (w.heap[b], true) (by simp [Frm.all, h1])
    rw [this, h1]
  refine ⟨⟨q.os, q.out, fun i hi => ?_⟩, fun a => ?_, q.size⟩
  · rw [same i hi]
    cases w.heap[i]? with
    | none => rfl
    | some o =>
      cases o with
      | cells c t fr => exact ⟨rfl, rfl, rfl, fun _ _ => rfl⟩
      | map es k => exact .inr ⟨rfl, rfl⟩
      | _ => rfl
  · unfold World.frozen?
    rcases Nat.lt_or_ge a.block w.heap.size with e | e
    · rw [same _ e]
    · have h0 : w.heap[a.block]? = none := Array.getElem?_eq_none e
      rw [h0]
      split
      · rename_i c t lo hi hc
        have := q.new a.block c t (lo, hi) (by simp [Frm.all, h0]) hc
        cases this
        simp
      · rfl

/-- the call itself, in every world -/
theorem calls_of_iso {i : Iso} (h : IsoOk P i) {fn : Func} {c : Code} (hf : P.funcs[i.f]? = some fn) (hb : fn.body = some c) (hn : (fn.name == "runtime.NumGoroutine") = false)
    (hr : i.r = plain (.bool true)) {args : Array Value} (hargs : tvrels Ghost.none i.args args.toList) (W : World) : Calls P i.f args W fun e w' => e = .returned (.bool true) ∧ Grown W w' := by
  have q := h (Frm.all W) Ghost.none St.none W args (Rel.start W) hargs
  have hrun := run_callFunc (P := P) (w := W) (vargs := args) hf hb hn
  rw [hr] at q
  rcases q with ⟨x, _, G', w', v, _, _, h3, _⟩ | ⟨g, args', w1, h1, h2⟩
  · rw [hrun] at h3
    cases h3
  · rw [hrun] at h1
    cases h1
    refine Calls.mono h2 ?_
    intro e w' he
    cases e with
    | returned v =>
      obtain ⟨G', _, q2, x, e, q3⟩ := he
      cases e
      have := q3.rv
      simp only [plain, vrel] at this
      exact ⟨by rw [this], q2.grown⟩
    | panicked chain =>
      obtain ⟨G', _, _, c, v, e, _⟩ := he
      cases e
    | outgrown => exact he.elim
end Go.CE
