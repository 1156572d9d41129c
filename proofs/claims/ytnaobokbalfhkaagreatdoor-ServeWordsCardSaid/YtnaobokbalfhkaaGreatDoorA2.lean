/- What a clean state stands for: the relation to the model's worlds, its laws of growth; loads, stores, slots, constants. Conditions: none. -/
import Derived.Test.YtnaobokbalfhkaaGreatDoorA1
import Derived.Orders
import Derived.Laws.Sem
import Derived.Laws.Cells
import Derived.Laws.Append
namespace Go.CE

/-- what the clean state leaves out: where a box lies, what cells never change, what an appender may fill -/
structure Ghost where
  bx : Nat → Option (Nat × Nat × Nat)
  fr : Nat → Option (List Value)
  tk : Nat → Nat → Option (Nat × Nat × Nat × Nat)

mutual
def vrel (G : Ghost) : CV → Value → Prop
  | .bool b, v => v = .bool b
  | .int k n, v => v = .int k n
  | .str s, v => v = .string ⟨⟨s⟩⟩
  | .nilptr, v => v = .pointer none
  | .ptr i o, v => ∃ b z m, G.bx i = some (b, z, m) ∧ v = .pointer (some ⟨b, o, none⟩)
  | .gptr g, v => v = .pointer (some ⟨g, 0, none⟩)
  | .imm cs o, v => ∃ b off vals, G.fr b = some vals ∧ v = .pointer (some ⟨b, off + o, none⟩) ∧ pre G cs (vals.drop off)
  | .slice rows, v => ∃ a cap, v = .slice a rows.length cap ∧ rows.length ≤ cap ∧
      (rows = [] ∨ ∃ b off vals z, a = some ⟨b, off, none⟩ ∧ G.fr b = some vals ∧ (∀ r ∈ rows, r.length = z) ∧ rpre G rows (vals.drop off))
  | .bsl i off len, v => ∃ b z m cap, G.bx i = some (b, z, m) ∧ v = .slice (some ⟨b, off, none⟩) len cap ∧ len ≤ cap ∧ off + cap * z ≤ m
  | .nilmap, v => v = .map none
  | .map i, v => ∃ b z m, G.bx i = some (b, z, m) ∧ v = .map (some b)
  | .fn f cap, v => ∃ l, v = .func (.func f) #[] ⟨l⟩ ∧ vrels G cap l
  | .nilFunc, v => v = .nilFunc
  | .iface t c, v => ∃ u, v = .iface t u ∧ vrel G c u
  | .nilIface, v => v = .nilIface
  | .agg cs, v => ∃ l, v = .agg ⟨l⟩ ∧ l.length = cs.length ∧ pre G cs l
  | .tuple cs, v => ∃ l, v = .tuple ⟨l⟩ ∧ vrels G cs l
  | .unk, _ => True
/-- cells: the row begins with them -/
def pre (G : Ghost) : List CV → List Value → Prop
  | [], _ => True
  | c :: cs, l => oneC c = true ∧ ∃ v r, l = v :: r ∧ vrel G c v ∧ pre G cs r
/-- rows of cells, one behind the other -/
def rpre (G : Ghost) : List (List CV) → List Value → Prop
  | [], _ => True
  | r :: rs, l => pre G r l ∧ rpre G rs (l.drop r.length)
/-- one for one -/
def vrels (G : Ghost) : List CV → List Value → Prop
  | [], l => l = []
  | c :: cs, l => ∃ v r, l = v :: r ∧ vrel G c v ∧ vrels G cs r
end

def shrel (G : Ghost) : Sh → Value → Prop
  | .no, _ => True
  | .full, v => ∀ a len cap, v = .slice a len cap → len = cap
  | .tok i e, v => ∀ a len cap, v = .slice a len cap → ∃ b n m z off, G.tk i e = some (b, n, m, z) ∧ a = some ⟨b, off, none⟩ ∧ off + len * z = n ∧ off + cap * z = m
def hrel (G : Ghost) : List Sh → List Value → Prop
  | [], _ => True
  | _ :: _, [] => True
  | h :: hs, v :: vs => shrel G h v ∧ hrel G hs vs
structure tvrel (G : Ghost) (x : TV) (v : Value) : Prop where
  rv : vrel G x.v v
  rs : hrel G x.sh v.cells.toList
  ro : ∀ r, x.v = .slice [r] → ∀ b off len cap vals, v = .slice (some ⟨b, off, none⟩) len cap → G.fr b = some vals → hrel G (x.sh.drop 1) ((vals.drop off).take r.length)
def csrel (G : Ghost) (cs : List (CV × Sh)) (l : List Value) : Prop := pre G (cs.map (·.1)) l ∧ hrel G (cs.map (·.2)) l

structure Ghost.le (G G' : Ghost) : Prop where
  bx : ∀ i x, G.bx i = some x → G'.bx i = some x
  fr : ∀ b l, G.fr b = some l → ∃ l', G'.fr b = some l' ∧ l <+: l'
  tk : ∀ i e x, G.tk i e = some x → G'.tk i e = some x
theorem Ghost.le_refl (G : Ghost) : G.le G := ⟨fun _ _ h => h, fun _ l h => ⟨l, h, List.prefix_refl l⟩, fun _ _ _ h => h⟩
theorem Ghost.le_trans {G G' G'' : Ghost} (h : G.le G') (h' : G'.le G'') : G.le G'' :=
  ⟨fun i x e => h'.bx i x (h.bx i x e), fun b l e => by
    obtain ⟨l', e', p⟩ := h.fr b l e
    obtain ⟨l'', e'', p'⟩ := h'.fr b l' e'
    exact ⟨l'', e'', p.trans p'⟩, fun i e x k => h'.tk i e x (h.tk i e x k)⟩

theorem pre_app {G : Ghost} : ∀ {cs : List CV} {l l' : List Value}, l <+: l' → pre G cs l → pre G cs l'
  | [], _, _, _, _ => by simp [pre]
  | c :: cs, l, l', hp, h => by
    simp only [pre] at h ⊢
    obtain ⟨h1, v, r, rfl, h2, h3⟩ := h
    obtain ⟨t, rfl⟩ := hp
    exact ⟨h1, v, r ++ t, rfl, h2, pre_app ⟨t, rfl⟩ h3⟩
theorem drop_prefix {α : Type} {l l' : List α} (h : l <+: l') (n : Nat) : l.drop n <+: l'.drop n := by
  obtain ⟨t, rfl⟩ := h
  rw [List.drop_append]
  exact ⟨_, rfl⟩
theorem rpre_app {G : Ghost} : ∀ {rs : List (List CV)} {l l' : List Value}, l <+: l' → rpre G rs l → rpre G rs l'
  | [], _, _, _, _ => by simp [rpre]
  | r :: rs, l, l', hp, h => by
    simp only [rpre] at h ⊢
    exact ⟨pre_app hp h.1, rpre_app (drop_prefix hp _) h.2⟩

mutual
theorem vrel_mono {G G' : Ghost} (le : G.le G') : ∀ (c : CV) (v : Value), vrel G c v → vrel G' c v
  | .bool b, v, h => by simpa [vrel] using h
  | .int k n, v, h => by simpa [vrel] using h
  | .str s, v, h => by simpa [vrel] using h
  | .nilptr, v, h => by simpa [vrel] using h
  | .ptr i o, v, h => by
    simp only [vrel] at h ⊢
    obtain ⟨b, z, m, h1, h2⟩ := h
    exact ⟨b, z, m, le.bx _ _ h1, h2⟩
  | .gptr g, v, h => by simpa [vrel] using h
  | .imm cs o, v, h => by
    simp only [vrel] at h ⊢
    obtain ⟨b, off, vals, h1, h2, h3⟩ := h
    obtain ⟨vals', h4, h5⟩ := le.fr _ _ h1
    exact ⟨b, off, vals', h4, h2, pre_app (drop_prefix h5 _) (pre_mono le cs _ h3)⟩
  | .slice rows, v, h => by
    simp only [vrel] at h ⊢
    obtain ⟨a, cap, h1, h2, h3⟩ := h
    refine ⟨a, cap, h1, h2, h3.imp id ?_⟩
    rintro ⟨b, off, vals, z, h4, h5, h6, h7⟩
    obtain ⟨vals', h8, h9⟩ := le.fr _ _ h5
    exact ⟨b, off, vals', z, h4, h8, h6, rpre_app (drop_prefix h9 _) (rpre_mono le rows _ h7)⟩
  | .bsl i off len, v, h => by
    simp only [vrel] at h ⊢
    obtain ⟨b, z, m, cap, h1, h2⟩ := h
    exact ⟨b, z, m, cap, le.bx _ _ h1, h2⟩
  | .nilmap, v, h => by simpa [vrel] using h
  | .map i, v, h => by
    simp only [vrel] at h ⊢
    obtain ⟨b, z, m, h1, h2⟩ := h
    exact ⟨b, z, m, le.bx _ _ h1, h2⟩
  | .fn f cap, v, h => by
    simp only [vrel] at h ⊢
    obtain ⟨l, h1, h2⟩ := h
    exact ⟨l, h1, vrels_mono le cap l h2⟩
  | .nilFunc, v, h => by simpa [vrel] using h
  | .iface t c, v, h => by
    simp only [vrel] at h ⊢
    obtain ⟨u, h1, h2⟩ := h
    exact ⟨u, h1, vrel_mono le c u h2⟩
  | .nilIface, v, h => by simpa [vrel] using h
  | .agg cs, v, h => by
    simp only [vrel] at h ⊢
    obtain ⟨l, h1, h2, h3⟩ := h
    exact ⟨l, h1, h2, pre_mono le cs l h3⟩
  | .tuple cs, v, h => by
    simp only [vrel] at h ⊢
    obtain ⟨l, h1, h2⟩ := h
    exact ⟨l, h1, vrels_mono le cs l h2⟩
  | .unk, v, _ => by simp [vrel]
theorem pre_mono {G G' : Ghost} (le : G.le G') : ∀ (cs : List CV) (l : List Value), pre G cs l → pre G' cs l
  | [], _, _ => by simp [pre]
  | c :: cs, l, h => by
    simp only [pre] at h ⊢
    obtain ⟨h1, v, r, h2, h3, h4⟩ := h
    exact ⟨h1, v, r, h2, vrel_mono le c v h3, pre_mono le cs r h4⟩
theorem rpre_mono {G G' : Ghost} (le : G.le G') : ∀ (rs : List (List CV)) (l : List Value), rpre G rs l → rpre G' rs l
  | [], _, _ => by simp [rpre]
  | r :: rs, l, h => by
    simp only [rpre] at h ⊢
    exact ⟨pre_mono le r l h.1, rpre_mono le rs _ h.2⟩
theorem vrels_mono {G G' : Ghost} (le : G.le G') : ∀ (cs : List CV) (l : List Value), vrels G cs l → vrels G' cs l
  | [], _, h => by simpa [vrels] using h
  | c :: cs, l, h => by
    simp only [vrels] at h ⊢
    obtain ⟨v, r, h1, h2, h3⟩ := h
    exact ⟨v, r, h1, vrel_mono le c v h2, vrels_mono le cs r h3⟩
end

theorem shrel_mono {G G' : Ghost} (le : G.le G') {h : Sh} {v : Value} (k : shrel G h v) : shrel G' h v := by
  cases h with
  | no => trivial
  | full => exact k
  | tok i e =>
    intro a len cap hv
    obtain ⟨b, n, m, z, off, h1, h2⟩ := k a len cap hv
    exact ⟨b, n, m, z, off, le.tk _ _ _ h1, h2⟩
theorem hrel_mono {G G' : Ghost} (le : G.le G') : ∀ {hs : List Sh} {l : List Value}, hrel G hs l → hrel G' hs l
  | [], _, _ => by simp [hrel]
  | _ :: _, [], _ => by simp [hrel]
  | _ :: _, _ :: _, h => ⟨shrel_mono le h.1, hrel_mono le h.2⟩
theorem hrel_app {G : Ghost} : ∀ {hs : List Sh} {l l' : List Value}, hs.length ≤ l.length → l <+: l' → hrel G hs l → hrel G hs l'
  | [], _, _, _, _, _ => by simp [hrel]
  | _ :: _, [], _, hl, _, _ => by simp at hl
  | _ :: _, _ :: _, _, hl, ⟨t, rfl⟩, h => ⟨h.1, hrel_app (by simpa using hl) ⟨t, rfl⟩ h.2⟩
theorem rpre_one {G : Ghost} {r : List CV} {l : List Value} (h : rpre G [r] l) : r.length ≤ l.length := by
  simp only [rpre, and_true] at h
  induction r generalizing l with
  | nil => simp
  | cons c r ih =>
    simp only [pre] at h
    obtain ⟨_, v, t, rfl, _, h2⟩ := h
    have := ih h2
    simp
    omega
theorem tvrel.mono {G G' : Ghost} (le : G.le G') {x : TV} {v : Value} (h : tvrel G x v) : tvrel G' x v := by
  refine ⟨vrel_mono le _ _ h.rv, hrel_mono le h.rs, ?_⟩
  intro r hr b off len cap vals hv hf
  have h1 := h.rv
  rw [hr] at h1
  simp only [vrel] at h1
  obtain ⟨a, cap', h2, _, h3⟩ := h1
  rw [hv] at h2
  cases h2
  rcases h3 with h3 | ⟨b', off', vals', z, h4, h5, _, h6⟩
  · cases h3
  · cases h4
    obtain ⟨l', h7, h8⟩ := le.fr _ _ h5
    rw [hf] at h7
    cases h7
    have h9 := hrel_mono le (h.ro r hr _ _ _ _ _ hv h5)
    have h10 := rpre_one h6
    obtain ⟨u, rfl⟩ := h8
    rw [List.length_drop] at h10
    have : ((vals' ++ u).drop off).take r.length = (vals'.drop off).take r.length := by
      rw [List.drop_append, List.take_append]
      have e1 : r.length - (vals'.drop off).length = 0 := by rw [List.length_drop]; omega
      rw [e1]
      simp
    rw [this]
    exact h9
/-- no more than the slice's own -/
theorem tvrel.short {G : Ghost} {x : TV} {v : Value} (h1 : vrel G x.v v) (h2 : hrel G x.sh v.cells.toList) (h3 : x.sh.length ≤ 1) : tvrel G x v := by
  refine ⟨h1, h2, fun r _ b off len cap vals _ _ => ?_⟩
  rw [List.drop_eq_nil_of_le h3]
  simp [hrel]
theorem tvrel.noSlice {G : Ghost} {x : TV} {v : Value} (h1 : vrel G x.v v) (h2 : hrel G x.sh v.cells.toList) (h3 : ∀ rows, x.v ≠ .slice rows) : tvrel G x v :=
  ⟨h1, h2, fun _ h _ _ _ _ _ _ _ => absurd h (h3 _)⟩
theorem csrel.mono {G G' : Ghost} (le : G.le G') {cs : List (CV × Sh)} {l : List Value} (h : csrel G cs l) : csrel G' cs l :=
  ⟨pre_mono le _ _ h.1, hrel_mono le h.2⟩

/-! the heap -/
def entries (G : Ghost) : List (CV × CV) → List MapEntry → Prop
  | [], l => l = []
  | (k, x) :: r, l => ∃ e t, l = e :: t ∧ vrel G k e.key ∧ vrel G x e.val ∧ entries G r t
theorem entries_mono {G G' : Ghost} (le : G.le G') : ∀ {es : List (CV × CV)} {l : List MapEntry}, entries G es l → entries G' es l
  | [], _, h => h
  | (_, _) :: _, _, ⟨e, t, h1, h2, h3, h4⟩ => ⟨e, t, h1, vrel_mono le _ _ h2, vrel_mono le _ _ h3, entries_mono le h4⟩
def brel (G : Ghost) (z m : Nat) : Box → Option Obj → Prop
  | .cells cs, o => ∃ c t, o = some (.cells c t (0, 0)) ∧ csrel G cs c.toList
  | .arr y cs, o => y = z ∧ ∃ c t, o = some (.cells c t (0, 0)) ∧ csrel G cs c.toList ∧ m ≤ c.size
  | .map es, o => ∃ l clock, o = some (.map l clock) ∧ entries G es l.toList
  | .dead, _ => True
theorem brel_mono {G G' : Ghost} (le : G.le G') {z m : Nat} {x : Box} {o : Option Obj} (h : brel G z m x o) : brel G' z m x o := by
  cases x with
  | cells cs => obtain ⟨c, t, h1, h2⟩ := h; exact ⟨c, t, h1, h2.mono le⟩
  | arr y cs => obtain ⟨h0, c, t, h1, h2, h3⟩ := h; exact ⟨h0, c, t, h1, h2.mono le, h3⟩
  | map es => obtain ⟨l, k, h1, h2⟩ := h; exact ⟨l, k, h1, entries_mono le h2⟩
  | dead => trivial
def Box.live : Box → Prop
  | .dead => False
  | _ => True

/-- the numbers fall -/
def Desc {α : Type} : List (Nat × α) → Nat → Prop
  | [], _ => True
  | (j, _) :: l, n => j < n ∧ Desc l j

/-- the world when it began; what stays as it is, block by block (true: no slice shows it) -/
structure Frm where
  wd : World
  kp : Nat → Option (Obj × Bool)
/-- the world when it began, whole -/
def Frm.of (W : World) : Frm := ⟨W, fun b => (W.heap[b]?).map (·, false)⟩
structure Rel (W : Frm) (G : Ghost) (s : St) (w : World) : Prop where
  box : ∀ i x, look s.boxes i = some x → ∃ b z m, G.bx i = some (b, z, m) ∧ brel G z m x w.heap[b]?
  fr : ∀ b l, G.fr b = some l → ∃ c t, w.heap[b]? = some (.cells c t (0, 0)) ∧ l <+: c.toList
  tok : ∀ i e z, look s.toks i = some (e, z) → ∃ b n m l c t, G.tk i e = some (b, n, m, z) ∧ G.fr b = some l ∧ l.length = n ∧
    w.heap[b]? = some (.cells c t (0, 0)) ∧ m ≤ c.size ∧ W.kp b = none
  bxlt : ∀ i b z m, G.bx i = some (b, z, m) → i < s.nb ∧ b < w.heap.size ∧ W.kp b = none
  apart : ∀ i x b z m, look s.boxes i = some x → x.live → G.bx i = some (b, z, m) → G.fr b = none
  inj : ∀ i j x y b z m z' m', look s.boxes i = some x → x.live → look s.boxes j = some y → y.live → G.bx i = some (b, z, m) → G.bx j = some (b, z', m') → i = j
  tkle : ∀ i e b n m z, G.tk i e = some (b, n, m, z) → ∃ e', look s.toks i = some (e', z) ∧ e ≤ e'
  tkinj : ∀ i j e e' z z' b n m n' m', look s.toks i = some (e, z) → look s.toks j = some (e', z') →
    G.tk i e = some (b, n, m, z) → G.tk j e' = some (b, n', m', z') → i = j
  nt : Desc s.toks s.nt
  nb : Desc s.boxes s.nb
  hid : ∀ b o, W.kp b = some (o, true) → G.fr b = none
  size : W.wd.heap.size ≤ w.heap.size
  old : ∀ b x, W.kp b = some x → w.heap[b]? = some x.1
  new : ∀ b c t f, W.kp b = none → w.heap[b]? = some (.cells c t f) → f = (0, 0)
  os : w.os = W.wd.os
  out : w.output = W.wd.output
theorem Rel.free {W : Frm} {G : Ghost} {s : St} {w : World} (r : Rel W G s w) : W.kp w.heap.size = none := by
  cases h : W.kp w.heap.size with
  | none => rfl
  | some x => have := r.old _ _ h; simp at this

theorem look_desc {α : Type} : ∀ {l : List (Nat × α)} {n i : Nat} {x : α}, Desc l n → look l i = some x → i < n
  | [], _, _, _, _, h => by simp [look] at h
  | (j, y) :: l, n, i, x, hd, h => by
    simp only [look] at h
    split at h
    · rename_i hb
      have := Nat.eq_of_beq_eq_true hb
      have := hd.1
      omega
    · have h1 := look_desc hd.2 h
      have := hd.1
      omega
theorem look_cons {α : Type} (l : List (Nat × α)) (j i : Nat) (x : α) : look ((j, x) :: l) i = if i = j then some x else look l i := by
  simp only [look]
  split
  · rename_i hb
    have := Nat.eq_of_beq_eq_true hb
    simp [this]
  · rename_i hb
    have : i ≠ j := fun e => by subst e; simp at hb
    simp [this]
theorem look_alter {α : Type} : ∀ (l : List (Nat × α)) (i j : Nat) (x : α), look (alter l i x) j = if j = i then (look l i).map fun _ => x else look l j
  | [], i, j, x => by simp [look, alter]
  | (k, y) :: l, i, j, x => by
    simp only [alter]
    split
    · rename_i hb
      have e := Nat.eq_of_beq_eq_true hb
      subst e
      rw [look_cons, look_cons, look_cons]
      by_cases h : j = k <;> simp [h]
    · rename_i hb
      have hne : i ≠ k := fun e => by subst e; simp at hb
      rw [look_cons, look_cons, look_cons, look_alter l i j x]
      by_cases h : j = k
      · subst h
        have : j ≠ i := fun e => hne e.symm
        simp [this]
      · simp [h, hne]
theorem desc_alter {α : Type} : ∀ {l : List (Nat × α)} {n : Nat} (i : Nat) (x : α), Desc l n → Desc (alter l i x) n
  | [], _, _, _, _ => by simp [alter, Desc]
  | (k, y) :: l, n, i, x, h => by
    simp only [alter]
    split
    · exact h
    · exact ⟨h.1, desc_alter i x h.2⟩
theorem look_older {α : Type} : ∀ {l : List (Nat × α)} {n k i : Nat} {x : α}, Desc l n → look (older l k) i = some x → look l i = some x
  | [], _, _, _, _, _, h => by simp [look, older] at h
  | (j, y) :: l, n, k, i, x, hd, h => by
    simp only [older] at h
    split at h
    · exact h
    · rw [look_cons]
      have h1 := look_older hd.2 h
      have h2 := look_desc hd.2 h1
      have : i ≠ j := by omega
      simp [this, h1]
theorem desc_older {α : Type} : ∀ {l : List (Nat × α)} {n : Nat} (k : Nat), Desc l n → Desc (older l k) n
  | [], _, _, _ => by simp [older, Desc]
  | (j, y) :: l, n, k, h => by
    simp only [older]
    split
    · exact h
    · have := desc_older k h.2
      exact desc_le this (Nat.le_of_lt h.1)
  where desc_le {α : Type} : ∀ {l : List (Nat × α)} {n m : Nat}, Desc l n → n ≤ m → Desc l m
  | [], _, _, _, _ => by simp [Desc]
  | (_, _) :: _, _, _, h, hl => ⟨by have := h.1; omega, h.2⟩
theorem desc_le {α : Type} : ∀ {l : List (Nat × α)} {n m : Nat}, Desc l n → n ≤ m → Desc l m
  | [], _, _, _, _ => by simp [Desc]
  | (_, _) :: _, _, _, h, hl => ⟨by have := h.1; omega, h.2⟩

/-! the ghost grows -/
def Ghost.addBox (G : Ghost) (i b z m : Nat) : Ghost := { G with bx := fun j => if j = i then some (b, z, m) else G.bx j }
def Ghost.setFr (G : Ghost) (b : Nat) (l : List Value) : Ghost := { G with fr := fun j => if j = b then some l else G.fr j }
def Ghost.addTk (G : Ghost) (i e b n m z : Nat) : Ghost := { G with tk := fun j f => if j = i ∧ f = e then some (b, n, m, z) else G.tk j f }
theorem Ghost.le_addBox {G : Ghost} {i b z m : Nat} (h : G.bx i = none) : G.le (G.addBox i b z m) := by
  refine ⟨fun j x e => ?_, fun _ l h => ⟨l, h, List.prefix_refl l⟩, fun _ _ _ h => h⟩
  have : j ≠ i := fun k => by rw [k, h] at e; simp at e
  simp [Ghost.addBox, this, e]
theorem Ghost.le_setFr {G : Ghost} {b : Nat} {l : List Value} (h : ∀ l', G.fr b = some l' → l' <+: l) : G.le (G.setFr b l) := by
  refine ⟨fun j x e => e, fun j l' e => ?_, fun _ _ _ h => h⟩
  by_cases k : j = b
  · subst k
    exact ⟨l, by simp [Ghost.setFr], h l' e⟩
  · exact ⟨l', by simp [Ghost.setFr, k, e], List.prefix_refl _⟩
theorem Ghost.le_addTk {G : Ghost} {i e b n m z : Nat} (h : G.tk i e = none) : G.le (G.addTk i e b n m z) := by
  refine ⟨fun j x e => e, fun _ l h => ⟨l, h, List.prefix_refl l⟩, fun j f x k => ?_⟩
  have : ¬ (j = i ∧ f = e) := fun ⟨k1, k2⟩ => by subst k1; subst k2; rw [h] at k; simp at k
  simp [Ghost.addTk, this, k]

theorem Rel.same_heap {W : Frm} {G : Ghost} {s : St} {w w' : World} (r : Rel W G s w) (h : w'.heap = w.heap) (ho : w'.os = w.os) (hu : w'.output = w.output) : Rel W G s w' := by
  constructor
  · rw [h]; exact r.box
  · rw [h]; exact r.fr
  · rw [h]; exact r.tok
  · rw [h]; exact r.bxlt
  · exact r.apart
  · exact r.inj
  · exact r.tkle
  · exact r.tkinj
  · exact r.nt
  · exact r.nb
  · exact r.hid
  · rw [h]; exact r.size
  · rw [h]; exact r.old
  · rw [h]; exact r.new
  · rw [ho]; exact r.os
  · rw [hu]; exact r.out

/-- an object more -/
abbrev put (w : World) (o : Obj) : World := { w with heap := w.heap.push o }
theorem put_old {w : World} {o : Obj} {b : Nat} (h : b < w.heap.size) : (put w o).heap[b]? = w.heap[b]? := by
  simp [Array.getElem?_push, Nat.ne_of_lt h]
theorem put_new {w : World} {o : Obj} : (put w o).heap[w.heap.size]? = some o := by simp []
def Obj.ours : Obj → Prop
  | .cells _ _ f => f = (0, 0)
  | _ => True
theorem lt_of_obj {w : World} {b : Nat} {o : Obj} (h : w.heap[b]? = some o) : b < w.heap.size := by
  rcases Nat.lt_or_ge b w.heap.size with k | k
  · exact k
  · simp [Array.getElem?_eq_none k] at h
theorem brel_at {G : Ghost} {z m b : Nat} {x : Box} {w w' : World} (h : w'.heap[b]? = w.heap[b]?) (k : brel G z m x w.heap[b]?) : brel G z m x w'.heap[b]? := by
  rw [h]; exact k

theorem Rel.put {W : Frm} {G : Ghost} {s : St} {w : World} (r : Rel W G s w) (o : Obj) (ho : Obj.ours o) : Rel W G s (put w o) where
  box := fun i x h => by
    obtain ⟨b, z, m, h1, h2⟩ := r.box i x h
    exact ⟨b, z, m, h1, brel_at (put_old (r.bxlt _ _ _ _ h1).2.1) h2⟩
  fr := fun b l h => by
    obtain ⟨c, t, h1, h2⟩ := r.fr b l h
    exact ⟨c, t, by rw [put_old (lt_of_obj h1)]; exact h1, h2⟩
  tok := fun i e z h => by
    obtain ⟨b, n, m, l, c, t, h1, h2, h3, h4, h5⟩ := r.tok i e z h
    exact ⟨b, n, m, l, c, t, h1, h2, h3, by rw [put_old (lt_of_obj h4)]; exact h4, h5⟩
  bxlt := fun i b z m h => by
    have := r.bxlt i b z m h
    simp only [Array.size_push]
    exact ⟨this.1, by omega, this.2.2⟩
  apart := r.apart
  inj := r.inj
  tkle := r.tkle
  tkinj := r.tkinj
  nt := r.nt
  nb := r.nb
  hid := r.hid
  size := by have := r.size; simp only [Array.size_push]; omega
  old := fun b x h => by have := r.old b x h; rw [put_old (lt_of_obj this)]; exact this
  new := fun b c t f h k => by
    by_cases e : b < w.heap.size
    · rw [put_old e] at k; exact r.new b c t f h k
    · have h1 := lt_of_obj k
      simp only [Array.size_push] at h1
      have h2 : b = w.heap.size := by omega
      subst h2
      rw [put_new] at k
      cases k
      exact ho
  os := r.os
  out := r.out

theorem Rel.bx_none {W : Frm} {G : Ghost} {s : St} {w : World} (r : Rel W G s w) : G.bx s.nb = none := by
  cases h : G.bx s.nb with
  | none => rfl
  | some x =>
    obtain ⟨b, z, m⟩ := x
    have := (r.bxlt _ _ _ _ h).1
    omega
theorem Rel.tk_none {W : Frm} {G : Ghost} {s : St} {w : World} (r : Rel W G s w) (e : Nat) : G.tk s.nt e = none := by
  cases h : G.tk s.nt e with
  | none => rfl
  | some x =>
    obtain ⟨b, n, m, z⟩ := x
    obtain ⟨e', h1, _⟩ := r.tkle _ _ _ _ _ _ h
    have := look_desc r.nt h1
    omega
theorem Rel.fr_lt {W : Frm} {G : Ghost} {s : St} {w : World} (r : Rel W G s w) {b : Nat} {l : List Value} (h : G.fr b = some l) : b < w.heap.size := by
  obtain ⟨c, t, h1, _⟩ := r.fr b l h
  exact lt_of_obj h1

/-- a box more, on a block of its own that is no frozen row -/
theorem Rel.pushBox {W : Frm} {G : Ghost} {s : St} {w : World} (r : Rel W G s w) (x : Box) (b z m : Nat) (hb : b < w.heap.size) (hW : W.kp b = none)
    (hf : G.fr b = none) (hl : ∀ j y z' m', look s.boxes j = some y → y.live → G.bx j = some (b, z', m') → False)
    (hx : brel G z m x w.heap[b]?) : Rel W (G.addBox s.nb b z m) (s.push x) w := by
  have le : G.le (G.addBox s.nb b z m) := Ghost.le_addBox r.bx_none
  have hne : ∀ i y, look s.boxes i = some y → i ≠ s.nb := fun i y h => by have := look_desc r.nb h; omega
  constructor
  · intro i y h
    simp only [St.push, look_cons] at h
    split at h
    · rename_i e
      cases h
      exact ⟨b, z, m, by simp [Ghost.addBox, e], brel_mono le hx⟩
    · rename_i e
      obtain ⟨b', z', m', h1, h2⟩ := r.box i y h
      exact ⟨b', z', m', le.bx _ _ h1, brel_mono le h2⟩
  · exact r.fr
  · exact r.tok
  · intro i b' z' m' h
    simp only [Ghost.addBox] at h
    simp only [St.push]
    split at h
    · simp only [Option.some.injEq, Prod.mk.injEq] at h
      obtain ⟨rfl, rfl, rfl⟩ := h
      exact ⟨by omega, hb, hW⟩
    · have := r.bxlt i b' z' m' h
      exact ⟨by omega, this.2⟩
  · intro i y b' z' m' h hy h1
    simp only [St.push, look_cons] at h
    simp only [Ghost.addBox] at h1 ⊢
    by_cases e : i = s.nb
    · simp only [e, if_true] at h1
      cases h1
      exact hf
    · simp only [e, if_false] at h h1
      exact r.apart i y b' z' m' h hy h1
  · intro i j x' y' b' z' m' z'' m'' hi hx' hj hy' h1 h2
    simp only [St.push, look_cons] at hi hj
    simp only [Ghost.addBox] at h1 h2
    by_cases e : i = s.nb
    · by_cases e' : j = s.nb
      · omega
      · simp only [e, if_true] at h1
        simp only [e', if_false] at h2 hj
        cases h1
        exact (hl _ _ _ _ hj hy' h2).elim
    · by_cases e' : j = s.nb
      · simp only [e', if_true] at h2
        simp only [e, if_false] at h1 hi
        cases h2
        exact (hl _ _ _ _ hi hx' h1).elim
      · simp only [e, e', if_false] at h1 h2 hi hj
        exact r.inj i j x' y' b' z' m' z'' m'' hi hx' hj hy' h1 h2
  · exact r.tkle
  · exact r.tkinj
  · exact r.nt
  · exact ⟨Nat.lt_succ_self _, r.nb⟩
  · exact r.hid
  · exact r.size
  · exact r.old
  · exact r.new
  · exact r.os
  · exact r.out

theorem Rel.newBox {W : Frm} {G : Ghost} {s : St} {w : World} (r : Rel W G s w) (x : Box) (o : Obj) (z m : Nat) (ho : Obj.ours o) (hx : brel G z m x (some o)) :
    Rel W (G.addBox s.nb w.heap.size z m) (s.push x) (Go.CE.put w o) := by
  refine (r.put o ho).pushBox x w.heap.size z m (by simp []) r.free ?_ ?_ (by rw [put_new]; exact hx)
  · cases h : G.fr w.heap.size with
    | none => rfl
    | some l => have := r.fr_lt h; omega
  · intro j y z' m' h _ k
    have := (r.bxlt _ _ _ _ k).2.1
    omega

/-- rows that never change, in a block of their own -/
theorem Rel.newFr {W : Frm} {G : Ghost} {s : St} {w : World} (r : Rel W G s w) (c : Array Value) (t : TypeId) (l : List Value) (hl : l <+: c.toList) :
    Rel W (G.setFr w.heap.size l) s (Go.CE.put w (.cells c t)) ∧ G.le (G.setFr w.heap.size l) := by
  have hn : G.fr w.heap.size = none := by
    cases h : G.fr w.heap.size with
    | none => rfl
    | some l => have := r.fr_lt h; omega
  have le : G.le (G.setFr w.heap.size l) := Ghost.le_setFr fun l' h => by rw [hn] at h; cases h
  have r' := r.put (.cells c t) (by simp [Obj.ours])
  refine ⟨⟨?_, ?_, ?_, r'.bxlt, ?_, r'.inj, r'.tkle, r'.tkinj, r'.nt, r'.nb, ?_, r'.size, r'.old, r'.new, r'.os, r'.out⟩, le⟩
  · intro i x h
    obtain ⟨b, z, m, h1, h2⟩ := r'.box i x h
    exact ⟨b, z, m, h1, brel_mono le h2⟩
  · intro b l' h
    simp only [Ghost.setFr] at h
    split at h
    · rename_i e
      cases h
      subst e
      exact ⟨c, t, put_new, hl⟩
    · exact r'.fr b l' h
  · intro i e z h
    obtain ⟨b, n, m, l', c', t', h1, h2, h3⟩ := r'.tok i e z h
    have : b ≠ w.heap.size := fun e => by rw [e, hn] at h2; cases h2
    exact ⟨b, n, m, l', c', t', h1, by simp [Ghost.setFr, this, h2], h3⟩
  · intro i x b z m h hx h1
    have h2 := r'.apart i x b z m h hx h1
    have : b ≠ w.heap.size := by
      have := (r.bxlt _ _ _ _ h1).2.1
      omega
    simp [Ghost.setFr, this, h2]
  · intro b o h
    have : b ≠ w.heap.size := fun e => by rw [e, r.free] at h; cases h
    simp [Ghost.setFr, this, r.hid b o h]

/-- the world's rows change: a box -/
theorem Rel.setBox {W : Frm} {G : Ghost} {s : St} {w : World} (r : Rel W G s w) {i b z m : Nat} {x x' : Box} {o : Obj} (hi : look s.boxes i = some x) (hx : x.live)
    (hb : G.bx i = some (b, z, m)) (ho : Obj.ours o) (hx' : brel G z m x' (some o)) (_hl' : x'.live) :
    Rel W G (s.setBox i x') { w with heap := w.heap.setIfInBounds b o } := by
  obtain ⟨_, hlt, hW⟩ := r.bxlt _ _ _ _ hb
  have hfr := r.apart _ _ _ _ _ hi hx hb
  have same : ∀ b', b' ≠ b → (w.heap.setIfInBounds b o)[b']? = w.heap[b']? := fun b' h => by
    rw [Array.getElem?_setIfInBounds_ne (Ne.symm h)]
  have here : (w.heap.setIfInBounds b o)[b]? = some o := by simp [hlt]
  have hlive : ∀ j y, look (s.setBox i x').boxes j = some y → y.live → ∃ y', look s.boxes j = some y' ∧ y'.live := by
    intro j y h hy
    simp only [St.setBox, look_alter] at h
    split at h
    · rename_i e
      subst e
      exact ⟨x, hi, hx⟩
    · exact ⟨y, h, hy⟩
  constructor
  · intro j y h
    simp only [St.setBox, look_alter] at h
    split at h
    · rename_i e
      subst e
      rw [hi] at h
      cases h
      exact ⟨b, z, m, hb, by show brel _ _ _ _ ((w.heap.setIfInBounds b o)[b]?); rw [here]; exact hx'⟩
    · rename_i e
      obtain ⟨b', z', m', h1, h2⟩ := r.box j y h
      by_cases k : b' = b
      · subst k
        cases y with
        | dead => exact ⟨b', z', m', h1, trivial⟩
        | _ => exact absurd (r.inj j i _ _ _ _ _ _ _ h trivial hi hx h1 hb) e
      · exact ⟨b', z', m', h1, by show brel _ _ _ _ ((w.heap.setIfInBounds b o)[b']?); rw [same b' k]; exact h2⟩
  · intro b' l h
    obtain ⟨c, t, h1, h2⟩ := r.fr b' l h
    have : b' ≠ b := fun e => by rw [e, hfr] at h; cases h
    exact ⟨c, t, by show (w.heap.setIfInBounds b o)[b']? = _; rw [same b' this]; exact h1, h2⟩
  · intro j e z' h
    obtain ⟨b', n, m', l, c, t, h1, h2, h3, h4, h5⟩ := r.tok j e z' h
    have : b' ≠ b := fun e => by rw [e, hfr] at h2; cases h2
    exact ⟨b', n, m', l, c, t, h1, h2, h3, by show (w.heap.setIfInBounds b o)[b']? = _; rw [same b' this]; exact h4, h5⟩
  · intro j b' z' m' h
    have := r.bxlt j b' z' m' h
    simpa [St.setBox] using this
  · intro j y b' z' m' h hy h1
    obtain ⟨y', h2, h3⟩ := hlive j y h hy
    exact r.apart j y' b' z' m' h2 h3 h1
  · intro j k y y' b' z' m' z'' m'' h hy h' hy' h1 h2
    obtain ⟨u, h3, h4⟩ := hlive j y h hy
    obtain ⟨u', h5, h6⟩ := hlive k y' h' hy'
    exact r.inj j k u u' b' z' m' z'' m'' h3 h4 h5 h6 h1 h2
  · exact r.tkle
  · exact r.tkinj
  · exact r.nt
  · exact desc_alter i x' r.nb
  · exact r.hid
  · have := r.size; simpa using this
  · intro b' x h
    show (w.heap.setIfInBounds b o)[b']? = _
    rw [same b' (fun e => by rw [e, hW] at h; cases h)]
    exact r.old b' x h
  · intro b' c t f h k
    change (w.heap.setIfInBounds b o)[b']? = _ at k
    by_cases e : b' = b
    · subst e
      rw [here] at k
      cases k
      exact ho
    · rw [same b' e] at k
      exact r.new b' c t f h k
  · exact r.os
  · exact r.out

/-- a box dies -/
theorem Rel.kill {W : Frm} {G : Ghost} {s : St} {w : World} (r : Rel W G s w) (i : Nat) : Rel W G (s.setBox i .dead) w := by
  have hlive : ∀ j y, look (s.setBox i .dead).boxes j = some y → y.live → look s.boxes j = some y := by
    intro j y h hy
    simp only [St.setBox, look_alter] at h
    split at h
    · cases hl : look s.boxes i with
      | none => simp [hl] at h
      | some u => simp [hl] at h; subst h; exact hy.elim
    · exact h
  refine ⟨?_, r.fr, r.tok, r.bxlt, ?_, ?_, r.tkle, r.tkinj, r.nt, desc_alter i _ r.nb, r.hid, r.size, r.old, r.new, r.os, r.out⟩
  · intro j y h
    cases y with
    | dead =>
      simp only [St.setBox, look_alter] at h
      split at h
      · rename_i e
        subst e
        cases hl : look s.boxes j with
        | none => simp [hl] at h
        | some u =>
          obtain ⟨b, z, m, h1, _⟩ := r.box j u hl
          exact ⟨b, z, m, h1, trivial⟩
      · exact r.box j _ h
    | cells _ => exact r.box j _ (hlive j _ h trivial)
    | map _ => exact r.box j _ (hlive j _ h trivial)
    | arr _ _ => exact r.box j _ (hlive j _ h trivial)
  · intro j y b z m h hy h1
    exact r.apart j y b z m (hlive j y h hy) hy h1
  · intro j k y y' b z m z' m' h hy h' hy' h1 h2
    exact r.inj j k y y' b z m z' m' (hlive j y h hy) hy (hlive k y' h' hy') hy' h1 h2

theorem Rel.cut {W : Frm} {G : Ghost} {s : St} {w : World} (r : Rel W G s w) (n : Nat) : Rel W G { s with boxes := older s.boxes n } w := by
  have hl : ∀ j y, look (older s.boxes n) j = some y → look s.boxes j = some y := fun j y h => look_older r.nb h
  refine ⟨fun i x h => r.box i x (hl _ _ h), r.fr, r.tok, r.bxlt, fun i x b z m h => r.apart i x b z m (hl _ _ h), ?_, r.tkle, r.tkinj, r.nt, desc_older n r.nb, r.hid, r.size, r.old, r.new, r.os, r.out⟩
  intro j k y y' b z m z' m' h hy h' hy' h1 h2
  exact r.inj j k y y' b z m z' m' (hl _ _ h) hy (hl _ _ h') hy' h1 h2

/-- a right to append more, on a block of its own -/
theorem Rel.pushTok {W : Frm} {G : Ghost} {s : St} {w : World} (r : Rel W G s w) (e z b m : Nat) (l : List Value) (c : Array Value) (t : TypeId) (hf : G.fr b = some l)
    (hw : w.heap[b]? = some (.cells c t (0, 0))) (hm : m ≤ c.size) (hW : W.kp b = none)
    (hn : ∀ i e z b' n m, look s.toks i = some (e, z) → G.tk i e = some (b', n, m, z) → b' ≠ b) :
    Rel W (G.addTk s.nt e b l.length m z) (s.pushTok e z) w ∧ G.le (G.addTk s.nt e b l.length m z) := by
  have le : G.le (G.addTk s.nt e b l.length m z) := Ghost.le_addTk (r.tk_none e)
  have hnt : ∀ i x, look s.toks i = some x → i ≠ s.nt := fun i x h => by have := look_desc r.nt h; omega
  refine ⟨⟨?_, r.fr, ?_, r.bxlt, r.apart, r.inj, ?_, ?_, ⟨Nat.lt_succ_self _, r.nt⟩, r.nb, r.hid, r.size, r.old, r.new, r.os, r.out⟩, le⟩
  · intro i x h
    obtain ⟨b', z', m', h1, h2⟩ := r.box i x h
    exact ⟨b', z', m', h1, brel_mono le h2⟩
  · intro i e' z' h
    simp only [St.pushTok, look_cons] at h
    split at h
    · rename_i k
      cases h
      exact ⟨b, l.length, m, l, c, t, by simp [Ghost.addTk, k], hf, rfl, hw, hm, hW⟩
    · rename_i k
      obtain ⟨b', n, m', l', c', t', h1, h2⟩ := r.tok i e' z' h
      exact ⟨b', n, m', l', c', t', le.tk _ _ _ h1, h2⟩
  · intro i e' b' n' m' z' h
    simp only [Ghost.addTk] at h
    simp only [St.pushTok, look_cons]
    split at h
    · rename_i k
      obtain ⟨k1, k2⟩ := k
      simp only [Option.some.injEq, Prod.mk.injEq] at h
      exact ⟨e, by simp [k1, h.2.2.2], by omega⟩
    · obtain ⟨e'', h1, h2⟩ := r.tkle _ _ _ _ _ _ h
      exact ⟨e'', by simp [hnt _ _ h1, h1], h2⟩
  · intro i j e1 e2 z1 z2 b' n m1 n' m2 hi hj h1 h2
    simp only [St.pushTok, look_cons] at hi hj
    simp only [Ghost.addTk] at h1 h2
    by_cases k : i = s.nt
    · by_cases k' : j = s.nt
      · omega
      · simp only [k, k', if_true, if_false, false_and, Option.some.injEq, Prod.mk.injEq] at h1 h2 hi hj
        obtain ⟨rfl, rfl⟩ := hi
        simp only [and_self, if_true, Option.some.injEq, Prod.mk.injEq] at h1
        exact absurd h1.1.symm (hn _ _ _ _ _ _ hj h2)
    · by_cases k' : j = s.nt
      · simp only [k, k', if_true, if_false, false_and, Option.some.injEq, Prod.mk.injEq] at h1 h2 hi hj
        obtain ⟨rfl, rfl⟩ := hj
        simp only [and_self, if_true, Option.some.injEq, Prod.mk.injEq] at h2
        exact absurd h2.1.symm (hn _ _ _ _ _ _ hi h1)
      · simp only [k, k', if_false, false_and] at h1 h2 hi hj
        exact r.tkinj i j e1 e2 z1 z2 b' n m1 n' m2 hi hj h1 h2

end Go.CE

namespace Go.CE

/-- in its place: what a right to append puts behind what is there -/
theorem Rel.grow {W : Frm} {G : Ghost} {s : St} {w : World} (r : Rel W G s w) {i e z b n m : Nat} {l vs : List Value} {c c' : Array Value} {t : TypeId} (e' : Nat)
    (hi : look s.toks i = some (e, z)) (hk : G.tk i e = some (b, n, m, z)) (hf : G.fr b = some l) (hw : w.heap[b]? = some (.cells c t (0, 0)))
    (he : e < e') (hc : l ++ vs <+: c'.toList) (hs : c'.size = c.size) :
    Rel W ((G.setFr b (l ++ vs)).addTk i e' b (l ++ vs).length m z) (s.setTok i e' z) { w with heap := w.heap.setIfInBounds b (.cells c' t (0, 0)) } ∧
      G.le ((G.setFr b (l ++ vs)).addTk i e' b (l ++ vs).length m z) := by
  have hnone : G.tk i e' = none := by
    cases h : G.tk i e' with
    | none => rfl
    | some x =>
      obtain ⟨b2, n2, m2, z2⟩ := x
      obtain ⟨e2, h1, h2⟩ := r.tkle _ _ _ _ _ _ h
      rw [hi] at h1
      cases h1
      omega
  have le1 : G.le (G.setFr b (l ++ vs)) := Ghost.le_setFr fun l' h => by rw [hf] at h; cases h; exact List.prefix_append _ _
  have le2 : (G.setFr b (l ++ vs)).le ((G.setFr b (l ++ vs)).addTk i e' b (l ++ vs).length m z) := Ghost.le_addTk hnone
  have le := Ghost.le_trans le1 le2
  have hlt := lt_of_obj hw
  obtain ⟨b0, n0, m0, l0, c0, t0, k1, k2, k3, k4, k5, hW⟩ := r.tok i e z hi
  rw [hk] at k1
  cases k1
  rw [hf] at k2
  cases k2
  rw [hw] at k4
  cases k4
  have same : ∀ b', b' ≠ b → (w.heap.setIfInBounds b (.cells c' t (0, 0)))[b']? = w.heap[b']? := fun b' h => by
    rw [Array.getElem?_setIfInBounds_ne (Ne.symm h)]
  have here : (w.heap.setIfInBounds b (.cells c' t (0, 0)))[b]? = some (.cells c' t (0, 0)) := by simp [hlt]
  refine ⟨?_, le⟩
  constructor
  · intro j x h
    obtain ⟨b', z', m', h1, h2⟩ := r.box j x h
    by_cases k : b' = b
    · subst k
      cases x with
      | dead => exact ⟨b', z', m', h1, trivial⟩
      | _ => have := r.apart _ _ _ _ _ h trivial h1; rw [hf] at this; cases this
    · exact ⟨b', z', m', h1, by show brel _ _ _ _ ((w.heap.setIfInBounds b (.cells c' t (0, 0)))[b']?); rw [same b' k]; exact brel_mono le h2⟩
  · intro b' l' h
    by_cases k : b' = b
    · subst k
      simp only [Ghost.addTk, Ghost.setFr, if_true, Option.some.injEq] at h
      subst h
      exact ⟨c', t, here, hc⟩
    · simp only [Ghost.addTk, Ghost.setFr, k, if_false] at h
      obtain ⟨c1, t1, h1, h2⟩ := r.fr b' l' h
      exact ⟨c1, t1, by show (w.heap.setIfInBounds b (.cells c' t (0, 0)))[b']? = _; rw [same b' k]; exact h1, h2⟩
  · intro j f z' h
    simp only [St.setTok, look_alter] at h
    split at h
    · rename_i k
      subst k
      rw [hi] at h
      cases h
      exact ⟨b, _, m, l ++ vs, c', t, by simp [Ghost.addTk], by simp [Ghost.addTk, Ghost.setFr], rfl, here, by omega, hW⟩
    · rename_i k
      obtain ⟨b', n', m', l', c1, t1, h1, h2, h3, h4, h5⟩ := r.tok j f z' h
      have hb : b' ≠ b := fun q => by subst q; exact k (r.tkinj _ _ _ _ _ _ _ _ _ _ _ h hi h1 hk)
      exact ⟨b', n', m', l', c1, t1, le.tk _ _ _ h1, by simp [Ghost.addTk, Ghost.setFr, hb, h2], h3, by show (w.heap.setIfInBounds b (.cells c' t (0, 0)))[b']? = _; rw [same b' hb]; exact h4, h5⟩
  · intro j b' z' m' h
    have := r.bxlt j b' z' m' h
    simpa [St.setTok] using this
  · intro j x b' z' m' h hx h1
    have h2 := r.apart j x b' z' m' h hx h1
    have hb : b' ≠ b := fun q => by subst q; rw [hf] at h2; cases h2
    simp [Ghost.addTk, Ghost.setFr, hb, h2]
  · exact r.inj
  · intro j f b9 n9 m9 z9 h
    simp only [Ghost.addTk, Ghost.setFr] at h
    simp only [St.setTok, look_alter]
    split at h
    · rename_i k
      simp only [Option.some.injEq, Prod.mk.injEq] at h
      exact ⟨e', by simp [k.1, hi, h.2.2.2], by omega⟩
    · obtain ⟨f2, h1, h2⟩ := r.tkle _ _ _ _ _ _ h
      by_cases k : j = i
      · subst k
        rw [hi] at h1
        cases h1
        exact ⟨e', by simp [hi], by omega⟩
      · exact ⟨f2, by simp [k, h1], h2⟩
  · intro j k e1 e2 z1 z2 b' n1 m1 n2 m2 hj hk' h1 h2
    simp only [St.setTok, look_alter] at hj hk'
    simp only [Ghost.addTk, Ghost.setFr] at h1 h2
    by_cases p : j = i
    · by_cases q : k = i
      · omega
      · subst p
        simp only [if_true, hi, Option.map_some, Option.some.injEq, Prod.mk.injEq] at hj
        obtain ⟨rfl, rfl⟩ := hj
        simp only [and_self, if_true, Option.some.injEq, Prod.mk.injEq] at h1
        simp only [q, if_false, false_and] at hk' h2
        obtain ⟨rfl, _⟩ := h1
        exact absurd (r.tkinj _ _ _ _ _ _ _ _ _ _ _ hk' hi h2 hk) q
    · by_cases q : k = i
      · subst q
        simp only [if_true, hi, Option.map_some, Option.some.injEq, Prod.mk.injEq] at hk'
        obtain ⟨rfl, rfl⟩ := hk'
        simp only [and_self, if_true, Option.some.injEq, Prod.mk.injEq] at h2
        simp only [p, if_false, false_and] at hj h1
        obtain ⟨rfl, _⟩ := h2
        exact absurd (r.tkinj _ _ _ _ _ _ _ _ _ _ _ hj hi h1 hk) p
      · simp only [p, q, if_false, false_and] at hj hk' h1 h2
        exact r.tkinj _ _ _ _ _ _ _ _ _ _ _ hj hk' h1 h2
  · exact desc_alter i _ r.nt
  · exact r.nb
  · intro b' o h
    have : b' ≠ b := fun e => by rw [e, hW] at h; cases h
    simp [Ghost.addTk, Ghost.setFr, this, r.hid b' o h]
  · have := r.size; simpa using this
  · intro b' x h
    show (w.heap.setIfInBounds b (.cells c' t (0, 0)))[b']? = _
    rw [same b' (fun e => by rw [e, hW] at h; cases h)]
    exact r.old b' x h
  · intro b' c1 t1 f h k
    change (w.heap.setIfInBounds b (.cells c' t (0, 0)))[b']? = _ at k
    by_cases q : b' = b
    · subst q
      rw [here] at k
      cases k
      rfl
    · rw [same b' q] at k
      exact r.new b' c1 t1 f h k
  · exact r.os
  · exact r.out

/-- a right to append goes over to another block -/
theorem Rel.moveTok {W : Frm} {G : Ghost} {s : St} {w : World} (r : Rel W G s w) {i e z b m : Nat} {l : List Value} {c : Array Value} {t : TypeId} (e' : Nat)
    (hi : look s.toks i = some (e, z)) (he : e < e') (hf : G.fr b = some l) (hw : w.heap[b]? = some (.cells c t (0, 0))) (hm : m ≤ c.size) (hW : W.kp b = none)
    (hn : ∀ j e z b' n m, look s.toks j = some (e, z) → G.tk j e = some (b', n, m, z) → b' ≠ b) :
    Rel W (G.addTk i e' b l.length m z) (s.setTok i e' z) w ∧ G.le (G.addTk i e' b l.length m z) := by
  have hnone : G.tk i e' = none := by
    cases h : G.tk i e' with
    | none => rfl
    | some x =>
      obtain ⟨b2, n2, m2, z2⟩ := x
      obtain ⟨e2, h1, h2⟩ := r.tkle _ _ _ _ _ _ h
      rw [hi] at h1
      cases h1
      omega
  have le : G.le (G.addTk i e' b l.length m z) := Ghost.le_addTk hnone
  refine ⟨⟨?_, r.fr, ?_, r.bxlt, r.apart, r.inj, ?_, ?_, desc_alter i _ r.nt, r.nb, r.hid, r.size, r.old, r.new, r.os, r.out⟩, le⟩
  · intro j x h
    obtain ⟨b', z', m', h1, h2⟩ := r.box j x h
    exact ⟨b', z', m', h1, brel_mono le h2⟩
  · intro j f z' h
    simp only [St.setTok, look_alter] at h
    split at h
    · rename_i k
      subst k
      rw [hi] at h
      cases h
      exact ⟨b, l.length, m, l, c, t, by simp [Ghost.addTk], hf, rfl, hw, hm, hW⟩
    · obtain ⟨b', n', m', l', c1, t1, h1, h2⟩ := r.tok j f z' h
      exact ⟨b', n', m', l', c1, t1, le.tk _ _ _ h1, h2⟩
  · intro j f b9 n9 m9 z9 h
    simp only [Ghost.addTk] at h
    simp only [St.setTok, look_alter]
    split at h
    · rename_i k
      simp only [Option.some.injEq, Prod.mk.injEq] at h
      exact ⟨e', by simp [k.1, hi, h.2.2.2], by omega⟩
    · obtain ⟨f2, h1, h2⟩ := r.tkle _ _ _ _ _ _ h
      by_cases k : j = i
      · subst k
        rw [hi] at h1
        cases h1
        exact ⟨e', by simp [hi], by omega⟩
      · exact ⟨f2, by simp [k, h1], h2⟩
  · intro j k e1 e2 z1 z2 b' n1 m1 n2 m2 hj hk' h1 h2
    simp only [St.setTok, look_alter] at hj hk'
    simp only [Ghost.addTk] at h1 h2
    by_cases p : j = i
    · by_cases q : k = i
      · omega
      · subst p
        simp only [if_true, hi, Option.map_some, Option.some.injEq, Prod.mk.injEq] at hj
        obtain ⟨rfl, rfl⟩ := hj
        simp only [and_self, if_true, Option.some.injEq, Prod.mk.injEq] at h1
        simp only [q, if_false, false_and] at hk' h2
        obtain ⟨rfl, _⟩ := h1
        exact absurd rfl (hn _ _ _ _ _ _ hk' h2)
    · by_cases q : k = i
      · subst q
        simp only [if_true, hi, Option.map_some, Option.some.injEq, Prod.mk.injEq] at hk'
        obtain ⟨rfl, rfl⟩ := hk'
        simp only [and_self, if_true, Option.some.injEq, Prod.mk.injEq] at h2
        simp only [p, if_false, false_and] at hj h1
        obtain ⟨rfl, _⟩ := h2
        exact absurd rfl (hn _ _ _ _ _ _ hj h1)
      · simp only [p, q, if_false, false_and] at hj hk' h1 h2
        exact r.tkinj _ _ _ _ _ _ _ _ _ _ _ hj hk' h1 h2

/-! lists -/
theorem dropN_eq {α : Type} : ∀ (l : List α) (n : Nat), dropN l n = l.drop n
  | l, 0 => by simp [dropN]
  | [], _ + 1 => by simp [dropN]
  | _ :: l, n + 1 => by simp [dropN, dropN_eq l n]
theorem firstN_some {α : Type} : ∀ {l : List α} {n : Nat} {x : List α}, firstN l n = some x → x = l.take n ∧ x.length = n
  | l, 0, x, h => by simp [firstN] at h; simp [← h]
  | [], _ + 1, _, h => by simp [firstN] at h
  | a :: l, n + 1, x, h => by
    simp only [firstN] at h
    split at h
    · rename_i r hr
      cases h
      have := firstN_some hr
      simp [this.2, ← this.1]
    · cases h
theorem takeN_some {α : Type} {l : List α} {off n : Nat} {x : List α} (h : takeN l off n = some x) : x = (l.drop off).take n ∧ x.length = n := by
  unfold takeN at h
  rw [dropN_eq] at h
  exact firstN_some h
theorem nthO_eq {α : Type} : ∀ (l : List α) (n : Nat), nthO l n = l[n]?
  | [], _ => by simp [nthO]
  | _ :: _, 0 => by simp [nthO]
  | _ :: l, n + 1 => by simp [nthO, nthO_eq l n]

theorem pre_iff {G : Ghost} : ∀ {cs : List CV} {l : List Value}, pre G cs l ↔ ∀ (j : Nat) (c : CV), cs[j]? = some c → oneC c = true ∧ ∃ v : Value, l[j]? = some v ∧ vrel G c v
  | [], l => by simp [pre]
  | c :: cs, l => by
    simp only [pre]
    constructor
    · rintro ⟨h1, v, r, rfl, h2, h3⟩ j c' hj
      cases j with
      | zero => simp at hj; subst hj; exact ⟨h1, v, by simp, h2⟩
      | succ j => simpa using pre_iff.1 h3 j c' (by simpa using hj)
    · intro h
      obtain ⟨h1, v, h2, h3⟩ := h 0 c (by simp)
      cases l with
      | nil => simp at h2
      | cons u r =>
        simp at h2
        subst h2
        refine ⟨h1, u, r, rfl, h3, pre_iff.2 fun j c' hj => ?_⟩
        simpa using h (j + 1) c' (by simpa using hj)
theorem hrel_iff {G : Ghost} : ∀ {hs : List Sh} {l : List Value}, hrel G hs l ↔ ∀ (j : Nat) (h : Sh) (v : Value), hs[j]? = some h → l[j]? = some v → shrel G h v
  | [], l => by simp [hrel]
  | _ :: _, [] => by simp [hrel]
  | h :: hs, v :: l => by
    simp only [hrel]
    constructor
    · rintro ⟨h1, h2⟩ j h' v' hj hv
      cases j with
      | zero => simp at hj hv; subst hj; subst hv; exact h1
      | succ j => exact hrel_iff.1 h2 j h' v' (by simpa using hj) (by simpa using hv)
    · intro k
      refine ⟨k 0 h v (by simp) (by simp), hrel_iff.2 fun j h' v' hj hv => ?_⟩
      exact k (j + 1) h' v' (by simpa using hj) (by simpa using hv)
theorem csrel_iff {G : Ghost} {cs : List (CV × Sh)} {l : List Value} :
    csrel G cs l ↔ ∀ (j : Nat) (c : CV) (h : Sh), cs[j]? = some (c, h) → oneC c = true ∧ ∃ v : Value, l[j]? = some v ∧ vrel G c v ∧ shrel G h v := by
  unfold csrel
  rw [pre_iff, hrel_iff]
  constructor
  · rintro ⟨h1, h2⟩ j c h hj
    obtain ⟨k1, v, k2, k3⟩ := h1 j c (by simp [hj])
    exact ⟨k1, v, k2, k3, h2 j h v (by simp [hj]) k2⟩
  · intro k
    constructor
    · intro j c hj
      simp only [List.getElem?_map, Option.map_eq_some_iff] at hj
      obtain ⟨⟨c', h⟩, h1, h2⟩ := hj
      obtain ⟨k1, v, k2, k3, _⟩ := k j c' h h1
      cases h2
      exact ⟨k1, v, k2, k3⟩
    · intro j h v hj hv
      simp only [List.getElem?_map, Option.map_eq_some_iff] at hj
      obtain ⟨⟨c', h'⟩, h1, h2⟩ := hj
      obtain ⟨k1, v', k2, k3, k4⟩ := k j c' h' h1
      cases h2
      rw [hv] at k2
      cases k2
      exact k4
theorem csrel.length_le {G : Ghost} {cs : List (CV × Sh)} {l : List Value} (h : csrel G cs l) : cs.length ≤ l.length := by
  rw [csrel_iff] at h
  rcases Nat.lt_or_ge l.length cs.length with k | k
  · have : cs[l.length]? = some cs[l.length] := by simp [k]
    obtain ⟨_, v, h2, _⟩ := h l.length cs[l.length].1 cs[l.length].2 this
    simp at h2
  · exact k
theorem pre.length_le {G : Ghost} {cs : List CV} {l : List Value} (h : pre G cs l) : cs.length ≤ l.length := by
  rw [pre_iff] at h
  rcases Nat.lt_or_ge l.length cs.length with k | k
  · have : cs[l.length]? = some cs[l.length] := by simp [k]
    obtain ⟨_, v, h2, _⟩ := h l.length cs[l.length] this
    simp at h2
  · exact k
theorem csrel_plain {G : Ghost} {cs : List CV} {l : List Value} (h : pre G cs l) : csrel G (cs.map (·, .no)) l := by
  rw [csrel_iff]
  intro j c sh hj
  simp only [List.getElem?_map, Option.map_eq_some_iff, Prod.mk.injEq] at hj
  obtain ⟨c', h1, rfl, rfl⟩ := hj
  obtain ⟨k1, v, k2, k3⟩ := pre_iff.1 h j c' h1
  exact ⟨k1, v, k2, k3, trivial⟩
theorem csrel.part {G : Ghost} {cs : List (CV × Sh)} {l : List Value} (h : csrel G cs l) {off n : Nat} {x : List (CV × Sh)} (hx : takeN cs off n = some x) :
    csrel G x ((l.drop off).take n) ∧ x.length = n ∧ ((l.drop off).take n).length = n := by
  obtain ⟨h1, h2⟩ := takeN_some hx
  have hl := h.length_le
  have h3 : off + n ≤ cs.length ∨ n = 0 := by
    have : ((cs.drop off).take n).length = n := by rw [← h1]; exact h2
    simp at this
    omega
  refine ⟨?_, h2, by simp; omega⟩
  rw [csrel_iff] at h ⊢
  intro j c sh hj
  rw [h1, List.getElem?_take, List.getElem?_drop] at hj
  split at hj
  · rename_i hlt
    obtain ⟨k1, v, k2, k3⟩ := h _ _ _ hj
    refine ⟨k1, v, ?_, k3⟩
    rw [List.getElem?_take, List.getElem?_drop]
    simp [hlt, k2]
  · cases hj
theorem map_withSh : ∀ (cs : List CV) (hs : List Sh), (withSh cs hs).map (·.1) = cs
  | [], _ => by simp [withSh]
  | c :: cs, [] => by simp [withSh, map_withSh cs []]
  | c :: cs, h :: hs => by simp [withSh, map_withSh cs hs]
theorem withSh_rel {G : Ghost} : ∀ {cs : List CV} {hs : List Sh} {l : List Value}, pre G cs l → hrel G hs l → csrel G (withSh cs hs) l
  | [], _, _, _, _ => by simp [withSh, csrel, pre, hrel]
  | c :: cs, [], l, h, _ => by
    simp only [pre] at h
    obtain ⟨h1, v, r, rfl, h2, h3⟩ := h
    have ih := withSh_rel (hs := []) h3 (by simp [hrel])
    exact ⟨⟨h1, v, r, rfl, h2, ih.1⟩, ⟨trivial, ih.2⟩⟩
  | c :: cs, sh :: hs, l, h, k => by
    simp only [pre] at h
    obtain ⟨h1, v, r, rfl, h2, h3⟩ := h
    have ih := withSh_rel h3 k.2
    exact ⟨⟨h1, v, r, rfl, h2, ih.1⟩, ⟨k.1, ih.2⟩⟩

/-- a value's cells -/
theorem tvrel.cells {G : Ghost} {x : TV} {v : Value} (h : tvrel G x v) {cs : List (CV × Sh)} (hc : x.cells? = some cs) :
    csrel G cs v.cells.toList ∧ v.cells.size = cs.length := by
  obtain ⟨c, sh⟩ := x
  obtain ⟨h1, h2, _⟩ := h
  simp only [TV.cells?] at hc
  have one : ∀ c v, vrel G c v → oneC c = true → c.cells? = some [c] → v.cells = #[v] → csrel G (withSh [c] sh) v.cells.toList ∨ True := fun _ _ _ _ _ _ => .inr trivial
  cases c with
  | agg l =>
    simp only [CV.cells?, Option.some.injEq] at hc
    simp only [vrel] at h1
    obtain ⟨vs, rfl, h3, h4⟩ := h1
    subst hc
    refine ⟨withSh_rel h4 h2, ?_⟩
    have : (withSh l sh).length = l.length := by rw [← List.length_map (f := (·.1)), map_withSh]
    simpa [Value.cells, this] using h3
  | tuple l => simp [CV.cells?] at hc
  | unk => simp [CV.cells?] at hc
  | _ =>
    simp only [CV.cells?, Option.some.injEq] at hc
    subst hc
    have hv : v.cells = #[v] := by
      simp only [vrel] at h1
      first
        | (subst h1; rfl)
        | (obtain ⟨_, rfl⟩ := h1; rfl)
        | (obtain ⟨_, rfl, _⟩ := h1; rfl)
        | (obtain ⟨_, _, rfl, _⟩ := h1; rfl)
        | (obtain ⟨_, _, _, _, rfl⟩ := h1; rfl)
        | (obtain ⟨_, _, _, _, rfl, _⟩ := h1; rfl)
        | (obtain ⟨_, _, _, _, _, rfl, _⟩ := h1; rfl)
    rw [hv] at h2 ⊢
    refine ⟨withSh_rel ?_ h2, by cases sh <;> rfl⟩
    exact ⟨rfl, v, [], rfl, h1, trivial⟩
end Go.CE

namespace Go.CE

section runs
variable {P : Program} {w : World} {t : TypeId} {i : TypeInfo} {d : TypeDesc}
theorem run_und (h : P.underlying t = some d) : (underlying t).run P w = .ok d w := by simp [underlying, h]
theorem run_info (h : P.info? t = some i) : (typeInfo t).run P w = .ok i w := by simp [typeInfo, h]
theorem run_size (h : P.info? t = some i) : (sizeOf t).run P w = .ok i.size w := by simp [sizeOf, run_info h]
theorem run_zero {v : Value} (h : P.info? t = some i) (hz : i.zero = some v) : (zeroValue t).run P w = .ok v w := by simp [zeroValue, run_info h, hz]
theorem run_isAgg (h : P.underlying t = some d) : (isAgg t).run P w = .ok (isAggD d) w := by
  unfold isAgg
  simp only [Sem.run_bind, run_und h, Result.andThen_ok]
  cases d <;> rfl
end runs
theorem szAgg_some {P : Program} {t : TypeId} {n : Nat} {ag : Bool} (h : szAgg P t = some (n, ag)) :
    ∃ i d, P.info? t = some i ∧ P.underlying t = some d ∧ n = i.size ∧ ag = isAggD d := by
  unfold szAgg at h
  split at h
  · rename_i i hi
    split at h
    · rename_i d hd
      cases h
      exact ⟨i, d, hi, hd, rfl, rfl⟩
    · cases h
  · cases h

theorem cells_one {G : Ghost} {c : CV} {v : Value} (h : vrel G c v) (ho : oneC c = true) : v.cells = #[v] ∧ v.oneCell' = true := by
  cases c with
  | agg l => simp [oneC] at ho
  | tuple l => simp [oneC] at ho
  | unk => simp [oneC] at ho
  | _ =>
    simp only [vrel] at h
    first
      | (subst h; exact ⟨rfl, rfl⟩)
      | (obtain ⟨_, rfl⟩ := h; exact ⟨rfl, rfl⟩)
      | (obtain ⟨_, rfl, _⟩ := h; exact ⟨rfl, rfl⟩)
      | (obtain ⟨_, _, rfl, _⟩ := h; exact ⟨rfl, rfl⟩)
      | (obtain ⟨_, _, _, _, rfl⟩ := h; exact ⟨rfl, rfl⟩)
      | (obtain ⟨_, _, _, _, rfl, _⟩ := h; exact ⟨rfl, rfl⟩)
      | (obtain ⟨_, _, _, _, _, rfl, _⟩ := h; exact ⟨rfl, rfl⟩)
theorem csrel.oneCells {G : Ghost} {cs : List (CV × Sh)} {l : List Value} (h : csrel G cs l) (hl : l.length = cs.length) : ∀ v ∈ l, v.oneCell' = true := by
  intro v hv
  obtain ⟨j, hj, rfl⟩ := List.mem_iff_getElem.1 hv
  rw [csrel_iff] at h
  obtain ⟨k1, v', k2, k3, _⟩ := h j cs[j].1 cs[j].2 (by simp [List.getElem?_eq_getElem (hl ▸ hj)])
  have : l[j]? = some l[j] := by simp
  rw [this] at k2
  cases k2
  exact (cells_one k3 k1).2
theorem addr_add (b off n : Nat) : Addr.add ⟨b, off, none⟩ n = ⟨b, off + n, none⟩ := by
  unfold Addr.add
  split
  · rename_i h; simp [h]
  · rfl
theorem cell_at {w : World} {b off : Nat} {c : Array Value} {t : TypeId} {f : Nat × Nat} (h : w.heap[b]? = some (.cells c t f)) : w.cell? ⟨b, off, none⟩ = c[off]? := by
  simp [World.cell?, h]

theorem packC_rel {G : Ghost} {ag : Bool} {x : List (CV × Sh)} {l : List Value} {tv : TV} (h : packC ag x = some tv) (hr : csrel G x l) (hl : l.length = x.length) :
    tvrel G tv (if ag then .agg ⟨l⟩ else l.headD undef) ∧ (ag = false → l.length = 1) := by
  unfold packC at h
  cases ag with
  | true =>
    simp only [if_true, Option.some.injEq] at h
    subst h
    refine ⟨.noSlice ?_ ?_ (by simp), by simp⟩
    · simp only [vrel, if_true]
      exact ⟨l, rfl, by simpa using hl, hr.1⟩
    · simpa [Value.cells] using hr.2
  | false =>
    simp only [Bool.false_eq_true, if_false] at h
    split at h
    · rename_i c sh
      cases h
      obtain ⟨⟨h1, v, r, rfl, h2, _⟩, h3⟩ := hr
      simp only [List.length_cons, List.length_nil] at hl
      have hr0 : r = [] := by cases r with | nil => rfl | cons _ _ => simp at hl
      subst hr0
      refine ⟨.short (by simpa using h2) ?_ (by simp), by simp⟩
      simp only [Bool.false_eq_true, if_false, List.headD_cons, (cells_one h2 h1).1]
      exact h3
    · cases h

theorem run_loadVar {P : Program} {w : World} {t : TypeId} {n : Nat} {ag : Bool} {a : Addr} {l : List Value} (hs : szAgg P t = some (n, ag))
    (h : ∀ (j : Nat) v, l[j]? = some v → w.cell? (a.add j) = some v) (hl : l.length = n) (h1 : ag = false → l.length = 1) :
    (loadVar t a).run P w = .ok (if ag then .agg ⟨l⟩ else l.headD undef) w := by
  obtain ⟨i, d, hi, hd, rfl, rfl⟩ := szAgg_some hs
  unfold loadVar
  simp only [Sem.run_bind, run_isAgg hd, Result.andThen_ok]
  cases hag : isAggD d with
  | true =>
    simp only [if_true, Sem.run_bind, run_size hi, Result.andThen_ok, ← hl, run_loadCells_list w a l h, Sem.run_pure]
  | false =>
    obtain ⟨v, rfl⟩ : ∃ v, l = [v] := by
      have := h1 hag
      cases l with
      | nil => simp at this
      | cons v r => cases r with | nil => exact ⟨v, rfl⟩ | cons _ _ => simp at this
    have h0 := h 0 v (by simp)
    have : a.add 0 = a := rfl
    rw [this] at h0
    simp [h0]

theorem pre.part {G : Ghost} {cs : List CV} {l : List Value} (h : pre G cs l) {off n : Nat} {x : List CV} (hx : takeN cs off n = some x) :
    pre G x ((l.drop off).take n) ∧ x.length = n ∧ ((l.drop off).take n).length = n := by
  obtain ⟨h1, h2⟩ := takeN_some hx
  have hl := h.length_le
  have h3 : off + n ≤ cs.length ∨ n = 0 := by
    have : ((cs.drop off).take n).length = n := by rw [← h1]; exact h2
    simp at this
    omega
  refine ⟨?_, h2, by simp; omega⟩
  rw [pre_iff] at h ⊢
  intro j c hj
  rw [h1, List.getElem?_take, List.getElem?_drop] at hj
  split at hj
  · rename_i hlt
    obtain ⟨k1, v, k2, k3⟩ := h _ _ hj
    refine ⟨k1, v, ?_, k3⟩
    rw [List.getElem?_take, List.getElem?_drop]
    simp [hlt, k2]
  · cases hj

theorem loadC_sim {P : Program} {W : Frm} {G : Ghost} {s : St} {w : World} (r : Rel W G s w) {t : TypeId} {p : CV} {vp : Value} {x : TV} (hp : vrel G p vp) (h : loadC P t p s = some x) :
    ∃ v a, vp = .pointer (some a) ∧ (loadVar t a).run P w = .ok v w ∧ tvrel G x v := by
  unfold loadC at h
  split at h
  · cases h
  · rename_i n ag hs
    split at h
    · rename_i i off
      simp only [vrel] at hp
      obtain ⟨b, z, m, h1, rfl⟩ := hp
      have key : ∀ cs (c : Array Value) ty, w.heap[b]? = some (.cells c ty (0, 0)) → csrel G cs c.toList → (match takeN cs off n with | some x => packC ag x | none => none) = some x →
          ∃ v a, Value.pointer (some ⟨b, off, none⟩) = .pointer (some a) ∧ (loadVar t a).run P w = .ok v w ∧ tvrel G x v := by
        intro cs c ty hc hr hx
        split at hx
        · rename_i y hy
          obtain ⟨k1, k2, k3⟩ := hr.part hy
          obtain ⟨k4, k5⟩ := packC_rel hx k1 (by omega)
          refine ⟨_, _, rfl, run_loadVar hs (l := (c.toList.drop off).take n) ?_ k3 k5, k4⟩
          intro j v hj
          rw [addr_add, cell_at hc]
          rw [List.getElem?_take, List.getElem?_drop] at hj
          split at hj
          · simpa using hj
          · cases hj
        · cases hx
      unfold loadAtC at h
      split at h
      · rename_i cs hb
        obtain ⟨b', z', m', k1, k2⟩ := r.box i _ hb
        rw [h1] at k1
        cases k1
        obtain ⟨c, ty, k3, k4⟩ := k2
        exact key cs c ty k3 k4 h
      · rename_i z2 cs hb
        obtain ⟨b', z', m', k1, k2⟩ := r.box i _ hb
        rw [h1] at k1
        cases k1
        obtain ⟨_, c, ty, k3, k4, _⟩ := k2
        exact key cs c ty k3 k4 h
      · cases h
    · rename_i cs off
      simp only [vrel] at hp
      obtain ⟨b, o, vals, h1, rfl, h2⟩ := hp
      obtain ⟨c, ty, h3, h4⟩ := r.fr b vals h1
      split at h
      · rename_i y hy
        obtain ⟨k1, k2, k3⟩ := h2.part hy
        obtain ⟨k4, k5⟩ := packC_rel h (csrel_plain k1) (by rw [List.length_map]; omega)
        refine ⟨_, _, rfl, run_loadVar hs (l := ((vals.drop o).drop off).take n) ?_ k3 k5, k4⟩
        intro j v hj
        rw [addr_add, cell_at h3]
        rw [List.getElem?_take, List.getElem?_drop, List.getElem?_drop] at hj
        split at hj
        · obtain ⟨u, hu⟩ := h4
          have : c.toList[o + (off + j)]? = some v := by
            rw [← hu, List.getElem?_append]
            have := (List.getElem?_eq_some_iff.1 hj).1
            simp [this]
            simpa [List.getElem?_eq_some_iff, this] using hj
          rw [Nat.add_assoc]
          simpa using this
        · cases hj
      · cases h
    · cases h

/-! stores -/
theorem setCell_eq {w : World} {g k : Nat} {cur : Array Value} {t : TypeId} {f : Nat × Nat} (v : Value) (h : w.heap[g]? = some (.cells cur t f)) :
    w.setCell ⟨g, k, none⟩ v = { w with heap := w.heap.setIfInBounds g (.cells (cur.setIfInBounds k v) t f) } := by
  unfold World.setCell
  congr 1
  apply Array.ext_getElem?
  intro j
  have hlt := lt_of_obj h
  rw [Array.getElem?_modify, Array.getElem?_setIfInBounds]
  by_cases e : g = j
  · subst e
    have hg : w.heap[g] = .cells cur t f := by simpa [hlt] using h
    simp [hg, hlt]
  · simp [e]
theorem setIf_same {w : World} {g : Nat} {o : Obj} (h : w.heap[g]? = some o) : w.heap.setIfInBounds g o = w.heap := by
  apply Array.ext_getElem?
  intro j
  rw [Array.getElem?_setIfInBounds]
  by_cases e : g = j
  · subst e
    have hlt := lt_of_obj h
    have hg : w.heap[g] = o := by simpa [hlt] using h
    simp [hg, hlt]
  · simp [e]
theorem run_storeCells_at {P : Program} {g off : Nat} {t : TypeId} : ∀ (vs : List Value) (i : Nat) (cur : Array Value) (w : World), w.heap[g]? = some (.cells cur t (0, 0)) →
    off + i + vs.length ≤ cur.size → (∀ v ∈ vs, v.oneCell' = true) →
    ∃ cur' : Array Value, (storeCells ⟨g, off, none⟩ vs i).run P w = .ok () { w with heap := w.heap.setIfInBounds g (.cells cur' t (0, 0)) } ∧ cur'.size = cur.size ∧
      ∀ j : Nat, cur'[j]? = if off + i ≤ j ∧ j < off + i + vs.length then vs[j - (off + i)]? else cur[j]?
  | [], i, cur, w, h, hl, hv => by
    refine ⟨cur, ?_, rfl, fun j => ?_⟩
    · simp only [storeCells, Sem.run_pure]
      rw [setIf_same h]
    · have : ¬ (off + i ≤ j ∧ j < off + i + ([] : List Value).length) := by simp only [List.length_nil]; omega
      simp only [this, if_false]
  | v :: vs, i, cur, w, h, hl, hv => by
    simp only [List.length_cons] at hl
    have hlt := lt_of_obj h
    have hcell : w.cell? (Addr.add ⟨g, off, none⟩ i) = some cur[off + i] := by
      rw [addr_add, cell_at h]
      simp
    have hfz : w.frozen? (Addr.add ⟨g, off, none⟩ i) = false := by
      rw [addr_add]
      simp [World.frozen?, h]
    obtain ⟨cur', h1, h2, h3⟩ := run_storeCells_at (P := P) (g := g) (off := off) (t := t) vs (i + 1) (cur.setIfInBounds (off + i) v) { w with heap := w.heap.setIfInBounds g (.cells (cur.setIfInBounds (off + i) v) t (0, 0)) }
      (by simp [hlt]) (by simp; omega) (fun u hu => hv u (List.mem_cons_of_mem _ hu))
    refine ⟨cur', ?_, by simpa using h2, fun j => ?_⟩
    · simp only [storeCells, Sem.run_bind, run_store P w _ v _ (hv v (List.mem_cons_self ..)), hcell, hfz, Bool.false_eq_true, if_false, Result.andThen_ok]
      rw [addr_add, setCell_eq v h, h1]
      simp
    · rw [h3]
      simp only [List.length_cons]
      by_cases e : j = off + i
      · subst e
        have h4 : ¬ (off + (i + 1) ≤ off + i ∧ off + i < off + (i + 1) + vs.length) := by omega
        have h5 : off + i ≤ off + i ∧ off + i < off + i + (vs.length + 1) := by omega
        simp only [h4, h5, if_false, and_self, if_true, Nat.sub_self, List.getElem?_cons_zero]
        have : off + i < cur.size := by omega
        simp [this]
      · by_cases k : off + i ≤ j ∧ j < off + i + (vs.length + 1)
        · have h4 : off + (i + 1) ≤ j ∧ j < off + (i + 1) + vs.length := by omega
          obtain ⟨q, hq⟩ : ∃ q, j - (off + i) = q + 1 := ⟨j - (off + i) - 1, by omega⟩
          have hq' : j - (off + (i + 1)) = q := by omega
          simp only [h4, k, and_self, if_true, hq, hq', List.getElem?_cons_succ]
        · have h4 : ¬ (off + (i + 1) ≤ j ∧ j < off + (i + 1) + vs.length) := by omega
          simp only [h4, k, if_false]
          rw [Array.getElem?_setIfInBounds_ne (by omega)]

theorem onto_get : ∀ {cs new cs' : List (CV × Sh)}, onto cs new = some cs' → new.length ≤ cs.length ∧ cs'.length = cs.length ∧
    ∀ j : Nat, cs'[j]? = if j < new.length then new[j]? else cs[j]?
  | cs, [], cs', h => by simp [onto] at h; subst h; simp
  | [], _ :: _, _, h => by simp [onto] at h
  | c :: cs, n :: new, cs', h => by
    simp only [onto] at h
    split at h
    · rename_i r hr
      cases h
      obtain ⟨h1, h2, h3⟩ := onto_get hr
      refine ⟨by simp; omega, by simp [h2], fun j => ?_⟩
      cases j with
      | zero => simp
      | succ j => simp [h3 j]
    · cases h
theorem overlay_get : ∀ {cs new cs' : List (CV × Sh)} {off : Nat}, overlay cs off new = some cs' → off + new.length ≤ cs.length ∧ cs'.length = cs.length ∧
    ∀ j : Nat, cs'[j]? = if off ≤ j ∧ j < off + new.length then new[j - off]? else cs[j]?
  | cs, new, cs', 0, h => by
    simp only [overlay] at h
    simpa using onto_get h
  | [], _, _, _ + 1, h => by simp [overlay] at h
  | c :: cs, new, cs', off + 1, h => by
    simp only [overlay] at h
    split at h
    · rename_i r hr
      cases h
      obtain ⟨h1, h2, h3⟩ := overlay_get hr
      refine ⟨by simp; omega, by simp [h2], fun j => ?_⟩
      cases j with
      | zero => simp
      | succ j =>
        simp only [List.getElem?_cons_succ, h3 j]
        have e1 : (off + 1 ≤ j + 1 ∧ j + 1 < off + 1 + new.length) ↔ (off ≤ j ∧ j < off + new.length) := by omega
        have e2 : j + 1 - (off + 1) = j - off := by omega
        simp only [e1, e2]
    · cases h
theorem overlay_rel {G : Ghost} {cs new cs' : List (CV × Sh)} {off : Nat} {l vs l' : List Value} (h : overlay cs off new = some cs') (hc : csrel G cs l) (hn : csrel G new vs)
    (hl : vs.length = new.length) (hv : ∀ j : Nat, l'[j]? = if off ≤ j ∧ j < off + vs.length then vs[j - off]? else l[j]?) : csrel G cs' l' := by
  obtain ⟨_, _, h3⟩ := overlay_get h
  rw [csrel_iff] at hc hn ⊢
  intro j c sh hj
  rw [h3] at hj
  rw [hv j, hl]
  split at hj
  · rename_i k
    simp only [k, and_self, if_true]
    exact hn _ _ _ hj
  · rename_i k
    simp only [k, if_false]
    exact hc _ _ _ hj

theorem storeC_sim {P : Program} {W : Frm} {G : Ghost} {s s' : St} {w : World} (r : Rel W G s w) {t : TypeId} {p : CV} {vp v : Value} {x : TV} (hp : vrel G p vp) (hx : tvrel G x v)
    (h : storeC P t p x s = some s') : ∃ w', (Instr.storeAt t vp v).run P w = .ok () w' ∧ Rel W G s' w' := by
  unfold storeC at h
  split at h
  · rename_i n ag new hs hn
    obtain ⟨i, d, hi, hd, rfl, rfl⟩ := szAgg_some hs
    obtain ⟨hc, hsz⟩ := hx.cells hn
    split at h
    · rename_i hlen
      have hlen := Nat.eq_of_beq_eq_true hlen
      unfold storeTo at h
      split at h
      · rename_i k off
        simp only [vrel] at hp
        obtain ⟨b, z, m, h1, rfl⟩ := hp
        have key : ∀ (cs cs' : List (CV × Sh)) (c : Array Value) (ty : TypeId), w.heap[b]? = some (.cells c ty (0, 0)) → csrel G cs c.toList → overlay cs off new = some cs' →
            ∃ c' : Array Value, (Instr.storeAt t (.pointer (some ⟨b, off, none⟩)) v).run P w = .ok () { w with heap := w.heap.setIfInBounds b (.cells c' ty (0, 0)) } ∧ c'.size = c.size ∧ csrel G cs' c'.toList := by
          intro cs cs' c ty hc1 hr ho
          obtain ⟨k1, k2, k3⟩ := overlay_get ho
          have hle := hr.length_le
          simp only [Array.length_toList] at hle
          have hvl : v.cells.toList.length = new.length := by simpa using hsz
          obtain ⟨c', q1, q2, q3⟩ := run_storeCells_at (P := P) (g := b) (off := off) (t := ty) v.cells.toList 0 c w hc1 (by omega) (hc.oneCells (by simpa using hsz))
          refine ⟨c', ?_, q2, overlay_rel ho hr hc (by simpa using hsz) fun j => by simpa using q3 j⟩
          simp [Instr.storeAt, Instr.sureAddr, storeVar, run_size hi, hsz, hlen, q1]
        unfold storeAtC at h
        split at h
        · rename_i cs hb
          split at h
          · rename_i cs' ho
            cases h
            obtain ⟨b', z', m', k1, k2⟩ := r.box k _ hb
            rw [h1] at k1
            cases k1
            obtain ⟨c, ty, k3, k4⟩ := k2
            obtain ⟨c', q1, q2, q3⟩ := key cs cs' c ty k3 k4 ho
            exact ⟨_, q1, r.setBox hb trivial h1 rfl ⟨c', ty, rfl, q3⟩ trivial⟩
          · cases h
        · rename_i z2 cs hb
          split at h
          · rename_i cs' ho
            cases h
            obtain ⟨b', z', m', k1, k2⟩ := r.box k _ hb
            rw [h1] at k1
            cases k1
            obtain ⟨e, c, ty, k3, k4, k5⟩ := k2
            obtain ⟨c', q1, q2, q3⟩ := key cs cs' c ty k3 k4 ho
            exact ⟨_, q1, r.setBox hb trivial h1 rfl ⟨e, c', ty, rfl, q3, by omega⟩ trivial⟩
          · cases h
        · cases h
      · cases h
    · cases h
  · cases h
end Go.CE

namespace Go.CE

/-! slots -/
theorem nth_upd {α : Type} (d : α) : ∀ (l : List α) (i j : Nat) (f : α → α), nth d (upd d l i f) j = if j = i then f (nth d l i) else nth d l j
  | [], 0, 0, f => by simp [nth, upd]
  | [], 0, j + 1, f => by simp [nth, upd]
  | [], i + 1, 0, f => by simp [nth, upd]
  | [], i + 1, j + 1, f => by
    have := nth_upd d [] i j f
    simp only [nth, upd, this, Nat.add_right_cancel_iff]
  | x :: l, 0, 0, f => by simp [nth, upd]
  | x :: l, 0, j + 1, f => by simp [nth, upd]
  | x :: l, i + 1, 0, f => by simp [nth, upd]
  | x :: l, i + 1, j + 1, f => by
    have := nth_upd d l i j f
    simp only [nth, upd, this, Nat.add_right_cancel_iff]
theorem nth_nil {α : Type} (d : α) (i : Nat) : nth d [] i = d := by cases i <;> rfl
theorem get_put (l : Slots) (i j : Nat) (v : TV) : (l.put i v).get j = if j = i then v else l.get j := by
  have h1 := nth_upd ([] : List TV) (l : List (List TV)) (i / 8) (j / 8) (fun r => upd undefC r (i % 8) (fun _ => v))
  have h2 : (l.put i v).get j = nth undefC (if j / 8 = i / 8 then upd undefC (nth ([] : List TV) (l : List (List TV)) (i / 8)) (i % 8) (fun _ => v) else nth ([] : List TV) (l : List (List TV)) (j / 8)) (j % 8) :=
    congrArg (fun r => nth undefC r (j % 8)) h1
  rw [h2]
  by_cases h : j / 8 = i / 8
  · simp only [h, if_true]
    rw [nth_upd]
    by_cases k : j % 8 = i % 8
    · have : j = i := by omega
      simp [this]
    · have : j ≠ i := fun e => k (by rw [e])
      simp only [this, k, if_false]
      rw [← h]
      rfl
  · have : j ≠ i := fun e => h (by rw [e])
    simp only [this, h, if_false]
    rfl

def tvrels (G : Ghost) : List TV → List Value → Prop
  | [], l => l = []
  | x :: xs, l => ∃ v r, l = v :: r ∧ tvrel G x v ∧ tvrels G xs r
theorem tvrels_mono {G G' : Ghost} (le : G.le G') : ∀ {xs : List TV} {l : List Value}, tvrels G xs l → tvrels G' xs l
  | [], _, h => h
  | _ :: _, _, ⟨v, r, h1, h2, h3⟩ => ⟨v, r, h1, h2.mono le, tvrels_mono le h3⟩
theorem tvrels_append {G : Ghost} : ∀ {xs ys : List TV} {l m : List Value}, tvrels G xs l → tvrels G ys m → tvrels G (xs ++ ys) (l ++ m)
  | [], _, _, _, h, k => by subst h; exact k
  | _ :: _, _, _, _, ⟨v, r, h1, h2, h3⟩, k => ⟨v, _, by rw [h1, List.cons_append], h2, tvrels_append h3 k⟩
theorem tvrels_length {G : Ghost} : ∀ {xs : List TV} {l : List Value}, tvrels G xs l → l.length = xs.length
  | [], _, h => by subst h; rfl
  | _ :: _, _, ⟨v, r, h1, _, h3⟩ => by rw [h1]; simp [tvrels_length h3]
theorem tvrels_noSh {G : Ghost} : ∀ {cs : List CV} {l : List Value}, vrels G cs l → tvrels G (noSh cs) l
  | [], _, h => h
  | c :: cs, l, h => by
    simp only [vrels] at h
    obtain ⟨v, r, h1, h2, h3⟩ := h
    exact ⟨v, r, h1, .short h2 (by simp [hrel] : hrel G [] _) (by simp [plain]), tvrels_noSh h3⟩
theorem vrels_of_tv {G : Ghost} : ∀ {xs : List TV} {l : List Value}, tvrels G xs l → vrels G (xs.map (·.v)) l
  | [], _, h => h
  | _ :: _, _, ⟨v, r, h1, h2, h3⟩ => ⟨v, r, h1, h2.rv, vrels_of_tv h3⟩

def drel (G : Ghost) (f : FuncId) (xs : List TV) (d : Deferred) : Prop :=
  ∃ cap dargs, d = ⟨.fn (.func f) cap, dargs⟩ ∧ tvrels G xs (dargs.toList ++ cap.toList)
def dsrel (G : Ghost) : List (FuncId × List TV) → List Deferred → Prop
  | [], l => l = []
  | (f, xs) :: r, l => ∃ d t, l = d :: t ∧ drel G f xs d ∧ dsrel G r t
theorem dsrel_mono {G G' : Ghost} (le : G.le G') : ∀ {xs : List (FuncId × List TV)} {l : List Deferred}, dsrel G xs l → dsrel G' xs l
  | [], _, h => h
  | (_, _) :: _, _, ⟨d, t, h1, ⟨cap, dargs, h2, h3⟩, h4⟩ => ⟨d, t, h1, ⟨cap, dargs, h2, tvrels_mono le h3⟩, dsrel_mono le h4⟩

structure arel (G : Ghost) (n : Nat) (a : CAct) (A : Act) : Prop where
  size : A.tmps.size = n
  slot : ∀ t, tvrel G (a.slots.get t) (A.tmps.getD t undef)
  defers : dsrel G a.defers A.defers
theorem arel.mono {G G' : Ghost} (le : G.le G') {n : Nat} {a : CAct} {A : Act} (h : arel G n a A) : arel G' n a A :=
  ⟨h.size, fun t => (h.slot t).mono le, dsrel_mono le h.defers⟩
theorem undef_rel {G : Ghost} : tvrel G undefC undef := .short (by simp [undefC, vrel, vrels, undef]) (by simp [undefC, hrel]) (by simp [undefC])
theorem unk_rel {G : Ghost} {v : Value} : tvrel G unkC v := .short (by simp [unkC, vrel]) (by simp [unkC, hrel]) (by simp [unkC])
theorem plain_rel {G : Ghost} {c : CV} {v : Value} (h : vrel G c v) : tvrel G (plain c) v := .short h (by simp [plain, hrel]) (by simp [plain])
theorem arel.put {G : Ghost} {n : Nat} {a : CAct} {A : Act} (h : arel G n a A) {dst : Option Tmp} (hd : ∀ d, dst = some d → d < n) {x : TV} {v : Value} (hx : tvrel G x v) :
    arel G n (a.put dst x) (A.put dst v) := by
  cases dst with
  | none => exact h
  | some d =>
    refine ⟨by simp [Act.put, h.size], fun t => ?_, h.defers⟩
    simp only [CAct.put, Act.put, get_put]
    have hlt : d < A.tmps.size := by rw [h.size]; exact hd d rfl
    by_cases e : t = d
    · subst e
      simpa [Array.getD_eq_getD_getElem?, hlt] using hx
    · have := h.slot t
      simp only [e, if_false]
      simpa [Array.getD_eq_getD_getElem?, Array.getElem?_setIfInBounds_ne (Ne.symm e)] using this

/-! constants -/
mutual
theorem ofValue_rel {G : Ghost} : ∀ (v : Value) (c : CV), ofValue v = some c → vrel G c v ∧ shrel G (shOf c) v
  | .bool b, c, h => by simp [ofValue] at h; subst h; simp [vrel, shOf, shrel]
  | .int k n, c, h => by simp [ofValue] at h; subst h; simp [vrel, shOf, shrel]
  | .string s, c, h => by simp [ofValue] at h; subst h; simp [vrel, shOf, shrel]
  | .pointer none, c, h => by simp [ofValue] at h; subst h; simp [vrel, shOf, shrel]
  | .pointer (some _), c, h => by simp [ofValue] at h
  | .slice none 0 0, c, h => by simp [ofValue] at h; subst h; simp [vrel, shOf, shrel]
  | .slice none 0 (_ + 1), c, h => by simp [ofValue] at h
  | .slice none (_ + 1) _, c, h => by simp [ofValue] at h
  | .slice (some _) _ _, c, h => by simp [ofValue] at h
  | .map none, c, h => by simp [ofValue] at h; subst h; simp [vrel, shOf, shrel]
  | .map (some _), c, h => by simp [ofValue] at h
  | .nilFunc, c, h => by simp [ofValue] at h; subst h; simp [vrel, shOf, shrel]
  | .nilIface, c, h => by simp [ofValue] at h; subst h; simp [vrel, shOf, shrel]
  | .func (.func f) ⟨[]⟩ ⟨[]⟩, c, h => by simp [ofValue] at h; subst h; simp [vrel, vrels, shOf, shrel]
  | .func (.func f) ⟨[]⟩ ⟨_ :: _⟩, c, h => by simp [ofValue] at h
  | .func (.func f) ⟨_ :: _⟩ _, c, h => by simp [ofValue] at h
  | .func (.method _) _ _, c, h => by simp [ofValue] at h
  | .func (.methodOf _ _) _ _, c, h => by simp [ofValue] at h
  | .func (.via _ _ _ _) _ _, c, h => by simp [ofValue] at h
  | .func (.yield _) _ _, c, h => by simp [ofValue] at h
  | .agg ⟨cs⟩, c, h => by
    simp only [ofValue] at h
    split at h
    · rename_i l hl
      cases h
      have := ofValues_rel (G := G) cs l hl
      simp only [vrel, shOf, shrel, and_true]
      exact ⟨cs, rfl, this.2.1, this.1⟩
    · cases h
  | .tuple ⟨[]⟩, c, h => by simp [ofValue] at h; subst h; simp [vrel, vrels, shOf, shrel]
  | .tuple ⟨_ :: _⟩, c, h => by simp [ofValue] at h
  | .float _ _, c, h => by simp [ofValue] at h
  | .complex _ _ _, c, h => by simp [ofValue] at h
  | .chan _, c, h => by simp [ofValue] at h
  | .iface _ _, c, h => by simp [ofValue] at h
theorem ofValues_rel {G : Ghost} : ∀ (vs : List Value) (cs : List CV), ofValues vs = some cs → pre G cs vs ∧ vs.length = cs.length ∧ hrel G (cs.map shOf) vs
  | [], cs, h => by simp [ofValues] at h; subst h; simp [pre, hrel]
  | v :: vs, cs, h => by
    simp only [ofValues] at h
    split at h
    · rename_i a ha
      split at h
      · rename_i ho
        split at h
        · rename_i b hb
          cases h
          have h1 := ofValue_rel (G := G) v a ha
          have h2 := ofValues_rel (G := G) vs b hb
          refine ⟨?_, by simp [h2.2.1], ?_⟩
          · simp only [pre]
            exact ⟨ho, v, vs, rfl, h1.1, h2.1⟩
          · exact ⟨h1.2, h2.2.2⟩
        · cases h
      · cases h
    · cases h
end
theorem ofValue_agg {v : Value} {l : List CV} (h : ofValue v = some (.agg l)) : ∃ cs, v = .agg ⟨cs⟩ ∧ ofValues cs = some l := by
  unfold ofValue at h
  split at h <;> first
    | (cases h; done)
    | (split at h
       · rename_i cs l' hl
         cases h
         exact ⟨_, rfl, hl⟩
       · cases h)
theorem ofConst_rel {G : Ghost} {v : Value} {x : TV} (h : ofConst v = some x) : tvrel G x v := by
  unfold ofConst at h
  split at h
  · rename_i c hc
    cases h
    have h1 := ofValue_rel (G := G) v c hc
    have hro : (shsOf c).length ≤ 1 ∨ ∀ rows, c ≠ .slice rows := by
      cases c <;> first | (left; simp [shsOf, CV.cells?]; done) | (right; intro _ e; cases e)
    suffices hs : hrel G (shsOf c) v.cells.toList by
      rcases hro with k | k
      · exact .short h1.1 hs k
      · exact .noSlice h1.1 hs k
    unfold shsOf
    cases c with
    | agg l =>
      simp only [CV.cells?]
      obtain ⟨cs, rfl, hl⟩ := ofValue_agg hc
      have := (ofValues_rel (G := G) cs l hl).2.2
      simpa [Value.cells] using this
    | tuple l => simp [CV.cells?, hrel]
    | unk => simp [CV.cells?, hrel]
    | _ =>
      simp only [CV.cells?, List.map_cons, List.map_nil]
      rw [(cells_one h1.1 rfl).1]
      exact ⟨h1.2, trivial⟩
  · cases h

theorem zeroC_some {P : Program} {t : TypeId} {x : TV} (h : zeroC P t = some x) : ∃ i v, P.info? t = some i ∧ i.zero = some v ∧ ofConst v = some x := by
  unfold zeroC at h
  split at h
  · rename_i i hi
    split at h
    · rename_i v hv
      exact ⟨i, v, hi, hv, h⟩
    · cases h
  · cases h

theorem arel.eval {G : Ghost} {n : Nat} {a : CAct} {A : Act} (h : arel G n a A) {x : Operand} {y : TV} (hx : a.eval x = some y) : tvrel G y (A.eval x) := by
  cases x with
  | tmp t => simp only [CAct.eval, Option.some.injEq] at hx; subst hx; exact h.slot t
  | const v => exact ofConst_rel hx
  | global g => simp only [CAct.eval, Option.some.injEq] at hx; subst hx; exact plain_rel (by simp [vrel, Act.eval])
  | func f => simp only [CAct.eval, Option.some.injEq] at hx; subst hx; exact plain_rel (by simp [vrel, vrels, Act.eval])
theorem arel.evals {G : Ghost} {n : Nat} {a : CAct} {A : Act} (h : arel G n a A) : ∀ {l : List Operand} {xs : List TV}, evals a l = some xs → tvrels G xs (l.map A.eval)
  | [], xs, hx => by simp [CE.evals] at hx; subst hx; rfl
  | x :: l, xs, hx => by
    simp only [CE.evals] at hx
    split at hx
    · rename_i v hv
      split at hx
      · rename_i r hr
        cases hx
        exact ⟨_, _, rfl, h.eval hv, h.evals hr⟩
      · cases hx
    · cases hx

/-! what an operation comes to -/
def Ans (W : Frm) (G : Ghost) (res : Result Next) : OpRes × St → Prop
  | (.val x, s') => ∃ G' w' v, G.le G' ∧ Rel W G' s' w' ∧ res = .ok (.value v) w' ∧ tvrel G' x v
  | (.skip, s') => ∃ G' w', G.le G' ∧ Rel W G' s' w' ∧ res = .ok .skip w'
  | (.panic c, s') => ∃ G' w' v, G.le G' ∧ Rel W G' s' w' ∧ res = .halt (.panic v) w' ∧ vrel G' c v
  | (.defer f xs, s') => ∃ G' w' d, G.le G' ∧ Rel W G' s' w' ∧ res = .ok (.defer d) w' ∧ drel G' f xs d
/-- a pure value -/
theorem Ans.val {W : Frm} {G : Ghost} {res : Result Next} {s : St} {w : World} {x : TV} {v : Value} (r : Rel W G s w) (h : res = .ok (.value v) w) (hx : tvrel G x v) :
    Ans W G res (.val x, s) := ⟨G, w, v, G.le_refl, r, h, hx⟩
end Go.CE
