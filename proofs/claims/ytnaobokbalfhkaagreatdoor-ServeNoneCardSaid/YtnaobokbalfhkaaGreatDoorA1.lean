/- The clean interpreter: the model's code run over values without addresses, by fuel; it gives up wherever the model could answer in more than one way. Definitions alone. -/
import Derived.Calls
namespace Go.CE

inductive CV where
  | bool (b : Bool)
  | int (k : IntKind) (n : Int)
  | str (s : List UInt8)
  | nilptr
  | ptr (i off : Nat)
  | gptr (g : Nat)
  | imm (cells : List CV) (off : Nat)
  | slice (rows : List (List CV))
  | bsl (i off len : Nat)
  | nilmap
  | map (i : Nat)
  | fn (f : FuncId) (captured : List CV)
  | nilFunc
  | iface (t : TypeId) (v : CV)
  | nilIface
  | agg (cs : List CV)
  | tuple (vs : List CV)
  /-- whatever it is -/
  | unk
  deriving Inhabited

inductive Sh where
  | no | full | tok (i e : Nat)
  deriving Inhabited, DecidableEq

structure TV where
  v : CV
  sh : List Sh
  deriving Inhabited

inductive Box where
  | cells (cs : List (CV × Sh))
  | map (es : List (CV × CV))
  | arr (z : Nat) (cs : List (CV × Sh))
  | dead
  deriving Inhabited

structure St where
  boxes : List (Nat × Box)
  nb : Nat
  toks : List (Nat × (Nat × Nat))
  nt : Nat
  deriving Inhabited

def look {α : Type} : List (Nat × α) → Nat → Option α
  | [], _ => none
  | (j, x) :: l, i => match Nat.beq j i with | true => some x | false => look l i
def alter {α : Type} : List (Nat × α) → Nat → α → List (Nat × α)
  | [], _, _ => []
  | (j, x) :: l, i, y => match Nat.beq j i with | true => (j, y) :: l | false => (j, x) :: alter l i y
/-- what is older than the number n -/
def older {α : Type} : List (Nat × α) → Nat → List (Nat × α)
  | [], _ => []
  | (j, x) :: l, n => match Nat.blt j n with | true => (j, x) :: l | false => older l n
def St.box (s : St) (i : Nat) : Option Box := look s.boxes i
def St.tok (s : St) (i : Nat) : Option (Nat × Nat) := look s.toks i
def St.push (s : St) (b : Box) : St := { s with boxes := (s.nb, b) :: s.boxes, nb := s.nb + 1 }
def St.setBox (s : St) (i : Nat) (b : Box) : St := { s with boxes := alter s.boxes i b }
def St.pushTok (s : St) (e z : Nat) : St := { s with toks := (s.nt, (e, z)) :: s.toks, nt := s.nt + 1 }
def St.setTok (s : St) (i e z : Nat) : St := { s with toks := alter s.toks i (e, z) }

def CV.cells? : CV → Option (List CV)
  | .agg cs => some cs
  | .tuple _ => none
  | .unk => none
  | v => some [v]
/-- what lies in one cell -/
def oneC : CV → Bool
  | .agg _ => false
  | .tuple _ => false
  | .unk => false
  | _ => true

def shAt (sh : List Sh) (j : Nat) : Sh := sh.getD j .no
def withSh : List CV → List Sh → List (CV × Sh)
  | [], _ => []
  | c :: cs, [] => (c, .no) :: withSh cs []
  | c :: cs, h :: hs => (c, h) :: withSh cs hs
def TV.cells? (x : TV) : Option (List (CV × Sh)) := match x.v.cells? with | some cs => some (withSh cs x.sh) | none => none
def plain (v : CV) : TV := ⟨v, []⟩
def undefC : TV := ⟨.tuple [], []⟩
def unkC : TV := ⟨.unk, []⟩

mutual
def ofValue : Value → Option CV
  | .bool b => some (.bool b)
  | .int k n => some (.int k n)
  | .string s => some (.str s.data.toList)
  | .pointer none => some .nilptr
  | .slice none 0 0 => some (.slice [])
  | .map none => some .nilmap
  | .nilFunc => some .nilFunc
  | .nilIface => some .nilIface
  | .func (.func f) ⟨[]⟩ ⟨[]⟩ => some (.fn f [])
  | .agg ⟨cs⟩ => match ofValues cs with | some l => some (.agg l) | none => none
  | .tuple ⟨[]⟩ => some (.tuple [])
  | _ => none
/-- of cells -/
def ofValues : List Value → Option (List CV)
  | [] => some []
  | v :: vs => match ofValue v with
    | some a => match oneC a with
      | true => match ofValues vs with | some b => some (a :: b) | none => none
      | false => none
    | none => none
end
def shOf : CV → Sh
  | .slice [] => .full
  | _ => .no
/-- of a constant, a zero value: its slices are nil -/
def shsOf (c : CV) : List Sh := match c.cells? with | some cs => cs.map shOf | none => []
def ofConst (v : Value) : Option TV := match ofValue v with | some c => some ⟨c, shsOf c⟩ | none => none

/-- slots: rows of eight -/
def nth {α : Type} (d : α) : List α → Nat → α
  | [], _ => d
  | x :: _, 0 => x
  | _ :: l, n + 1 => nth d l n
def upd {α : Type} (d : α) : List α → Nat → (α → α) → List α
  | [], 0, f => [f d]
  | [], n + 1, f => d :: upd d [] n f
  | x :: l, 0, f => f x :: l
  | x :: l, n + 1, f => x :: upd d l n f
def Slots := List (List TV)
def Slots.get (l : Slots) (i : Nat) : TV := nth undefC (nth [] l (i / 8)) (i % 8)
def Slots.put (l : Slots) (i : Nat) (v : TV) : Slots := upd ([] : List TV) l (i / 8) (fun r => upd undefC r (i % 8) (fun _ => v))
def Slots.ofArgs : List TV → Nat → Slots → Slots
  | [], _, l => l
  | v :: r, i, l => Slots.ofArgs r (i + 1) (l.put i v)
instance : Inhabited Slots := ⟨([] : List (List TV))⟩

structure CAct where
  slots : Slots
  defers : List (FuncId × List TV)
  deriving Inhabited

inductive CRes where
  | ret (v : TV)
  | panic (v : CV)
  deriving Inhabited

inductive CExit where
  | normal | exit (id : Nat) | goto (l : Nat) | ret | panic (v : CV)
  deriving Inhabited

def CAct.eval (a : CAct) : Operand → Option TV
  | .tmp t => some (a.slots.get t)
  | .const v => ofConst v
  | .global g => some (plain (.gptr g))
  | .func f => some (plain (.fn f []))

def CAct.put (a : CAct) (dst : Option Tmp) (v : TV) : CAct :=
  match dst with
  | some d => { a with slots := a.slots.put d v }
  | none => a

/-! types -/
def isAggD : TypeDesc → Bool
  | .struct _ | .array _ _ => true
  | _ => false
/-- cells, is it an aggregate -/
def szAgg (P : Program) (t : TypeId) : Option (Nat × Bool) :=
  match P.info? t with
  | some i => match P.underlying t with
    | some d => some (i.size, isAggD d)
    | none => none
  | none => none
def zeroC (P : Program) (t : TypeId) : Option TV :=
  match P.info? t with
  | some i => match i.zero with | some v => ofConst v | none => none
  | none => none

def packC (agg : Bool) (cs : List (CV × Sh)) : Option TV :=
  if agg then some ⟨.agg (cs.map (·.1)), cs.map (·.2)⟩
  else match cs with | [(c, h)] => some ⟨c, [h]⟩ | _ => none

def firstN {α : Type} : List α → Nat → Option (List α)
  | _, 0 => some []
  | [], _ + 1 => none
  | x :: l, n + 1 => match firstN l n with | some r => some (x :: r) | none => none
def dropN {α : Type} : List α → Nat → List α
  | l, 0 => l
  | [], _ + 1 => []
  | _ :: l, n + 1 => dropN l n
def takeN {α : Type} (l : List α) (off n : Nat) : Option (List α) := firstN (dropN l off) n

def loadAtC (ag : Bool) (n off : Nat) : Option Box → Option TV
  | some (.cells cs) => match takeN cs off n with | some x => packC ag x | none => none
  | some (.arr _ cs) => match takeN cs off n with | some x => packC ag x | none => none
  | _ => none
def loadC (P : Program) (t : TypeId) (p : CV) (s : St) : Option TV :=
  match szAgg P t with
  | none => none
  | some (n, ag) => match p with
    | .ptr i off => loadAtC ag n off (s.box i)
    | .imm cs off => match takeN cs off n with | some x => packC ag (x.map (·, .no)) | none => none
    | _ => none

/-- cells, some of them overlaid; none: there are not so many -/
def onto : List (CV × Sh) → List (CV × Sh) → Option (List (CV × Sh))
  | cs, [] => some cs
  | [], _ :: _ => none
  | _ :: cs, n :: new => match onto cs new with | some r => some (n :: r) | none => none
def overlay : List (CV × Sh) → Nat → List (CV × Sh) → Option (List (CV × Sh))
  | cs, 0, new => onto cs new
  | [], _ + 1, _ => none
  | c :: cs, n + 1, new => match overlay cs n new with | some r => some (c :: r) | none => none

def storeAtC (s : St) (new : List (CV × Sh)) (i off : Nat) : Option Box → Option St
  | some (.cells cs) => match overlay cs off new with | some cs => some (s.setBox i (.cells cs)) | none => none
  | some (.arr z cs) => match overlay cs off new with | some cs => some (s.setBox i (.arr z cs)) | none => none
  | _ => none
def storeTo (s : St) (new : List (CV × Sh)) : CV → Option St
  | .ptr i off => storeAtC s new i off (s.box i)
  | _ => none
def storeC (P : Program) (t : TypeId) (p : CV) (x : TV) (s : St) : Option St :=
  match szAgg P t, x.cells? with
  | some (n, _), some new => match Nat.beq new.length n with
    | true => storeTo s new p
    | false => none
  | _, _ => none

def nthO {α : Type} : List α → Nat → Option α
  | [], _ => none
  | x :: _, 0 => some x
  | _ :: l, n + 1 => nthO l n
def fillC (place : Nat → Option (Nat × Nat)) (cells : List (CV × Sh)) : List (Nat × TV) → Option (List (CV × Sh))
  | [] => some cells
  | (i, v) :: rest => match place i, v.cells? with
    | some (off, size), some new => match Nat.beq new.length size with
      | true => match overlay cells off new with | some cells => fillC place cells rest | none => none
      | false => none
    | _, _ => none

def evals (a : CAct) : List Operand → Option (List TV)
  | [] => some []
  | x :: l => match a.eval x with
    | some v => match evals a l with | some r => some (v :: r) | none => none
    | none => none
def evalParts (a : CAct) : List (Nat × Operand) → Option (List (Nat × TV))
  | [] => some []
  | (i, x) :: l => match a.eval x with
    | some v => match evalParts a l with | some r => some ((i, v) :: r) | none => none
    | none => none

def bytesLess : List UInt8 → List UInt8 → Bool
  | _, [] => false
  | [], _ :: _ => true
  | a :: x, b :: y => match Nat.blt a.toNat b.toNat with | true => true | false => match Nat.beq a.toNat b.toNat with | true => bytesLess x y | false => false
def bytesEq : List UInt8 → List UInt8 → Bool
  | [], [] => true
  | a :: x, b :: y => match Nat.beq a.toNat b.toNat with | true => bytesEq x y | false => false
  | _, _ => false

/-- a part of a struct, an array -/
def cutP (l : List CV) (off : Nat) : Option (Nat × Bool) → Option CV
  | some (n, true) => match takeN l off n with | some x => some (.agg x) | none => none
  | some (_, false) => nthO l off
  | none => none
def eqTwo (f : CV → CV → Option Bool) (k : Unit → Option Bool) : Option CV → Option CV → Option Bool
  | some u, some v => match f u v with
    | some true => k ()
    | some false => some false
    | none => none
  | _, _ => none
def eqAt (f : TypeId → CV → CV → Option Bool) (szag : TypeId → Option (Nat × Bool)) (xs ys : List CV) : List Field → Option Bool
  | [] => some true
  | fd :: r => match fd.name == "_" with
    | true => none
    | false => eqTwo (f fd.type) (fun _ => eqAt f szag xs ys r) (cutP xs fd.offset (szag fd.type)) (cutP ys fd.offset (szag fd.type))
def eqRow (f : CV → CV → Option Bool) (z : Nat) (sa : Option (Nat × Bool)) (xs ys : List CV) : List Nat → Option Bool
  | [] => some true
  | i :: r => eqTwo f (fun _ => eqRow f z sa xs ys r) (cutP xs (i * z) sa) (cutP ys (i * z) sa)
def upFrom : Nat → Nat → List Nat
  | _, 0 => []
  | i, n + 1 => i :: upFrom (i + 1) n

def eqC (P : Program) : Nat → TypeId → CV → CV → Option Bool
  | 0, _, _, _ => none
  | d + 1, t, x, y =>
    match P.underlying t with
    | none => none
    | some u =>
    match u, x, y with
    | .bool, .bool a, .bool b => some (a == b)
    | .int _, .int k a, .int k' b => if k = k' then some (a == b) else none
    | .string, .str a, .str b => some (bytesEq a b)
    | .pointer _, .nilptr, .nilptr => some true
    | .pointer _, .nilptr, .ptr _ _ | .pointer _, .ptr _ _, .nilptr => some false
    | .interface ms, .nilIface, .nilIface => if ms.isEmpty then some true else none
    | .interface _, .nilIface, .iface _ _ | .interface _, .iface _ _, .nilIface => some false
    | .func _ _ _, .nilFunc, .nilFunc => some true
    | .func _ _ _, .nilFunc, .fn _ _ | .func _ _ _, .fn _ _, .nilFunc => some false
    | .map _ _, .nilmap, .nilmap => some true
    | .map _ _, .map _, .nilmap => some false
    | .struct fs, .agg xs, .agg ys => match P.stoodInHeld t || P.eqGuardType P.depth t with
      | false => eqAt (eqC P d) (szAgg P) xs ys fs.toList
      | true => none
    | .array len e, .agg xs, .agg ys => match (match P.eqGuardType P.depth t with | false => szAgg P e | true => none) with
      | some (z, ag) => eqRow (eqC P d e) z (some (z, ag)) xs ys (upFrom 0 len)
      | none => none
    | _, _, _ => none

def intLt : Int → Int → Bool
  | .ofNat a, .ofNat b => Nat.blt a b
  | .ofNat _, .negSucc _ => false
  | .negSucc _, .ofNat _ => true
  | .negSucc a, .negSucc b => Nat.blt b a
def intLe : Int → Int → Bool
  | .ofNat a, .ofNat b => Nat.ble a b
  | .ofNat _, .negSucc _ => false
  | .negSucc _, .ofNat _ => true
  | .negSucc a, .negSucc b => Nat.ble b a
def intEq : Int → Int → Bool
  | .ofNat a, .ofNat b => Nat.beq a b
  | .negSucc a, .negSucc b => Nat.beq a b
  | _, _ => false
/-- wrap, at once where there is nothing to wrap -/
def wrapF (k : IntKind) (n : Int) : Int :=
  match n with
  | .ofNat m => match Nat.blt m 128 with
    | true => .ofNat m
    | false => match k with
      | .i64 => match Nat.blt m 4611686018427387904 with | true => .ofNat m | false => k.wrap n
      | .u8 => match Nat.blt m 256 with | true => .ofNat m | false => k.wrap n
      | _ => k.wrap n
  | _ => k.wrap n

def bits2 (f : (k : IntKind) → BitVec k.bits → BitVec k.bits → BitVec k.bits) (k : IntKind) (a b : Int) : CV :=
  .int k (k.wrap (f k (BitVec.ofInt k.bits a) (BitVec.ofInt k.bits b)).toNat)

def intOp (op : BinOp) (k : IntKind) (a b : Int) : Option CV :=
  match op with
  | .add => some (.int k (wrapF k (a + b)))
  | .sub => some (.int k (wrapF k (a - b)))
  | .mul => some (.int k (wrapF k (a * b)))
  | .quo => if b = 0 then none else some (.int k (k.wrap (a.tdiv b)))
  | .rem => if b = 0 then none else some (.int k (a.tmod b))
  | .and => some (bits2 (fun _ x y => x &&& y) k a b)
  | .or => some (bits2 (fun _ x y => x ||| y) k a b)
  | .xor => some (bits2 (fun _ x y => x ^^^ y) k a b)
  | .andNot => some (bits2 (fun _ x y => x &&& ~~~y) k a b)
  | .eql => some (.bool (intEq a b))
  | .neq => some (.bool (!intEq a b))
  | .lss => some (.bool (intLt a b))
  | .leq => some (.bool (intLe a b))
  | .gtr => some (.bool (intLt b a))
  | .geq => some (.bool (intLe b a))
  | _ => none
def kindEq : IntKind → IntKind → Bool
  | .i8, .i8 | .i16, .i16 | .i32, .i32 | .i64, .i64 | .u8, .u8 | .u16, .u16 | .u32, .u32 | .u64, .u64 => true
  | _, _ => false
def strOp (op : BinOp) (a b : List UInt8) : Option CV :=
  match op with
  | .add => if a.length + b.length ≤ 2 ^ 62 then some (.str (a ++ b)) else none
  | .eql => some (.bool (bytesEq a b))
  | .neq => some (.bool !(bytesEq a b))
  | .lss => some (.bool (bytesLess a b))
  | .leq => some (.bool (bytesLess a b || bytesEq a b))
  | .gtr => some (.bool !(bytesLess a b || bytesEq a b))
  | .geq => some (.bool !(bytesLess a b))
  | _ => none
def binC (P : Program) (op : BinOp) (t : TypeId) (x y : CV) : Option CV :=
  match x, y with
  | .int k a, .int k' b =>
    match op with
    | .shl => if b < 0 then none else some (.int k (k.wrap (a * 2 ^ (min b.toNat k.bits))))
    | .shr => if b < 0 then none else some (.int k (a.fdiv (2 ^ (min b.toNat k.bits))))
    | op => match kindEq k k' with | true => intOp op k a b | false => none
  | .str a, .str b => strOp op a b
  | x, y => match op with
    | .eql => (eqC P 8 t x y).map .bool
    | .neq => (eqC P 8 t x y).map fun b => .bool !b
    | _ => none
def unC (op : UnOp) (x : CV) : Option CV :=
  match op, x with
  | .neg, .int k n => some (.int k (k.wrap (0 - n)))
  | .xor, .int k n => some (bits2 (fun _ x y => x ^^^ y) k (if k.signed then -1 else k.max) n)
  | .not, .bool b => some (.bool !b)
  | _, _ => none

def allBytes : List (List CV) → Option (List UInt8)
  | [] => some []
  | [.int .u8 n] :: r => match allBytes r with | some l => some (UInt8.ofNat n.toNat :: l) | none => none
  | _ => none
def ofBytes : List UInt8 → List (List CV)
  | [] => []
  | b :: r => [.int .u8 (.ofNat b.toNat)] :: ofBytes r

def intOf? : CV → Option Int | .int _ n => some n | _ => none
def evalInt? (a : CAct) (dflt : Int) : Option Operand → Option Int
  | none => some dflt
  | some x => match a.eval x with | some v => intOf? v.v | none => none

/-- the keys of a map: how two are compared -/
def keyCmp (P : Program) (kt : TypeId) : Option TypeDesc → CV → CV → Option Bool
  | some .string, .str a, .str b => some (bytesEq a b)
  | some (.int _), .int k a, .int k' b => match kindEq k k' with | true => some (intEq a b) | false => none
  | some (.struct _), .agg a, .agg b => eqC P 8 kt (.agg a) (.agg b)
  | some (.array _ _), .agg a, .agg b => eqC P 8 kt (.agg a) (.agg b)
  | _, _, _ => none
/-- a key that has no part that cannot be hashed -/
def keyAt (f : TypeId → CV → Bool) (szag : TypeId → Option (Nat × Bool)) (xs : List CV) : List Field → Bool
  | [] => true
  | fd :: r => match fd.name == "_" with
    | true => false
    | false => match cutP xs fd.offset (szag fd.type) with
      | some u => match f fd.type u with | true => keyAt f szag xs r | false => false
      | none => false
def keyRow (f : CV → Bool) (z : Nat) (sa : Option (Nat × Bool)) (xs : List CV) : List Nat → Bool
  | [] => true
  | i :: r => match cutP xs (i * z) sa with
    | some u => match f u with | true => keyRow f z sa xs r | false => false
    | none => false
def keyD (P : Program) : Nat → TypeId → Option TypeDesc → CV → Bool
  | _, _, some .string, .str _ => true
  | _, _, some (.int _), .int _ _ => true
  | _, _, some .bool, .bool _ => true
  | d + 1, _, some (.struct fs), .agg cs => keyAt (fun t => keyD P d t (P.underlying t)) (szAgg P) cs fs.toList
  | d + 1, _, some (.array n e), .agg cs => match szAgg P e with
    | some (z, ag) => keyRow (keyD P d e (P.underlying e)) z (some (z, ag)) cs (upFrom 0 n)
    | none => false
  | _, _, _, _ => false
def keyOk (P : Program) (kt : TypeId) (d : Option TypeDesc) (c : CV) : Bool := keyD P 8 kt d c
def boolEq : Bool → Bool → Bool
  | true, true => true
  | false, false => true
  | _, _ => false
/-- two keys are one -/
def same1 : CV → CV → Bool
  | .str a, .str b => bytesEq a b
  | .int k a, .int k' b => match kindEq k k' with | true => intEq a b | false => false
  | .bool a, .bool b => boolEq a b
  | _, _ => false
def sameL : List CV → List CV → Bool
  | [], [] => true
  | a :: x, b :: y => match same1 a b with | true => sameL x y | false => false
  | _, _ => false
def sameK : CV → CV → Bool
  | .agg a, .agg b => sameL a b
  | a, b => same1 a b
inductive Found where
  | at_ (v : CV) | nowhere | stuck
def findMap (cmp : CV → CV → Option Bool) (k : CV) : List (CV × CV) → Found
  | [] => .nowhere
  | (a, v) :: r => match cmp k a with
    | some true => .at_ v
    | some false => findMap cmp k r
    | none => .stuck
def putMap (cmp : CV → CV → Option Bool) (k v : CV) : List (CV × CV) → Option (List (CV × CV))
  | [] => some [(k, v)]
  | (a, u) :: r => match cmp k a with
    | some true => match sameK k a with | true => some ((k, v) :: r) | false => none
    | some false => match putMap cmp k v r with | some r => some ((a, u) :: r) | none => none
    | none => none

inductive OpRes where
  | val (v : TV) | skip | panic (v : CV) | defer (f : FuncId) (args : List TV)
  deriving Inhabited

/-- a row of cells, so many at a time -/
def rowsOf (z : Nat) : Nat → List (CV × Sh) → Option (List (List CV))
  | 0, _ => some []
  | k + 1, cs => match firstN cs z with
    | some x => match rowsOf z k (dropN cs z) with | some r => some (x.map (·.1) :: r) | none => none
    | none => none

def flatNo : List (List CV) → List (CV × Sh)
  | [] => []
  | v :: r => withSh v [] ++ flatNo r

def okRows (z : Nat) : List (List CV) → Bool
  | [] => true
  | r :: l => match Nat.beq r.length z with | true => okRows z l | false => false
/-- rows are all of one length: the first tells -/
def okHead (z : Nat) : List (List CV) → Bool
  | [] => true
  | r :: _ => Nat.beq r.length z
/-- what is appended: its rows; their cells, as they are put into an array that is written -/
def srcRows (s : St) (zn : Nat) (sh : List Sh) : CV → Option (List (List CV) × List (CV × Sh))
  | .slice [r] => some ([r], withSh r (sh.drop 1))
  | .slice ys => some (ys, flatNo ys)
  | .str b => some (ofBytes b, flatNo (ofBytes b))
  | .bsl i off len => match s.box i with
    | some (.arr z cs) => match Nat.beq z zn with
      | true => match rowsOf zn len (dropN cs off) with | some ys => some (ys, flatNo ys) | none => none
      | false => none
    | _ => none
  | _ => none
def appOwn (zn : Nat) (es new : List (List CV)) (n : Nat) (s : St) : Sh → Option (TV × St)
  | .full => some (⟨.slice (es ++ new), [.tok s.nt n]⟩, s.pushTok n zn)
  | .tok i k => match s.tok i with
    | some (k', z) => match Nat.beq k k' && Nat.beq z zn with
      | true => some (⟨.slice (es ++ new), [.tok i (k + new.length)]⟩, s.setTok i (k + new.length) zn)
      | false => none
    | none => none
  | .no => none
def appMt (zn : Nat) (es : List (List CV)) (ncells : List (CV × Sh)) (n : Nat) (s : St) : Sh → Option (TV × St)
  | .full => match es with
    | [] => some (plain (.bsl s.nb 0 n), s.push (.arr zn ncells))
    | _ => none
  | _ => none
def appBox (zn len bytes : Nat) (i : Nat) (new : List (List CV)) (ncells : List (CV × Sh)) (s : St) : Option Box → Option (TV × St)
  | some (.arr z cs) =>
    match Nat.beq cs.length (len * z) && Nat.beq z zn && Nat.ble ((len + new.length) * bytes) 70368744177664 with
    | true => some (plain (.bsl s.nb 0 (len + new.length)), (s.setBox i .dead).push (.arr z (cs ++ ncells)))
    | false => none
  | _ => none
def appTo (mt : Bool) (zn bytes : Nat) (d : TV) (new : List (List CV)) (ncells : List (CV × Sh)) (s : St) : CV → Option (TV × St)
  | .bsl i 0 len => appBox zn len bytes i new ncells s (s.box i)
  | .slice es => match Nat.ble ((es.length + new.length) * bytes) 70368744177664 && okHead zn es with
    | true => match mt with
      | true => appMt zn es ncells (es.length + new.length) s (shAt d.sh 0)
      | false => appOwn zn es new (es.length + new.length) s (shAt d.sh 0)
    | false => none
  | _ => none
def appNew (mt : Bool) (zn bytes : Nat) (d : TV) (s : St) : Option (List (List CV) × List (CV × Sh)) → Option (TV × St)
  | some ([], _) => match d.v with
    | .slice _ => some (d, s)
    | .bsl _ _ _ => some (d, s)
    | _ => none
  | some (r :: new, ncells) => match okRows zn (r :: new) with
    | true => appTo mt zn bytes d (r :: new) ncells s d.v
    | false => none
  | none => none
def zeroFits (i : TypeInfo) : Bool := match i.zero with | some v => Nat.beq v.cells.size i.size | none => false
def appElem (_P : Program) (mt : Bool) (d x : TV) (s : St) (_e : TypeId) : Option TypeInfo → Option (TV × St)
  | some info => match Nat.ble 1 info.size && Nat.ble 1 info.bytes && zeroFits info with
    | true => appNew mt info.size info.bytes d s (srcRows s info.size x.sh x.v)
    | false => none
  | none => none
def appendC (P : Program) (mt : Bool) (st : TypeId) (d x : TV) (s : St) : Option (TV × St) :=
  match P.underlying st with
  | some (.slice e) => appElem P mt d x s e (P.info? e)
  | _ => none

def noSh : List CV → List TV
  | [] => []
  | v :: r => plain v :: noSh r
def calleeC (f : CV) (args : List TV) : Option (FuncId × List TV) :=
  match f with
  | .fn g cap => some (g, args ++ noSh cap)
  | _ => none

abbrev CallF := FuncId → List TV → St → Option (CRes × St)

def notInt : Option TypeDesc → Bool
  | some (.slice _) => true
  | some .string => true
  | _ => false
def appendT (P : Program) (mt : Bool) (t u : TypeId) (d x : TV) (s : St) : Option (TV × St) :=
  match notInt (P.underlying u) with
  | true => appendC P mt t d x s
  | false => none
def appEnd : Option (TV × St) → Option (OpRes × St)
  | some (r, s) => some (.val r, s)
  | none => none
def lenOfMap (s : St) : Option Box → Option (OpRes × St)
  | some (.map es) => some (.val (plain (.int .i64 (.ofNat es.length))), s)
  | _ => none
def lenR (s : St) : CV → Option TypeDesc → Option (OpRes × St)
  | .str b, some .string => some (.val (plain (.int .i64 (.ofNat b.length))), s)
  | .slice es, some (.slice _) => some (.val (plain (.int .i64 (.ofNat es.length))), s)
  | .bsl _ _ n, some (.slice _) => some (.val (plain (.int .i64 (.ofNat n))), s)
  | .nilmap, some (.map _ _) => some (.val (plain (.int .i64 0)), s)
  | .map i, some (.map _ _) => lenOfMap s (s.box i)
  | _, _ => none
def minC : CV → CV → Option CV
  | .int k a, .int _ b => some (.int k (match intLt b a with | true => b | false => a))
  | _, _ => none
def maxC : CV → CV → Option CV
  | .int k a, .int _ b => some (.int k (match intLt a b with | true => b | false => a))
  | _, _ => none
def cvR0 (s : St) : Option CV → Option (OpRes × St)
  | some v => some (.val (plain v), s)
  | none => none
def builtinC (P : Program) (mt : Bool) (b : Builtin) (argTypes : Array TypeId) (args : List TV) (s : St) : Option (OpRes × St) :=
  match b, args with
  | .append, [d, x] => match argTypes with
    | ⟨t :: u :: []⟩ => appEnd (appendT P mt t u d x s)
    | _ => none
  | .len, [x] => match argTypes with
    | ⟨t :: []⟩ => lenR s x.v (P.underlying t)
    | _ => none
  | .min, [x, y] => cvR0 s (minC x.v y.v)
  | .max, [x, y] => cvR0 s (maxC x.v y.v)
  | _, _ => none

def convC (P : Program) (src dst : TypeId) (x : CV) : Option CV :=
  match P.underlying src, P.underlying dst with
  | some u, some d =>
    match u, d, x with
    | _, .int k, .int _ n => some (.int k (wrapF k n))
    | _, .string, .str b => some (.str b)
    | .slice e, .string, .slice es => match P.underlying e with
      | some (.int .u8) => match allBytes es with | some b => some (.str b) | none => none
      | _ => none
    | _, _, _ => none
  | _, _ => none

def fieldAddrC (P : Program) (t : TypeId) (x : CV) (f : Nat) : Option CV :=
  match P.underlying t with
  | some (.struct fs) => match fs[f]? with
    | some fd => match szAgg P fd.type with
      | some (n, _) => if n = 0 then none else match x with
        | .ptr i off => some (.ptr i (off + fd.offset))
        | .imm cs off => some (.imm cs (off + fd.offset))
        | _ => none
      | none => none
    | none => none
  | _ => none

def fieldC (P : Program) (t : TypeId) (x : CV) (f : Nat) : Option CV :=
  match P.underlying t with
  | some (.struct fs) => match fs[f]? with
    | some fd => match szAgg P fd.type, x with
      | some (n, ag), .agg cs => if ag then match takeN cs fd.offset n with | some l => some (.agg l) | none => none else cs[fd.offset]?
      | _, _ => none
    | none => none
  | _ => none

def idxRow (z : Nat) (rows : List (List CV)) : Int → Option CV
  | .ofNat i => match nthO rows i with
    | some r => match Nat.beq r.length z with | true => some (.imm r 0) | false => none
    | none => none
  | _ => none
def idxBox (b off z n : Nat) : Int → Option CV
  | .ofNat i => match Nat.blt i n with | true => some (.ptr b (off + i * z)) | false => none
  | _ => none
def idxAddr (z : Nat) (i : Int) : CV → Option CV
  | .slice rows => idxRow z rows i
  | .bsl b off len => idxBox b off z len i
  | _ => none
def idxArr (z n : Nat) (i : Int) : CV → Option CV
  | .ptr b off => match Nat.blt 1 n with | true => idxBox b off z n i | false => none
  | _ => none
def indexAddrC (P : Program) (t : TypeId) (x : CV) (i : Int) : Option CV :=
  match P.underlying t with
  | some (.slice e) => match szAgg P e with
    | some (z, _) => idxAddr z i x
    | none => none
  | some (.array n e) => match szAgg P e with
    | some (z, _) => idxArr z n i x
    | none => none
  | _ => none

def idxStr : Int → CV → Option CV
  | .ofNat i, .str b => match nthO b i with | some c => some (.int .u8 (.ofNat c.toNat)) | none => none
  | _, _ => none
def idxAgg (z n : Nat) (ag : Bool) : Int → CV → Option CV
  | .ofNat i, .agg cs => match Nat.blt i n with
    | true => match ag with
      | true => match takeN cs (i * z) z with | some l => some (.agg l) | none => none
      | false => nthO cs (i * z)
    | false => none
  | _, _ => none
def indexC (P : Program) (t : TypeId) (x : CV) (i : Int) : Option CV :=
  match P.underlying t with
  | some .string => idxStr i x
  | some (.array n e) => match szAgg P e with
    | some (z, ag) => idxAgg z n ag i x
    | none => none
  | _ => none

def slcStr (b : List UInt8) : Int → Int → Option TV
  | .ofNat l, .ofNat h => match Nat.ble l h && Nat.ble h b.length with
    | true => some (plain (.str (dropN (b.take h) l)))
    | false => none
  | _, _ => none
def shTok (s : St) (z i e : Nat) : Sh :=
  match s.tok i with
  | some (_, z') => match Nat.beq z' z with | true => .tok i e | false => .no
  | none => .no
def shRest (s : St) (z : Nat) (sh : Sh) : List (List CV) → Sh
  | [] => .no
  | _ => match sh with
    | .tok i e => shTok s z i e
    | sh => sh
def slcRows (s : St) (z : Nat) (rows : List (List CV)) (sh : Sh) (full : Bool) : Int → Int → Option TV
  | .ofNat l, .ofNat h => match Nat.ble l h && Nat.ble h rows.length with
    | true => match full with
      | true => some ⟨.slice (dropN rows l), [shRest s z sh (dropN rows l)]⟩
      | false => some (plain (.slice (dropN (rows.take h) l)))
    | false => none
  | _, _ => none
def sliceC (P : Program) (s : St) (t : TypeId) (x : TV) (lo hi : Int) (hiNone : Bool) : Option TV :=
  match P.underlying t, x.v with
  | some .string, .str b => slcStr b lo hi
  | some (.slice e), .slice rows => match szAgg P e with
    | some (z, _) => match okHead z rows with
      | true => slcRows s z rows (shAt x.sh 0) hiNone lo hi
      | false => none
    | none => none
  | _, _ => none
def lenC : CV → Int
  | .str b => .ofNat b.length
  | .slice es => .ofNat es.length
  | _ => 0

def setRow : List (List CV) → Nat → List CV → Option (List (List CV))
  | [], _, _ => none
  | r :: l, 0, v => match Nat.beq v.length r.length with | true => some (v :: l) | false => none
  | r :: l, n + 1, v => match setRow l n v with | some l => some (r :: l) | none => none
def fillSlice (l : List (List CV)) : List (Nat × TV) → Option (List (List CV))
  | [] => some l
  | (i, v) :: r => match v.v.cells? with
    | some cs => match setRow l i cs with | some l => fillSlice l r | none => none
    | none => none

def places (P : Program) : List Field → Option (List (Nat × Nat))
  | [] => some []
  | f :: r => match szAgg P f.type with
    | some (n, _) => match places P r with | some l => some ((f.offset, n) :: l) | none => none
    | none => none

def buildC (P : Program) (t : TypeId) (parts : List (Nat × TV)) : Option TV :=
  match zeroC P t, P.underlying t with
  | some z, some (.struct fs) => match places P fs.toList, z.cells? with
    | some pl, some zs => match fillC (nthO pl ·) zs parts with
      | some cs => some ⟨.agg (cs.map (·.1)), cs.map (·.2)⟩
      | none => none
    | _, _ => none
  | some z, some (.array _ e) => match szAgg P e, z.cells? with
    | some (n, _), some zs => match fillC (fun i => some (i * n, n)) zs parts with
      | some cs => some ⟨.agg (cs.map (·.1)), cs.map (·.2)⟩
      | none => none
    | _, _ => none
  | _, _ => none

def oneSh : List (Nat × TV) → List Sh
  | [(_, v)] => v.sh
  | _ => []
def bsEnd (parts : List (Nat × TV)) : Option (List (List CV)) → Option TV
  | some es => some ⟨.slice es, .full :: (match es with | [_] => oneSh parts | _ => [])⟩
  | none => none
def bsZeroC (len n : Nat) (parts : List (Nat × TV)) : Option (List CV) → Option TV
  | some cs => match Nat.beq cs.length n && Nat.ble 1 n && Nat.ble (len * n) 16777216 with
    | true => bsEnd parts (fillSlice (List.replicate len cs) parts)
    | false => none
  | none => none
def bsZero (len : Nat) (parts : List (Nat × TV)) : Option (Nat × Bool) → Option TV → Option TV
  | some (n, _), some z => bsZeroC len n parts z.v.cells?
  | _, _ => none
def buildSliceC (P : Program) (t : TypeId) (len : Nat) (parts : List (Nat × TV)) : Option TV :=
  match P.underlying t with
  | some (.slice e) => bsZero len parts (szAgg P e) (zeroC P e)
  | _ => none

def entriesOf (s : St) : CV → Option (List (CV × CV))
  | .nilmap => some []
  | .map i => match s.box i with | some (.map es) => some es | _ => none
  | _ => none
def foundC (ok : Bool) (z : Option TV) : Found → Option TV
  | .at_ x => some (plain (match ok with | true => .tuple [x, .bool true] | false => x))
  | .nowhere => match z with
    | some z => some (plain (match ok with | true => .tuple [z.v, .bool false] | false => z.v))
    | none => none
  | .stuck => none
def lookupIn (P : Program) (kt e : TypeId) (k : CV) (ok : Bool) : Option (List (CV × CV)) → Option TV
  | some es => match keyOk P kt (P.underlying kt) k with
    | true => foundC ok (zeroC P e) (findMap (keyCmp P kt (P.underlying kt)) k es)
    | false => none
  | none => none
def lookupC (P : Program) (t : TypeId) (m k : CV) (ok : Bool) (s : St) : Option TV :=
  match P.underlying t with
  | some (.map kt e) => lookupIn P kt e k ok (entriesOf s m)
  | _ => none

def repCells (cs : List (CV × Sh)) : Nat → List (CV × Sh)
  | 0 => []
  | n + 1 => cs ++ repCells cs n

abbrev OpR := Option (OpRes × St)
def tvR (s : St) : Option TV → OpR
  | some v => some (.val v, s)
  | none => none
def cvR (s : St) : Option CV → OpR
  | some v => some (.val (plain v), s)
  | none => none
def pickOf (x y : Option TV) : CV → Option TV
  | .bool true => x
  | .bool false => y
  | _ => none
def eval1 (f : TV → OpR) : Option TV → OpR
  | some v => f v
  | none => none
def eval2 (f : TV → TV → OpR) : Option TV → Option TV → OpR
  | some v, some w => f v w
  | _, _ => none
def eval3 (f : TV → TV → TV → OpR) : Option TV → Option TV → Option TV → OpR
  | some v, some w, some u => f v w u
  | _, _, _ => none
def evalP (f : List (Nat × TV) → OpR) : Option (List (Nat × TV)) → OpR
  | some v => f v
  | none => none
def evalL (f : List TV → OpR) : Option (List TV) → OpR
  | some v => f v
  | none => none
def exMove (a : CAct) (s : St) (x : Operand) : OpR := tvR s (a.eval x)
def exPick (a : CAct) (s : St) (b x y : Operand) : OpR := eval1 (fun c => tvR s (pickOf (a.eval x) (a.eval y) c.v)) (a.eval b)
def boxCells (s : St) : Option (List (CV × Sh)) → OpR
  | some cs => some (.val (plain (.ptr s.nb 0)), s.push (.cells cs))
  | none => none
def boxOf (s : St) : Option TV → OpR
  | some z => boxCells s z.cells?
  | none => none
def exBuild (P : Program) (a : CAct) (s : St) (t : TypeId) (parts : Array (Nat × Operand)) : OpR := evalP (fun ps => tvR s (buildC P t ps)) (evalParts a parts.toList)
def exBuildSlice (P : Program) (a : CAct) (s : St) (t : TypeId) (len : Nat) (parts : Array (Nat × Operand)) : OpR := evalP (fun ps => tvR s (buildSliceC P t len ps)) (evalParts a parts.toList)
def exLoad (P : Program) (a : CAct) (s : St) (t : TypeId) (p : Operand) : OpR := eval1 (fun v => tvR s (loadC P t v.v s)) (a.eval p)
def skipR : Option St → OpR
  | some s => some (.skip, s)
  | none => none
def exStore (P : Program) (a : CAct) (s : St) (t : TypeId) (p x : Operand) : OpR := eval2 (fun p x => skipR (storeC P t p.v x s)) (a.eval p) (a.eval x)
def notNil (v : TV) : CV → Option TV
  | .ptr _ _ => some v
  | .fn _ _ => some v
  | _ => none
def exNil (a : CAct) (s : St) (x : Operand) : OpR := eval1 (fun v => tvR s (notNil v v.v)) (a.eval x)
/-- a slice against nil -/
def isNilSlice : Operand → Bool
  | .const (.slice none 0 0) => true
  | _ => false
def nilCmp (op : BinOp) : CV → Option TypeDesc → Option CV
  | .slice (_ :: _), some (.slice _) => match op with
    | .eql => some (.bool false)
    | .neq => some (.bool true)
    | _ => none
  | _, _ => none
def exBin (P : Program) (a : CAct) (s : St) (op : BinOp) (t : TypeId) (x y : Operand) : OpR :=
  match isNilSlice y with
  | true => eval1 (fun x => cvR s (nilCmp op x.v (P.underlying t))) (a.eval x)
  | false => eval2 (fun x y => cvR s (binC P op t x.v y.v)) (a.eval x) (a.eval y)
def exUn (a : CAct) (s : St) (op : UnOp) (x : Operand) : OpR := eval1 (fun x => cvR s (unC op x.v)) (a.eval x)
def exConv (P : Program) (a : CAct) (s : St) (src dst : TypeId) (x : Operand) : OpR := eval1 (fun x => cvR s (convC P src dst x.v)) (a.eval x)
def ifaceC (t : TypeId) (x : CV) : Option TypeDesc → Option CV
  | some (.interface _) => none
  | some _ => some (.iface t x)
  | none => none
def exIface (P : Program) (a : CAct) (s : St) (t : TypeId) (x : Operand) : OpR := eval1 (fun x => cvR s (ifaceC t x.v (P.underlying t))) (a.eval x)
def exFunc (a : CAct) (s : St) (cap : Array Operand) : Fn → Array Operand → OpR
  | .func f, ⟨[]⟩ => evalL (fun l => cvR s (some (.fn f (l.map (·.v))))) (evals a cap.toList)
  | _, _ => none
def mkSliceN (s : St) (z : Nat) (cs : List (CV × Sh)) : Nat → OpR
  | 0 => some (.val ⟨.slice [], [.tok s.nt 0]⟩, s.pushTok 0 z)
  | n + 1 => some (.val (plain (.bsl s.nb 0 (n + 1))), s.push (.arr z (repCells cs (n + 1))))
def mkSlice (s : St) (n c : Int) : Option TypeInfo → Option (List (CV × Sh)) → OpR
  | some info, some cs =>
    match n, c with
    | .ofNat l, .ofNat c => match Nat.ble l c && Nat.ble c 1000000 && Nat.ble info.bytes 1000000 && Nat.beq cs.length info.size && Nat.ble 1 info.size with
      | true => mkSliceN s info.size cs l
      | false => none
    | _, _ => none
  | _, _ => none
def zeroCells? (P : Program) (e : TypeId) : Option (List (CV × Sh)) := match zeroC P e with | some z => z.cells? | none => none
def mkSliceT (P : Program) (s : St) (x y : CV) : Option TypeDesc → OpR
  | some (.slice e) => match x, y with
    | .int _ n, .int _ c => mkSlice s n c (P.info? e) (zeroCells? P e)
    | _, _ => none
  | _ => none
def exMakeSlice (P : Program) (a : CAct) (s : St) (t : TypeId) (l c : Operand) : OpR := eval2 (fun x y => mkSliceT P s x.v y.v (P.underlying t)) (a.eval l) (a.eval c)
def slice2 (P : Program) (s : St) (t : TypeId) (v : TV) (b : Bool) : Option Int → Option Int → OpR
  | some l, some h => tvR s (sliceC P s t v l h b)
  | _, _ => none
def exSlice (P : Program) (a : CAct) (s : St) (t : TypeId) (x : Operand) (lo hi : Option Operand) : Option Operand → OpR
  | none => eval1 (fun v => slice2 P s t v hi.isNone (evalInt? a 0 lo) (evalInt? a (lenC v.v) hi)) (a.eval x)
  | some _ => none
def exFieldAddr (P : Program) (a : CAct) (s : St) (t : TypeId) (x : Operand) (f : Nat) : OpR := eval1 (fun v => cvR s (fieldAddrC P t v.v f)) (a.eval x)
def exField (P : Program) (a : CAct) (s : St) (t : TypeId) (x : Operand) (f : Nat) : OpR := eval1 (fun v => cvR s (fieldC P t v.v f)) (a.eval x)
def withInt (f : Int → Option CV) : Option Int → Option CV
  | some n => f n
  | none => none
def exIndexAddr (P : Program) (a : CAct) (s : St) (t : TypeId) (x i : Operand) : OpR := eval2 (fun v w => cvR s (withInt (indexAddrC P t v.v) (intOf? w.v))) (a.eval x) (a.eval i)
def exIndex (P : Program) (a : CAct) (s : St) (t : TypeId) (x i : Operand) : OpR := eval2 (fun v w => cvR s (withInt (indexC P t v.v) (intOf? w.v))) (a.eval x) (a.eval i)
def exLookup (P : Program) (a : CAct) (s : St) (t : TypeId) (m k : Operand) (ok : Bool) : OpR := eval2 (fun m k => tvR s (lookupC P t m.v k.v ok s)) (a.eval m) (a.eval k)
def updPut (s : St) (i : Nat) : Option (List (CV × CV)) → OpR
  | some es => some (.skip, s.setBox i (.map es))
  | none => none
def updBox (P : Program) (kt : TypeId) (s : St) (i : Nat) (k v : CV) : Option Box → OpR
  | some (.map es) => match keyOk P kt (P.underlying kt) k with
    | true => updPut s i (putMap (keyCmp P kt (P.underlying kt)) k v es)
    | false => none
  | _ => none
def updMap (P : Program) (s : St) (k v : CV) : CV → Option TypeDesc → OpR
  | .map i, some (.map kt _) => updBox P kt s i k v (s.box i)
  | _, _ => none
def exUpdate (P : Program) (a : CAct) (s : St) (t : TypeId) (m k x : Operand) : OpR := eval3 (fun m k x => updMap P s k.v x.v m.v (P.underlying t)) (a.eval m) (a.eval k) (a.eval x)
def tupAt (i : Nat) : CV → Option CV
  | .tuple vs => nthO vs i
  | _ => none
def exExtract (a : CAct) (s : St) (t : Operand) (i : Nat) : OpR := eval1 (fun v => cvR s (tupAt i v.v)) (a.eval t)
def pairC (ok : Bool) : Option TV → Option CV
  | some z => some (.tuple [z.v, .bool ok])
  | none => none
def assertC (P : Program) (t : TypeId) : Option TypeDesc → CV → Option CV
  | some (.interface _), _ => none
  | some _, .iface u y => match Nat.beq u t with | true => some (.tuple [y, .bool true]) | false => pairC false (zeroC P t)
  | some _, .nilIface => pairC false (zeroC P t)
  | _, _ => none
def exAssert (P : Program) (a : CAct) (s : St) (x : Operand) (t : TypeId) : Bool → OpR
  | true => eval1 (fun v => cvR s (assertC P t (P.underlying t) v.v)) (a.eval x)
  | false => none
def panicR (s : St) : CV → OpR
  | .iface t y => some (.panic (.iface t y), s)
  | _ => none
def exPanic (a : CAct) (s : St) (x : Operand) : OpR := eval1 (fun v => panicR s v.v) (a.eval x)
def deferR (s : St) : Option (FuncId × List TV) → OpR
  | some (g, args) => some (.defer g args, s)
  | none => none
def exDefer (a : CAct) (s : St) (args : Array Operand) : Callee → OpR
  | .value f => evalL (fun l => eval1 (fun fv => deferR s (calleeC fv.v l)) (a.eval f)) (evals a args.toList)
  | _ => none
def callRes : Option (CRes × St) → OpR
  | some (.ret x, s) => some (.val x, s)
  | some (.panic x, s) => some (.panic x, s)
  | none => none
def callR (call : CallF) (s : St) : Option (FuncId × List TV) → OpR
  | some (g, args) => callRes (call g args s)
  | none => none
def exCall (P : Program) (mt : Bool) (call : CallF) (a : CAct) (s : St) (args : Array Operand) (tys : Array TypeId) : Callee → OpR
  | .value f => evalL (fun l => eval1 (fun fv => callR call s (calleeC fv.v l)) (a.eval f)) (evals a args.toList)
  | .builtin b => evalL (fun l => builtinC P mt b tys l s) (evals a args.toList)
  | _ => none
def exMakeMap (s : St) : Option Operand → OpR
  | none => some (.val (plain (.map s.nb)), s.push (.map []))
  | some _ => none

def execC (P : Program) (mt : Bool) (call : CallF) (a : CAct) (s : St) : Op → OpR
  | .move x => exMove a s x
  | .assign x => exMove a s x
  | .pick b x y => exPick a s b x y
  | .alloc e => boxOf s (zeroC P e)
  | .box _ x => boxOf s (a.eval x)
  | .build t parts => exBuild P a s t parts
  | .buildSlice t len parts => exBuildSlice P a s t len parts
  | .load t p => exLoad P a s t p
  | .store t p x => exStore P a s t p x
  | .nilCheck x => exNil a s x
  | .binOp op t x y _ => exBin P a s op t x y
  | .unOp op _ x => exUn a s op x
  | .convert src dst x => exConv P a s src dst x
  | .makeInterface t x => exIface P a s t x
  | .makeFunc f first cap => exFunc a s cap f first
  | .makeMap _ r => exMakeMap s r
  | .makeSlice t l c => exMakeSlice P a s t l c
  | .slice t x lo hi mx => exSlice P a s t x lo hi mx
  | .fieldAddr t x f => exFieldAddr P a s t x f
  | .field t x f => exField P a s t x f
  | .indexAddr t x i => exIndexAddr P a s t x i
  | .index t x i => exIndex P a s t x i
  | .lookup t m k ok => exLookup P a s t m k ok
  | .mapUpdate t m k x => exUpdate P a s t m k x
  | .extract t i => exExtract a s t i
  | .typeAssert x _ t ok => exAssert P a s x t ok
  | .panic x => exPanic a s x
  | .defer cl => exDefer a s cl.args cl.callee
  | .call cl => exCall P mt call a s cl.args cl.argTypes cl.callee
  | _ => none

def sameB : Bool → Bool → Bool
  | true, true => true
  | false, false => true
  | _, _ => false
def wantedV (b : Bool) : CV → Option Bool
  | .bool c => some (sameB b c)
  | .unk => none
  | _ => some false
def wantedC (ops : List Oper) (slots : Slots) (g : Option (Nat × Bool)) : Option Bool :=
  match g with
  | none => some true
  | some (j, b) => match nthO ops j with
    | some o => match o.dst with
      | some t => wantedV b (slots.get t).v
      | none => some false
    | none => some false

inductive Went where
  | on (a : CAct) (s : St)
  | panic (v : CV) (s : St)
  | stuck
def went (a : CAct) (dst : Option Tmp) : OpR → Went
  | some (.val v, s) => .on (a.put dst v) s
  | some (.skip, s) => .on (a.put dst undefC) s
  | some (.panic v, s) => .panic v s
  | some (.defer f args, s) => .on ({ a with defers := (f, args) :: a.defers }.put dst undefC) s
  | none => .stuck
def stepOp (P : Program) (mt : Bool) (call : CallF) (ops : List Oper) (o : Oper) (a : CAct) (s : St) : Went :=
  match wantedC ops a.slots o.guard with
  | some true => went a o.dst (execC P mt call a s o.op)
  | some false => .on (a.put o.dst undefC) s
  | none => .stuck
abbrev CodeR := Option (CExit × CAct × St)
def goOn (k : CAct → St → CodeR) (a : CAct) : Went → CodeR
  | .on a s => k a s
  | .panic v s => some (.panic v, a, s)
  | .stuck => none
def runOps (P : Program) (mt : Bool) (call : CallF) (ops : List Oper) : List Oper → CAct → St → CodeR
  | [], a, s => some (.normal, a, s)
  | o :: rest, a, s => goOn (runOps P mt call ops rest) a (stepOp P mt call ops o a s)

/-! a region whose order is drawn -/
def clsCallee : Callee → Nat
  | .builtin .len => 1
  | .builtin .min => 0
  | .builtin .max => 0
  | .builtin .append => 2
  | .value _ => 2
  | _ => 9
/-- 0: of its operands alone; 1: it reads; 2: it changes what there is; 3: it makes a variable; 9: it may not stand here -/
def cls : Op → Nat
  | .move _ | .assign _ | .pick _ _ _ | .build _ _ | .buildSlice _ _ _ | .nilCheck _ | .binOp _ _ _ _ _ | .unOp _ _ _ | .convert _ _ _ | .makeInterface _ _
  | .makeFunc _ _ _ | .fieldAddr _ _ _ | .field _ _ _ | .indexAddr _ _ _ | .index _ _ _ | .extract _ _ | .typeAssert _ _ _ _ => 0
  | .load _ _ | .lookup _ _ _ _ | .slice _ _ _ _ _ => 1
  | .store _ _ _ | .box _ _ | .mapUpdate _ _ _ _ => 2
  | .alloc _ | .makeMap _ none => 3
  | .call c => clsCallee c.callee
  | _ => 9
def bindsC : Ground → Bool
  | .textOnly _ => false
  | .gcOnly _ => false
  | _ => true
def depsOf (o : Oper) : List Nat := (o.after.toList.filter fun e => bindsC e.ground).map (·.on)
def hasN (l : List Nat) (i : Nat) : Bool :=
  match l with
  | [] => false
  | j :: r => match Nat.beq j i with | true => true | false => hasN r i
def allIn (l done : List Nat) : Bool :=
  match l with
  | [] => true
  | x :: r => match hasN done x with | true => allIn r done | false => false
def upTo : Nat → Nat → List Nat
  | _, 0 => []
  | i, n + 1 => i :: upTo (i + 1) n
/-- a row of numbers, as the digits of one -/
def hasB (m i : Nat) : Bool := Nat.beq (Nat.land (Nat.shiftRight m i) 1) 1
/-- an order of the operations; all that each waits for, at whatever remove -/
abbrev Tab := List (Nat × Nat)
def tabOf : Tab → Nat → Nat
  | [], _ => 0
  | (j, m) :: r, i => match Nat.beq j i with | true => m | false => tabOf r i
/-- what it waits for, of those ahead of it -/
def waitsFor (seen : Tab) : List Nat → Nat
  | [] => 0
  | d :: r => Nat.lor (Nat.lor (Nat.shiftLeft 1 d) (tabOf seen d)) (waitsFor seen r)
def namesOf (ops : List Oper) (o : Oper) : List Nat :=
  (o.op.operands.toList.filterMap fun | .tmp t => some t | _ => none) ++
  (match o.guard with | some (g, _) => (match nthO ops g with | some p => p.dst.toList | none => []) | none => [])
/-- one writes a name that the other reads or writes -/
def clash1 (ops : List Oper) (x y : Oper) : Bool :=
  match x.dst with
  | some d => hasN (namesOf ops y) d || (match y.dst with | some e => Nat.beq d e | none => false)
  | none => false
def clash (ops : List Oper) (x y : Oper) : Bool := clash1 ops x y || clash1 ops y x
def isMake (o : Oper) : Bool :=
  match cls o.op, o.guard, o.dst with
  | 3, none, some _ => true
  | _, _, _ => false
/-- two of them, x ahead of y -/
def pairOk (ops : List Oper) (j : Nat) (x : Oper) (i m : Nat) (y : Oper) : Bool :=
  !Nat.beq j i && (Nat.blt (cls x.op) 2 || hasB m j || isMake y) && (!clash ops x y || hasB m j) && !(isMake x && isMake y)
def pairsOk (ops : List Oper) (i m : Nat) (y : Oper) : Tab → Bool
  | [] => true
  | (j, _) :: r => (match nthO ops j with | some x => pairOk ops j x i m y | none => false) && pairsOk ops i m y r
def oneOk (ops : List Oper) (seen : Tab) (i m : Nat) (y : Oper) : Bool :=
  (match cls y.op with | 0 => true | 1 => y.dst.isSome | 2 => true | _ => isMake y) && allIn (depsOf y) (seen.map (·.1)) && Nat.beq m (waitsFor seen (depsOf y)) && pairsOk ops i m y seen
def tabOk (ops : List Oper) (seen : Tab) : Tab → Bool
  | [] => allIn (upTo 0 ops.length) (seen.map (·.1))
  | (i, m) :: r => (match nthO ops i with | some y => oneOk ops seen i m y | none => false) && tabOk ops ((i, m) :: seen) r
def drawOK (ops : List Oper) (tab : Tab) : Bool := tabOk ops [] tab

mutual
def cvEq : CV → CV → Bool
  | .bool a, .bool b => (match a, b with | true, true => true | false, false => true | _, _ => false)
  | .int k a, .int k' b => kindEq k k' && intEq a b
  | .str a, .str b => bytesEq a b
  | .nilptr, .nilptr => true
  | .ptr i o, .ptr j p => Nat.beq i j && Nat.beq o p
  | .gptr g, .gptr h => Nat.beq g h
  | .imm a o, .imm b p => cvsEq a b && Nat.beq o p
  | .slice a, .slice b => rowsEq a b
  | .bsl i o l, .bsl j p m => Nat.beq i j && Nat.beq o p && Nat.beq l m
  | .nilmap, .nilmap => true
  | .map i, .map j => Nat.beq i j
  | .fn f a, .fn g b => Nat.beq f g && cvsEq a b
  | .nilFunc, .nilFunc => true
  | .iface t a, .iface u b => Nat.beq t u && cvEq a b
  | .nilIface, .nilIface => true
  | .agg a, .agg b => cvsEq a b
  | .tuple a, .tuple b => cvsEq a b
  | .unk, .unk => true
  | _, _ => false
def cvsEq : List CV → List CV → Bool
  | [], [] => true
  | a :: x, b :: y => cvEq a b && cvsEq x y
  | _, _ => false
def rowsEq : List (List CV) → List (List CV) → Bool
  | [], [] => true
  | a :: x, b :: y => cvsEq a b && rowsEq x y
  | _, _ => false
end
def shEq : Sh → Sh → Bool
  | .no, .no => true
  | .full, .full => true
  | .tok i e, .tok j f => Nat.beq i j && Nat.beq e f
  | _, _ => false
def shsEq : List Sh → List Sh → Bool
  | [], [] => true
  | a :: x, b :: y => shEq a b && shsEq x y
  | _, _ => false
def tvEq (a b : TV) : Bool := cvEq a.v b.v && shsEq a.sh b.sh

/-- an operation that has read: what it was handed, what it read -/
structure Red where
  i : Nat
  o : Oper
  d : Tmp
  a : CAct
  v : TV
def readSame (v : TV) (d : Tmp) : Went → Bool
  | .on a _ => tvEq (a.slots.get d) v
  | _ => false
/-- what was read, and was not to be read ahead of this change, reads the same behind it -/
def stable (P : Program) (mt : Bool) (call : CallF) (ops : List Oper) (m : Nat) (s : St) : List Red → Bool
  | [] => true
  | x :: r => match hasB m x.i || readSame x.v x.d (stepOp P mt call ops x.o x.a s) with
    | true => stable P mt call ops m s r
    | false => false
/-- the names that the region writes are no longer known -/
def blur : List Oper → CAct → CAct
  | [], a => a
  | o :: r, a => blur r (a.put o.dst unkC)
def redMore (i : Nat) (o : Oper) (a a' : CAct) (rd : List Red) : List Red :=
  match o.dst with
  | some d => ⟨i, o, d, a, a'.slots.get d⟩ :: rd
  | none => rd
def isOn : Went → Bool
  | .on _ _ => true
  | _ => false
/-- whatever makes a variable here goes well -/
def makesOn (P : Program) (mt : Bool) (call : CallF) (ops : List Oper) (a : CAct) (s : St) : List Oper → Bool
  | [] => true
  | o :: r => match !isMake o || isOn (stepOp P mt call ops o a s) with
    | true => makesOn P mt call ops a s r
    | false => false
def drawNext (k : List Red → CAct → St → CodeR) (ops : List Oper) (st : St → Bool) (mk : Bool) (i : Nat) (o : Oper) (rd : List Red) (a : CAct) : Went → CodeR
  | .on a' s' => match cls o.op with
    | 0 => k rd a' s'
    | 1 => k (redMore i o a a' rd) a' s'
    | _ => (match st s' with | true => k rd a' s' | false => none)
  | .panic v s' => match cls o.op with
    | 2 => (match mk with | true => some (.panic v, blur ops a, s') | false => none)
    | _ => none
  | .stuck => none
def drawAt (P : Program) (mt : Bool) (call : CallF) (ops : List Oper) (k : List Red → CAct → St → CodeR) (i m : Nat) (rd : List Red) (a : CAct) (s : St) : Option Oper → CodeR
  | some o => drawNext k ops (fun s' => stable P mt call ops m s' rd) (makesOn P mt call ops a s ops) i o rd a (stepOp P mt call ops o a s)
  | none => none
def drawGo (P : Program) (mt : Bool) (call : CallF) (ops : List Oper) : Tab → List Red → CAct → St → CodeR
  | [], _, a, s => some (.normal, a, s)
  | (i, m) :: r, rd, a, s => drawAt P mt call ops (drawGo P mt call ops r) i m rd a s (nthO ops i)
def runDraw (P : Program) (mt : Bool) (call : CallF) (ops : List Oper) (a : CAct) (s : St) : Option Tab → CodeR
  | some tab => drawGo P mt call ops tab [] a s
  | none => none
/-- the orders that are given fit the code -/
def drawsOk (od : List (Nat × Tab)) : Code → Bool
  | .region id ops true => match look od id with | some tab => drawOK ops.toList tab | none => true
  | .seq x y => drawsOk od x && drawsOk od y
  | .cond _ x y => drawsOk od x && drawsOk od y
  | .block _ b => drawsOk od b
  | .loop b => drawsOk od b
  | .scope b => drawsOk od b
  | _ => true

/-! a variable that the tape sets: both ways come to the same -/
/-- alloc t; t := x ¦ t := y, in either order; .. -/
def isAlloc : Op → Bool
  | .alloc _ => true
  | _ => false
def isStore : Op → Bool
  | .store _ _ _ => true
  | _ => false
def hedgeOk (o0 o1 o2 o3 : Oper) : Bool :=
  isAlloc o0.op && isStore o1.op && isStore o2.op && allIn (depsOf o0) [] && allIn (depsOf o1) [0] && allIn (depsOf o2) [0] && allIn (depsOf o3) [0, 1, 2] &&
    hasN (depsOf o1) 0 && hasN (depsOf o2) 0 && hasN (depsOf o3) 1 && hasN (depsOf o3) 2
def hedgeOf (ops : List Oper) : Bool :=
  match ops with
  | [o0, o1, o2, o3] => hedgeOk o0 o1 o2 o3
  | _ => false
def hedgeIn : Code → Option (List Oper)
  | .region _ ops true => match hedgeOf ops.toList with | true => some ops.toList | false => none
  | _ => none
def hedgeTwo : CodeR → CodeR → Option ((CAct × St) × (CAct × St))
  | some (.normal, a1, s1), some (.normal, a2, s2) => some ((a1, s1), (a2, s2))
  | _, _ => none
def hedgeRun (P : Program) (mt : Bool) (call : CallF) (ops : List Oper) (a : CAct) (s : St) : Option ((CAct × St) × (CAct × St)) :=
  match ops with
  | [o0, o1, o2, o3] => hedgeTwo (runOps P mt call ops [o0, o1, o2, o3] a s) (runOps P mt call ops [o0, o2, o1, o3] a s)
  | _ => none
def meetRow : List TV → List TV → List TV
  | a :: x, b :: y => (match tvEq a b with | true => a | false => unkC) :: meetRow x y
  | [], [] => []
  | [], _ :: y => unkC :: meetRow [] y
  | _ :: x, [] => unkC :: meetRow x []
def meetSlots : List (List TV) → List (List TV) → List (List TV)
  | a :: x, b :: y => meetRow a b :: meetSlots x y
  | [], [] => []
  | [], b :: y => meetRow [] b :: meetSlots [] y
  | a :: x, [] => meetRow a [] :: meetSlots x []
def boxEq : Box → Box → Bool
  | .cells a, .cells b => cvsEq (a.map (·.1)) (b.map (·.1)) && shsEq (a.map (·.2)) (b.map (·.2))
  | .map a, .map b => cvsEq (a.map (·.1)) (b.map (·.1)) && cvsEq (a.map (·.2)) (b.map (·.2))
  | .arr z a, .arr y b => Nat.beq z y && cvsEq (a.map (·.1)) (b.map (·.1)) && shsEq (a.map (·.2)) (b.map (·.2))
  | .dead, .dead => true
  | _, _ => false
def boxesEq : List (Nat × Box) → List (Nat × Box) → Bool
  | [], [] => true
  | (i, a) :: x, (j, b) :: y => Nat.beq i j && boxEq a b && boxesEq x y
  | _, _ => false
def toksEq : List (Nat × (Nat × Nat)) → List (Nat × (Nat × Nat)) → Bool
  | [], [] => true
  | (i, (a, c)) :: x, (j, (b, d)) :: y => Nat.beq i j && Nat.beq a b && Nat.beq c d && toksEq x y
  | _, _ => false
def stEq (s t : St) : Bool := boxesEq s.boxes t.boxes && Nat.beq s.nb t.nb && toksEq s.toks t.toks && Nat.beq s.nt t.nt
def bothEnd (a1 a2 : CAct) (s1 s2 : St) : List (FuncId × List TV) → List (FuncId × List TV) → CodeR
  | [], [] => match stEq s1 s2 with
    | true => some (.normal, { slots := meetSlots a1.slots a2.slots, defers := [] }, s1)
    | false => none
  | _, _ => none
def both : CodeR → CodeR → CodeR
  | some (.normal, a1, s1), some (.normal, a2, s2) => bothEnd a1 a2 s1 s2 a1.defers a2.defers
  | _, _ => none
def hedgeEnd (k : CAct → St → CodeR) (nb : Nat) : Option ((CAct × St) × (CAct × St)) → CodeR
  | some ((a1, s1), (a2, s2)) => both (k a1 (s1.setBox nb .dead)) (k a2 (s2.setBox nb .dead))
  | none => none
def thenC (k : CAct → St → CodeR) : CodeR → CodeR
  | some (.normal, a, s) => k a s
  | r => r
def iterate (body : CAct → St → CodeR) : Nat → CAct → St → CodeR
  | 0, _, _ => none
  | n + 1, a, s => thenC (iterate body n) (body a s)
def condC (x y : Unit → CodeR) : Option TV → CodeR
  | some v => match v.v with
    | .bool true => x ()
    | .bool false => y ()
    | _ => none
  | none => none
def blockC (id : Nat) : CodeR → CodeR
  | some (.exit i, a, s) => match Nat.beq i id with | true => some (.normal, a, s) | false => some (.exit i, a, s)
  | r => r
def scopeC : CodeR → CodeR
  | some (.goto _, _, _) => none
  | r => r
def runCode (P : Program) (mt : Bool) (od : List (Nat × Tab)) (call : CallF) (n : Nat) : Code → CAct → St → CodeR
  | .skip, a, s => some (.normal, a, s)
  | .label _, a, s => some (.normal, a, s)
  | .region _ ops false, a, s => runOps P mt call ops.toList ops.toList a s
  | .region id ops true, a, s => runDraw P mt call ops.toList a s (look od id)
  | .seq x y, a, s => match hedgeIn x with
    | some ops => hedgeEnd (runCode P mt od call n y) s.nb (hedgeRun P mt call ops a s)
    | none => thenC (runCode P mt od call n y) (runCode P mt od call n x a s)
  | .cond c x y, a, s => condC (fun _ => runCode P mt od call n x a s) (fun _ => runCode P mt od call n y a s) (a.eval c)
  | .block id b, a, s => blockC id (runCode P mt od call n b a s)
  | .loop b, a, s => iterate (runCode P mt od call n b) n a s
  | .exit id, a, s => some (.exit id, a, s)
  | .scope b, a, s => scopeC (runCode P mt od call n b a s)
  | .goto l, a, s => some (.goto l, a, s)
  | .ret, a, s => some (.ret, a, s)
  | _, _, _ => none

def resultsC (P : Program) (a : CAct) (s : St) : List ResultVar → Option (List TV)
  | [] => some []
  | .tmp t :: r => match resultsC P a s r with | some l => some (a.slots.get t :: l) | none => none
  | .cell p t :: r => match loadC P t (a.slots.get p).v s with
    | some x => match resultsC P a s r with | some l => some (x :: l) | none => none
    | none => none
def resultC (P : Program) (fn : Func) (a : CAct) (s : St) : Option TV :=
  match resultsC P a s fn.results.toList with
  | some [x] => some x
  | some l => some (plain (.tuple (l.map (·.v))))
  | none => none

/-- what a function does that is not run by its text: 1: IndexByteString, 2: slices.Clone of what is empty -/
def findByte (c : Int) : List UInt8 → Nat → Int
  | [], _ => -1
  | b :: r, i => match intEq (.ofNat b.toNat) c with | true => .ofNat i | false => findByte c r (i + 1)
def primC (k : Nat) (args : List TV) (s : St) : Option (CRes × St) :=
  match k, args with
  | 2, [x] => match x.v with
    | .slice [] => some (.ret ⟨.slice [], [.full]⟩, s)
    | _ => none
  | 1, [x, y] => match x.v, y.v with
    | .str b, .int .u8 (.ofNat m) => match Nat.blt m 256 with
      | true => some (.ret (plain (.int .i64 (findByte (.ofNat m) b 0))), s)
      | false => none
    | _, _ => none
  | _, _ => none

abbrev CallD := FuncId → List TV → Option CV → St → Option (CRes × Bool × St)
/-- a deferred call, then the rest of them -/
def finishC (P : Program) (d : CallD) (fn : Func) (a : CAct) : List (FuncId × List TV) → Option CV → St → Option (CRes × St)
  | [], some v, s => some (.panic v, s)
  | [], none, s => match resultC P fn a s with | some r => some (.ret r, s) | none => none
  | (f, args) :: ds, pan, s => match d f args pan s with
    | some (.ret _, took, s) => finishC P d fn a ds (match took with | true => none | false => pan) s
    | _ => none

structure Opts where
  prim : FuncId → Nat
  mt : FuncId → Bool
  keep : FuncId → Bool
  od : FuncId → List (Nat × Tab)
  rc : Nat → List TV → St → Option (CRes × St)
/-- what is not run by its text: two functions of the library; what is known already -/
def primR (O : Opts) (k : Nat) (args : List TV) (s : St) : Option (CRes × St) :=
  match Nat.ble k 2 with
  | true => primC k args s
  | false => O.rc k args s

def cutC (s0 : St) (keep : Bool) (s : St) : St :=
  match keep with
  | true => s
  | false => { s with boxes := older s.boxes s0.nb }
def cutR (s0 : St) (keep : Bool) : Option (CRes × St) → Option (CRes × St)
  | some (r, s) => some (r, cutC s0 keep s)
  | none => none
def endC (P : Program) (d : CallD) (fn : Func) (s0 : St) (keep : Bool) : CodeR → Option (CRes × St)
  | some (.normal, a, s) => cutR s0 keep (finishC P d fn a a.defers none s)
  | some (.ret, a, s) => cutR s0 keep (finishC P d fn a a.defers none s)
  | some (.panic v, a, s) => cutR s0 keep (finishC P d fn a a.defers (some v) s)
  | _ => none
def start (args : List TV) : CAct := { slots := Slots.ofArgs args 0 ([] : List (List TV)), defers := [] }
def bodyC (P : Program) (O : Opts) (d : CallD) (call : CallF) (n : Nat) (f : FuncId) (fn : Func) (args : List TV) (s : St) : Option Code → Option (CRes × St)
  | some c => endC P d fn s (O.keep f) (runCode P (O.mt f) (O.od f) call n c (start args) s)
  | none => none

/-- a deferred function's first region: recover stands there -/
def isRec (o : Oper) : Bool :=
  match o.op with
  | .call cl => match cl.callee with | .builtin .recover => true | _ => false
  | _ => false
def recovers (pan : Option CV) : CV × Bool :=
  match pan with
  | some v => (v, true)
  | none => (.nilIface, false)
/-- code whose first operation is recover -/
def deferBody (P : Program) (mt : Bool) (od : List (Nat × Tab)) (call : CallF) (n : Nat) (pan : Option CV) (args : List TV) (s : St) : Option Code → Option (Bool × CodeR)
  | some (.seq (.region _ ⟨o :: ops⟩ false) c) => match isRec o, o.guard with
    | true, none => some ((recovers pan).2, thenC (runCode P mt od call n c) (runOps P mt call (o :: ops) ops ((start args).put o.dst (plain (recovers pan).1)) s))
    | _, _ => none
  | _ => none
def deferEnd (s0 : St) (keep : Bool) : Option (Bool × CodeR) → Option (CRes × Bool × St)
  | some (took, some (.normal, a, s)) => match a.defers with | [] => some (.ret undefC, took, cutC s0 keep s) | _ => none
  | some (took, some (.ret, a, s)) => match a.defers with | [] => some (.ret undefC, took, cutC s0 keep s) | _ => none
  | _ => none

mutual
def callF (P : Program) (O : Opts) : Nat → CallF
  | 0, _, _, _ => none
  | n + 1, f, args, s => match P.funcs[f]? with
    | some fn => match O.prim f with
      | 0 => bodyC P O (callD P O n) (callF P O n) n f fn args s fn.body
      | k + 1 => match primR O (k + 1) args s with
        | some r => some r
        | none => bodyC P O (callD P O n) (callF P O n) n f fn args s fn.body
    | none => none
def callD (P : Program) (O : Opts) : Nat → CallD
  | 0, _, _, _, _ => none
  | n + 1, f, args, pan, s => match P.funcs[f]? with
    | some fn => match fn.results with
      | ⟨[]⟩ => deferEnd s (O.keep f) (deferBody P (O.mt f) (O.od f) (callF P O n) n pan args s fn.body)
      | _ => none
    | none => none
end

/-- a call that is known -/
structure Rec where
  f : FuncId
  args : List TV
  s : St
  cr : CRes
  s' : St
def tvsEq : List TV → List TV → Bool
  | [], [] => true
  | a :: x, b :: y => tvEq a b && tvsEq x y
  | _, _ => false
def crEq : CRes → CRes → Bool
  | .ret a, .ret b => tvEq a b
  | .panic a, .panic b => cvEq a b
  | _, _ => false
def useRec (args : List TV) (s : St) : List Rec → Option (CRes × St)
  | [] => none
  | r :: l => match tvsEq args r.args && stEq s r.s with
    | true => some (r.cr, r.s')
    | false => useRec args s l
def resEq (r : Rec) : Option (CRes × St) → Bool
  | some (c, t) => crEq c r.cr && stEq t r.s'
  | none => false
end Go.CE
