/- Parts of the proof: Va, Vb, Vc, Vd, Ve, Vf, Vg, Vh, Vi, Vj, Vk, Vl, Vm -/
import Derived.RangeFuncLeaves
import Derived.Below
import Derived.Laws.Cells
import Derived.KernelRfl
import Derived.Laws.Tables
import Derived.Laws.Slices
import Derived.Laws.BytesString
import Derived.Lib.ConvBytes
import Derived.Laws.Strings
import Derived.Great.BuildSlice
import Derived.MapKept
set_option linter.unusedVariables false
namespace Go.Proofs.YtigfgicjjhepoaaGreatDoor.VA
open Go

abbrev Key := List Nat × Nat × Nat

/-- Values: without memory (sl, pp: what can only be read), or with a key into the heap (ms, ptr, mapr). -/
inductive PV where
  | bool (b : Bool)
  | int (k : IntKind) (n : Int)
  | str (s : ByteArray)
  | agg (l : List PV)
  | tup (l : List PV)
  | sl (full : Bool) (l : List PV)
  | ms (k : Key) (sz off len : Nat)
  | ptr (k : Key) (sz i j : Nat)
  | pp (l : List PV) (off : Nat)
  | nilp
  | fn (f : FuncId) (first cap : List PV)
  | nilfn
  | mapr (k : Key)
  | nilm
  | nilif
  | yld (k : Key)
  | junk
  deriving Inhabited

namespace PV
def cells : PV → List PV
  | .agg l => l
  | .junk => []
  | v => [v]

mutual
/-- No key within. -/
def pers : PV → Bool
  | .bool _ | .int _ _ | .str _ | .nilp | .nilfn | .nilm | .nilif | .junk => true
  | .agg l | .tup l | .sl _ l | .pp l _ => persL l
  | .fn _ a b => persL a && persL b
  | .ms _ _ _ _ | .ptr _ _ _ _ | .mapr _ | .yld _ => false
def persL : List PV → Bool
  | [] => true
  | v :: l => pers v && persL l
end
mutual
/-- Nothing that leads to memory within. -/
def flat : PV → Bool
  | .bool _ | .int _ _ | .str _ | .nilp | .nilfn | .nilm | .nilif => true
  | .agg l | .tup l => flatL l
  | .sl _ [] => true
  | _ => false
def flatL : List PV → Bool
  | [] => true
  | v :: l => flat v && flatL l
end
end PV

namespace PV
mutual
/-- A test that shows equality. -/
def beq : PV → PV → Bool
  | .bool a, .bool b => a == b
  | .int k a, .int j b => decide (k = j) && decide (a = b)
  | .str a, .str b => decide (a = b)
  | .agg a, .agg b => beqL a b
  | .tup a, .tup b => beqL a b
  | .sl f a, .sl g b => f == g && beqL a b
  | .ms k a b c, .ms k' a' b' c' => decide (k = k') && Nat.beq a a' && Nat.beq b b' && Nat.beq c c'
  | .ptr k a b c, .ptr k' a' b' c' => decide (k = k') && Nat.beq a a' && Nat.beq b b' && Nat.beq c c'
  | .pp a o, .pp b o' => Nat.beq o o' && beqL a b
  | .nilp, .nilp => true
  | .fn f a b, .fn g c d => Nat.beq f g && beqL a c && beqL b d
  | .nilfn, .nilfn => true
  | .mapr k, .mapr k' => decide (k = k')
  | .nilm, .nilm => true
  | .nilif, .nilif => true
  | .yld k, .yld k' => decide (k = k')
  | .junk, .junk => true
  | _, _ => false
def beqL : List PV → List PV → Bool
  | [], [] => true
  | a :: l, b :: m => beq a b && beqL l m
  | _, _ => false
end
mutual
theorem beq_eq : ∀ (a b : PV), beq a b = true → a = b := by
  intro a b h
  cases a <;> cases b <;> simp only [beq, Bool.and_eq_true, decide_eq_true_eq, beq_iff_eq, Bool.false_eq_true] at h
  case bool.bool a b => rw [h]
  case int.int => obtain ⟨rfl, rfl⟩ := h; rfl
  case str.str => rw [h]
  case agg.agg a b => rw [beqL_eq a b h]
  case tup.tup a b => rw [beqL_eq a b h]
  case sl.sl f a g b => obtain ⟨rfl, h⟩ := h; rw [beqL_eq a b h]
  case ms.ms => obtain ⟨⟨⟨rfl, h1⟩, h2⟩, h3⟩ := h; rw [Nat.eq_of_beq_eq_true h1, Nat.eq_of_beq_eq_true h2, Nat.eq_of_beq_eq_true h3]
  case ptr.ptr => obtain ⟨⟨⟨rfl, h1⟩, h2⟩, h3⟩ := h; rw [Nat.eq_of_beq_eq_true h1, Nat.eq_of_beq_eq_true h2, Nat.eq_of_beq_eq_true h3]
  case pp.pp a o b o' => obtain ⟨h1, h⟩ := h; rw [Nat.eq_of_beq_eq_true h1, beqL_eq a b h]
  case fn.fn f a b g c d => obtain ⟨⟨h1, h2⟩, h3⟩ := h; rw [Nat.eq_of_beq_eq_true h1, beqL_eq a c h2, beqL_eq b d h3]
  case mapr.mapr => rw [h]
  case yld.yld => rw [h]
  all_goals rfl
theorem beqL_eq : ∀ (a b : List PV), beqL a b = true → a = b := by
  intro a b h
  match a, b with
  | [], [] => rfl
  | [], _ :: _ => simp [beqL] at h
  | _ :: _, [] => simp [beqL] at h
  | x :: l, y :: m =>
    simp only [beqL, Bool.and_eq_true] at h
    rw [beq_eq x y h.1, beqL_eq l m h.2]
end
end PV

inductive Blk where
  /-- a row: cells of an element, elements, whether it may no longer be written -/
  | row (sz : Nat) (els : List PV) (fz : Bool)
  /-- keys of a kind of whole numbers, or strings -/
  | map (d : Option IntKind) (es : List (PV × PV))
  | iter (s : ByteArray) (pos : Nat)
  /-- the record of a loop over a function -/
  | loop (fn : FuncId) (nt : Nat) (tm : Nat → PV) (ps : Array Tmp) (assign body : Code) (state : LoopState) (pend : Option Code)
  deriving Inhabited

/-- A test that shows equality of rows. -/
def Blk.beq : Option Blk → Option Blk → Bool
  | none, none => true
  | some (.row a l f), some (.row b m g) => Nat.beq a b && PV.beqL l m && f == g
  | _, _ => false
theorem Blk.beq_eq {a b : Option Blk} (h : Blk.beq a b = true) : a = b := by
  unfold Blk.beq at h
  split at h
  · rfl
  · simp only [Bool.and_eq_true, beq_iff_eq] at h
    obtain ⟨⟨h1, h2⟩, rfl⟩ := h
    rw [Nat.eq_of_beq_eq_true h1, PV.beqL_eq _ _ h2]
  · cases h

structure Heap where
  blk : Key → Option Blk
  cnt : List Nat → Nat → Nat

namespace Heap
def empty : Heap := ⟨fun _ => none, fun _ _ => 0⟩
def set (H : Heap) (k : Key) (b : Blk) : Heap := { H with blk := fun j => if j = k then some b else H.blk j }
def erase (H : Heap) (k : Key) : Heap := { H with blk := fun j => if j = k then none else H.blk j }
def next (H : Heap) (p : List Nat) (d : Nat) : Key := (p, d, H.cnt p d)
def alloc (H : Heap) (p : List Nat) (d : Nat) (b : Blk) : Heap :=
  { blk := fun j => if j = H.next p d then some b else H.blk j,
    cnt := fun q e => if q = p ∧ e = d then H.cnt q e + 1 else H.cnt q e }
def freeze (H : Heap) (ks : List Key) : Heap :=
  { H with blk := fun j => match H.blk j with
      | some (.row sz els fz) => some (.row sz els (fz || decide (j ∈ ks)))
      | o => o }
end Heap

structure St where
  tm : Nat → PV
  hp : Heap

namespace St
def put (st : St) (d : Option Nat) (v : PV) : St :=
  match d with
  | some d => { st with tm := fun i => if i = d then v else st.tm i }
  | none => st
end St

/-- A constant of the code as a value. -/
def ofVal : Nat → Value → PV
  | _ + 1, .bool b => .bool b
  | _ + 1, .int k i => .int k i
  | _ + 1, .string s => .str s
  | _ + 1, .pointer none => .nilp
  | _ + 1, .slice none 0 0 => .sl true []
  | _ + 1, .map none => .nilm
  | _ + 1, .nilFunc => .nilfn
  | _ + 1, .nilIface => .nilif
  | n + 1, .agg cs => .agg (cs.toList.map (ofVal n))
  | n + 1, .tuple vs => .tup (vs.toList.map (ofVal n))
  | _, _ => .junk

inductive Mode where
  | pure | inl
  deriving DecidableEq

/-- What the user chooses: how a function is called, what a variable of the package holds, orders of a region besides the text's, types whose == is proved, which functions are run. -/
structure Pol where
  mode : FuncId → Mode
  glob : Nat → PV
  reps : FuncId → Nat → List (List Nat)
  eqt : TypeId → Bool
  /-- the functions that are run -/
  use : FuncId → Bool

structure Ctx where
  P : Program
  pol : Pol
  path : List Nat
  fn : FuncId

/-- A type of the program's table. -/
def okT (P : Program) (t : TypeId) : Bool := Nat.blt t P.types.size
def szT (P : Program) (t : TypeId) : Option Nat := if okT P t then (P.info? t).map (·.size) else none
def byT (P : Program) (t : TypeId) : Option Nat := (P.info? t).map (·.bytes)
def zeroT (P : Program) (t : TypeId) : Option (List PV) := if okT P t then ((P.info? t).bind (·.zero)).map fun z => z.cells.toList.map (ofVal 8) else none
def aggT (P : Program) (t : TypeId) : Option Bool :=
  match P.underlying t with
  | some (.struct _) | some (.array _ _) => some true
  | some (.tuple _) => none
  | some _ => some false
  | none => none
def elemT (P : Program) (t : TypeId) : Option TypeId :=
  match P.underlying t with
  | some (.slice e) => some e
  | _ => none
/-- A field's place: offset and cells. -/
def fieldT (P : Program) (t : TypeId) (f : Nat) : Option (Nat × Nat × TypeId) :=
  match P.underlying t with
  | some (.struct fs) => match fs[f]? with
    | some g => (szT P g.type).map fun n => (g.offset, n, g.type)
    | none => none
  | _ => none

def opv (g : Nat → PV) (tm : Nat → PV) : Operand → PV
  | .tmp t => tm t
  | .const v => ofVal 8 v
  | .global x => g x
  | .func f => .fn f [] []

/-- Cells from a place on. -/
def cut (cs : List PV) (off n : Nat) : Option (List PV) := if off + n ≤ cs.length then some ((cs.drop off).take n) else none

/-- The value of type t that lies in cells. -/
def asType (P : Program) (t : TypeId) (cs : List PV) : Option PV :=
  match aggT P t with
  | some true => some (.agg cs)
  | some false => match cs with
    | [v] => some v
    | _ => none
  | none => none

def loadV (P : Program) (H : Heap) (t : TypeId) (a : PV) : Option PV :=
  match szT P t with
  | none => none
  | some n =>
    match a with
    | .ptr k sz i j => match H.blk k with
      | some (.row z els _) => if z = sz then match els[i]? with
          | some e => (cut e.cells j n).bind (asType P t)
          | none => none
        else none
      | _ => none
    | .pp cs off => (cut cs off n).bind (asType P t)
    | _ => none

def allSz (n : Nat) : List PV → Bool
  | [] => true
  | v :: l => v.cells.length == n && allSz n l

mutual
/-- The value as one that can only be read, and the rows that it leads to. -/
def dr (H : Heap) : Nat → PV → Option (PV × List Key)
  | 0, v => if v.pers then some (v, []) else none
  | n + 1, v => if v.pers then some (v, []) else
    match v with
    | .agg l => (drL H n l).map fun r => (.agg r.1, r.2)
    | .tup l => (drL H n l).map fun r => (.tup r.1, r.2)
    | .sl f l => match drL H n l with
      | some r => if allSz (l.headD .junk).cells.length r.1 = true then some (.sl f r.1, r.2) else none
      | none => none
    | .pp l o => (drL H n l).map fun r => (.pp r.1 o, r.2)
    | .fn f a b => match drL H n a, drL H n b with
      | some r, some s => some (.fn f r.1 s.1, r.2 ++ s.2)
      | _, _ => none
    | .ms k sz off len => if len = 0 then some (.sl false [], []) else match H.blk k with
      | some (.row z els _) => match (if z = sz then cut els off len else none) with
        | some part => match drL H n part with
          | some r => if allSz sz r.1 = true then some (.sl false r.1, k :: r.2) else none
          | none => none
        | none => none
      | _ => none
    | .ptr k sz i j => match H.blk k with
      | some (.row z els _) => match (if z = sz then els[i]? else none) with
        | some e => (drL H n e.cells).map fun r => (.pp r.1 j, k :: r.2)
        | none => none
      | _ => none
    | _ => none
def drL (H : Heap) : Nat → List PV → Option (List PV × List Key)
  | 0, l => if PV.persL l then some (l, []) else none
  | n + 1, l => if PV.persL l then some (l, []) else
    match l with
    | [] => some ([], [])
    | v :: l => match dr H n v, drL H n l with
      | some r, some s => some (r.1 :: s.1, r.2 ++ s.2)
      | _, _ => none
end

/-- Whole numbers, bools and strings. -/
def binV (pol : Pol) (op : BinOp) (t : TypeId) (x y : PV) : Option PV :=
  match op, x, y with
  | .shl, .int k a, .int _ b => if b < 0 then none else some (.int k (k.wrap (a * 2 ^ (min b.toNat k.bits))))
  | .shr, .int k a, .int _ b => if b < 0 then none else some (.int k (a.fdiv (2 ^ (min b.toNat k.bits))))
  | _, .int k a, .int k' b => if k ≠ k' then none else
    match op with
    | .add => some (.int k (k.wrap (a + b)))
    | .sub => some (.int k (k.wrap (a - b)))
    | .mul => some (.int k (k.wrap (a * b)))
    | .quo => if b = 0 then none else some (.int k (k.wrap (a.tdiv b)))
    | .rem => if b = 0 then none else some (.int k (a.tmod b))
    | .and => some (.int k (k.wrap (BitVec.ofInt k.bits a &&& BitVec.ofInt k.bits b).toNat))
    | .or => some (.int k (k.wrap (BitVec.ofInt k.bits a ||| BitVec.ofInt k.bits b).toNat))
    | .xor => some (.int k (k.wrap (BitVec.ofInt k.bits a ^^^ BitVec.ofInt k.bits b).toNat))
    | .andNot => some (.int k (k.wrap (BitVec.ofInt k.bits a &&& ~~~BitVec.ofInt k.bits b).toNat))
    | .eql => some (.bool (decide (a = b)))
    | .neq => some (.bool (!decide (a = b)))
    | .lss => some (.bool (decide (a < b)))
    | .leq => some (.bool (decide (a ≤ b)))
    | .gtr => some (.bool (decide (b < a)))
    | .geq => some (.bool (decide (b ≤ a)))
    | _ => none
  | .add, .str a, .str b => if a.size + b.size ≤ 9223372036854775807 then some (.str (a ++ b)) else none
  | .eql, .str a, .str b => some (.bool (decide (a = b)))
  | .neq, .str a, .str b => some (.bool (!decide (a = b)))
  | _, _, _ => none

def unV (op : UnOp) (x : PV) : Option PV :=
  match op, x with
  | .not, .bool b => some (.bool (!b))
  | .neg, .int k n => some (.int k (k.wrap (0 - n)))
  | _, _ => none
end Go.Proofs.YtigfgicjjhepoaaGreatDoor.VA
set_option linter.unusedVariables false
namespace Go.Proofs.YtigfgicjjhepoaaGreatDoor.VA
open Go

/-- '==' of whole numbers of one kind, strings and bools. -/
def eqS : PV → PV → Bool
  | .int k a, .int j b => decide (k = j) && decide (a = b)
  | .str a, .str b => decide (a = b)
  | .bool a, .bool b => a == b
  | _, _ => false
def scal : PV → Bool
  | .int _ _ | .str _ | .bool _ => true
  | _ => false
def eqL : List PV → List PV → Bool
  | [], [] => true
  | a :: l, b :: m => eqS a b && eqL l m
  | _, _ => false

/-- What the evaluator asks of calls: f at arguments without keys; f on the heap, in the room 'path'. -/
structure Orc where
  pure : FuncId → List PV → Option PV
  inl : List Nat → FuncId → List PV → Heap → Option (PV × Heap)

def partsV : Nat → List (Nat × PV) → Option (List PV)
  | _, [] => some []
  | i, (j, v) :: l => if j = i then (partsV (i + 1) l).map (v :: ·) else none

/-- A struct's cells with parts put in. -/
def fillV (P : Program) (t : TypeId) : List PV → List (Nat × PV) → Option (List PV)
  | cs, [] => some cs
  | cs, (i, v) :: l =>
    match fieldT P t i with
    | some (off, n, _) => if v.cells.length = n ∧ 0 < n ∧ off + n ≤ cs.length then fillV P t (cs.take off ++ v.cells ++ cs.drop (off + n)) l else none
    | none => none

def isStructT (P : Program) (t : TypeId) : Bool :=
  match P.underlying t with
  | some (.struct _) => true
  | _ => false

def isStrT (P : Program) (t : TypeId) : Bool :=
  match P.underlying t with
  | some .string => true
  | _ => false

def isU8T (P : Program) (t : TypeId) : Bool :=
  match P.underlying t with
  | some (.int .u8) => true
  | _ => false

def sliceV (P : Program) (t : TypeId) (x : PV) (lo hi mx : Option PV) : Option PV :=
  match x with
  | .str s => if isStrT P t = true then
    match lo.getD (.int .i64 0), hi.getD (.int .i64 s.size), mx with
    | .int _ l, .int _ h, none => if 0 ≤ l ∧ l ≤ h ∧ h ≤ s.size then some (.str (s.extract l.toNat h.toNat)) else none
    | _, _, _ => none
    else none
  | .sl f xs => match (elemT P t).bind (szT P) with
    | none => none
    | some n => if 0 < n ∧ allSz n xs = true then
    match lo.getD (.int .i64 0), hi.getD (.int .i64 xs.length), mx with
    | .int _ l, .int _ h, none => if 0 ≤ l ∧ l ≤ h ∧ h ≤ xs.length then some (.sl (f && decide (h = xs.length)) ((xs.drop l.toNat).take (h.toNat - l.toNat))) else none
    | .int _ l, .int _ h, some (.int _ m) => if hi.isSome = true ∧ 0 ≤ l ∧ l ≤ h ∧ h ≤ m ∧ m ≤ xs.length then some (.sl (decide (h = m)) ((xs.drop l.toNat).take (h.toNat - l.toNat))) else none
    | _, _, _ => none
    else none
  | .ms k sz off len =>
    match lo.getD (.int .i64 0), hi.getD (.int .i64 len), mx, (elemT P t).bind (szT P) with
    | .int _ l, .int _ h, none, some n => if n = sz ∧ 0 ≤ l ∧ l ≤ h ∧ h ≤ len then some (.ms k sz (off + l.toNat) (h.toNat - l.toNat)) else none
    | _, _, _, _ => none
  | _ => none

/-- What kind of keys a map's type has. -/
def keyT (P : Program) (t : TypeId) : Option (Option IntKind × TypeId) :=
  match P.underlying t with
  | some (.map kt e) => match P.underlying kt with
    | some (.int k) => some (some k, e)
    | some .string => some (none, e)
    | _ => none
  | _ => none
def isKeyV : Option IntKind → PV → Bool
  | some k, .int j _ => decide (j = k)
  | none, .str _ => true
  | _, _ => false
/-- Where a key stands. -/
def posV (i : PV) : List (PV × PV) → Option Nat
  | [] => none
  | e :: es => if eqS i e.1 = true then some 0 else (posV i es).map (· + 1)
def lookV (es : List (PV × PV)) (i : PV) : Option PV := (posV i es).bind fun j => (es[j]?).map (·.2)
def updV (es : List (PV × PV)) (i v : PV) : List (PV × PV) :=
  match posV i es with
  | some j => es.set j (i, v)
  | none => es ++ [(i, v)]

def byteOf : PV → Option UInt8
  | .int .u8 n => some (UInt8.ofNat n.toNat)
  | _ => none

def isConstO : Operand → Bool
  | .const _ => true
  | _ => false

/-- Operations that make a value and leave the heap as it is. -/
def stepV (c : Ctx) (op : Op) (ρ : Operand → PV) (H : Heap) : Option PV :=
  match op with
  | .move x | .assign x => some (ρ x)
  | .pick b x y => match ρ b with
    | .bool b => some (if b then ρ x else ρ y)
    | _ => none
  | .build t parts => if isStructT c.P t then (zeroT c.P t).bind fun z => (fillV c.P t z (parts.toList.map fun p => (p.1, ρ p.2))).map .agg else none
  | .buildSlice t len parts => match elemT c.P t with
    | some e => match szT c.P e, partsV 0 (parts.toList.map fun p => (p.1, ρ p.2)) with
      | some n, some vs => if vs.length = len ∧ len * n ≤ 2 ^ 24 ∧ 0 < n ∧ allSz n vs = true then some (.sl true vs) else none
      | _, _ => none
    | none => none
  | .nilCheck x => match ρ x with
    | .ptr k s i j => some (.ptr k s i j)
    | .pp l o => some (.pp l o)
    | .fn f a b => some (.fn f a b)
    | _ => none
  | .fieldAddr t x f => match fieldT c.P t f, ρ x with
    | some (off, n, _), .ptr k s i j => if n = 0 then none else some (.ptr k s i (j + off))
    | some (off, n, _), .pp l o => if n = 0 then none else some (.pp l (o + off))
    | _, _ => none
  | .field t x f => match fieldT c.P t f, ρ x with
    | some (off, n, u), .agg l => (cut l off n).bind (asType c.P u)
    | _, _ => none
  | .indexAddr t x i => match c.P.underlying t, ρ x, ρ i with
    | some (.slice e), .sl _ l, .int _ i => if 0 ≤ i then match l[i.toNat]?, szT c.P e with
        | some v, some n => if v.cells.length = n ∧ 0 < n then some (.pp v.cells 0) else none
        | _, _ => none
      else none
    | some (.slice e), .ms k sz off len, .int _ i => match szT c.P e with
        | some n => if n = sz ∧ 0 ≤ i ∧ i < len ∧ 0 < n then some (.ptr k n (off + i.toNat) 0) else none
        | none => none
    | some (.array m e), .ptr k s q o, .int _ i => match szT c.P e with
        | some n => if 0 ≤ i ∧ i < m ∧ 0 < n then some (.ptr k s q (o + i.toNat * n)) else none
        | none => none
    | some (.array m e), .pp l o, .int _ i => match szT c.P e with
        | some n => if 0 ≤ i ∧ i < m ∧ 0 < n then some (.pp l (o + i.toNat * n)) else none
        | none => none
    | _, _, _ => none
  | .index t x i => match c.P.underlying t, ρ x, ρ i with
    | some .string, .str s, .int _ i => if h : 0 ≤ i ∧ i.toNat < s.size then some (.int .u8 (s[i.toNat]'h.2).toNat) else none
    | some (.array m e), .agg l, .int _ i => match szT c.P e with
        | some n => if 0 ≤ i ∧ i < m then (cut l (i.toNat * n) n).bind (asType c.P e) else none
        | none => none
    | _, _, _ => none
  | .slice t x lo hi mx => match c.P.underlying t with
    | some .string | some (.slice _) => sliceV c.P t (ρ x) (lo.map ρ) (hi.map ρ) (mx.map ρ)
    | _ => none
  | .binOp op t x y _ => match ρ x, ρ y with
    | .bool a, .bool b => match c.P.underlying t, op with
      | some .bool, .eql => some (.bool (a == b))
      | some .bool, .neq => some (.bool (a != b))
      | _, _ => none
    | .agg a, .agg b => if c.pol.eqt t = true ∧ a.all scal = true ∧ b.all scal = true ∧ a.length = b.length then match op with
        | .eql => some (.bool (eqL a b))
        | .neq => some (.bool (!eqL a b))
        | _ => none
      else none
    | .nilif, .nilif => if isConstO x || isConstO y then match c.P.underlying t, op with
        | some (.interface _), .eql => some (.bool true)
        | some (.interface _), .neq => some (.bool false)
        | _, _ => none
      else none
    | a, b => binV c.pol op t a b
  | .unOp op _ x => unV op (ρ x)
  | .makeFunc (.func f) first cap => some (.fn f (first.toList.map ρ) (cap.toList.map ρ))
  | .extract x i => match ρ x with
    | .tup l => l[i]?
    | _ => none
  | .load t a => loadV c.P H t (ρ a)
  | .convert s d x => match c.P.underlying s, c.P.underlying d, ρ x with
    | some _, some (.int k), .int _ n => some (.int k (k.wrap n))
    | some _, some .string, .str s => some (.str s)
    | some .string, some (.slice e), .str s => if isU8T c.P e = true then some (.sl false (s.data.toList.map fun b => .int .u8 b.toNat)) else none
    | some (.slice e), some .string, x => if isU8T c.P e = true then
        match dr H 2 x with
        | some (.sl _ l, _) => (l.mapM byteOf).map fun bs => .str ⟨bs.toArray⟩
        | _ => none
      else none
    | _, _, _ => none
  | .lookup t x i ok => match keyT c.P t, ρ x with
    | some (d, e), .mapr k => match H.blk k, zeroT c.P e, aggT c.P e with
      | some (.map d' es), some z, some g =>
        if d = d' ∧ isKeyV d (ρ i) = true then
          let zero : PV := if g then .agg z else z.headD .junk
          some (if ok then .tup [(lookV es (ρ i)).getD zero, .bool (lookV es (ρ i)).isSome] else (lookV es (ρ i)).getD zero)
        else none
      | _, _, _ => none
    | _, _ => none
  | .call { callee := .builtin .len, args, argTypes } => match args.toList, argTypes[0]? with
    | [y], some t => match ρ y with
      | .str s => if isStrT c.P t = true then some (.int .i64 s.size) else none
      | .sl _ l => (elemT c.P t).map fun _ => .int .i64 l.length
      | .ms _ _ _ n => (elemT c.P t).map fun _ => .int .i64 n
      | _ => none
    | _, _ => none
  | .call { callee := .builtin .min, args, .. } => match args.toList with
    | [y, z] => match ρ y, ρ z with
      | .int k a, .int _ b => some (.int k (if b < a then b else a))
      | _, _ => none
    | _ => none
  | .call { callee := .builtin .max, args, .. } => match args.toList with
    | [y, z] => match ρ y, ρ z with
      | .int k a, .int _ b => some (.int k (if b > a then b else a))
      | _, _ => none
    | _ => none
  | _ => none

def oneV : PV → Bool
  | .agg _ | .tup _ | .junk => false
  | _ => true
def elemOk : List PV → Bool
  | [] => false
  | [v] => oneV v
  | _ => true
/-- Cells as one element. -/
def elemOf : List PV → PV
  | [v] => v
  | cs => .agg cs

/-- Operations that lay a new block: the block, and the value that leads to it. -/
def stepN (c : Ctx) (op : Op) (ρ : Operand → PV) : Option (Blk × (Key → PV)) :=
  match op with
  | .alloc t => match zeroT c.P t with
    | some z => if elemOk z = true then some (.row z.length [elemOf z] false, fun k => .ptr k z.length 0 0) else none
    | none => none
  | .box _ x => if elemOk (ρ x).cells = true then some (.row (ρ x).cells.length [elemOf (ρ x).cells] false, fun k => .ptr k (ρ x).cells.length 0 0) else some (.row 1 [] false, fun k => .ptr k 1 0 0)
  | .makeSlice t l m => match elemT c.P t with
    | some e => match szT c.P e, byT c.P e, zeroT c.P e, ρ l, ρ m with
      | some n, some by_, some z, .int .i64 a, .int .i64 b => if a = b ∧ 0 ≤ a ∧ (by_ : Int) * a ≤ 281474976710656 ∧ a ≤ 281474976710656 ∧ elemOk z = true ∧ z.length = n then
          some (.row n (List.replicate a.toNat (elemOf z)) false, fun k => .ms k n 0 a.toNat) else none
      | _, _, _, _, _ => none
    | none => none
  | .makeMap t none => (keyT c.P t).map fun q => (.map q.1 [], fun k => .mapr k)
  | .range t x => match c.P.underlying t, ρ x with
    | some .string, .str s => some (.iter s 0, fun k => .ptr k 1 0 0)
    | _, _ => none
  | _ => none

inductive Cls where
  | p | r | n | c | w
  deriving DecidableEq

def clsOf (pol : Pol) (draw : Bool) (op : Op) : Cls :=
  match op with
  | .move _ | .assign _ | .pick .. | .build .. | .buildSlice .. | .fieldAddr .. | .field .. | .indexAddr .. | .index .. | .slice .. | .nilCheck _ | .binOp .. | .unOp ..
  | .makeFunc .. | .extract .. => .p
  | .load .. | .convert .. | .lookup .. => .r
  | .alloc _ | .box .. | .makeSlice .. | .makeMap .. | .range .. => .n
  | .call { callee := .builtin .len, .. } | .call { callee := .builtin .min, .. } | .call { callee := .builtin .max, .. } => .p
  | .call { callee := .value (.func f), .. } => match pol.mode f with
    | .inl => .w
    | _ => .c
  | .call { callee := .value _, .. } => if draw then .c else .w
  | _ => .w

/-- A call that leaves the heap as it is, but that rows may be frozen: what it hands back, the rows to freeze. -/
def stepC (c : Ctx) (O : Orc) (f : FuncId) (args : List PV) (H : Heap) : Option (PV × List Key) :=
  match drL H 12 args with
  | none => none
  | some (as, ks) => match c.pol.mode f with
    | .inl => none
    | .pure => (O.pure f as).map fun r => (r, if r.flat then [] else ks)

def byteV (b : UInt8) : PV := .int .u8 b.toNat

/-- The elements that an append or a copy takes over. -/
def srcV (H : Heap) (sz : Nat) : PV → Option (List PV)
  | .sl _ l => if allSz sz l then some l else none
  | .ms k z off len => match H.blk k with
    | some (.row y els _) => if z = sz ∧ y = sz then cut els off len else none
    | _ => none
  | .str s => if sz = 1 then some (s.data.toList.map byteV) else none
  | _ => none

/-- A type of what is appended: a slice or a string. -/
def srcT (P : Program) (t : TypeId) : Bool := (elemT P t).isSome || isStrT P t

def appendV (c : Ctx) (d : Nat) (t tx : TypeId) (s x : PV) (H : Heap) : Option (PV × Heap) :=
  match (elemT c.P t).bind (szT c.P), (elemT c.P t).bind (byT c.P) with
  | some sz, some by_ => if 0 < sz ∧ 0 < by_ ∧ srcT c.P tx = true then match srcV H sz x with
    | none => none
    | some src => if src.all (fun v => v.cells.all oneV) = true then
      match s with
      | .sl true [] => if src.length * by_ ≤ 2 ^ 47 then some (.ms (H.next c.path d) sz 0 src.length, H.alloc c.path d (.row sz src false)) else none
      | .ms k y off len => match H.blk k with
        | some (.row z els false) => if y = sz ∧ z = sz ∧ off = 0 ∧ len = els.length ∧ (len + src.length) * by_ ≤ 2 ^ 47 then
            some (.ms (H.next c.path d) sz 0 (len + src.length), (H.erase k).alloc c.path d (.row sz (els ++ src) false)) else none
        | _ => none
      | .sl true l => if PV.persL src = true ∧ allSz sz l = true ∧ (l.length + src.length) * by_ ≤ 2 ^ 47 then
            some (.sl false (l ++ src), H) else none
      | _ => none
      else none
    else none
  | _, _ => none

/-- Cells from j on replaced. -/
def putCells (cs : List PV) (j : Nat) (vs : List PV) : List PV := cs.take j ++ vs ++ cs.drop (j + vs.length)

def storeV (c : Ctx) (t : TypeId) (a v : PV) (H : Heap) : Option Heap :=
  match a with
  | .ptr k sz i j => match H.blk k, szT c.P t with
    | some (.row z els false), some n => if z = sz ∧ v.cells.length = n ∧ 0 < n ∧ v.cells.all oneV = true then match els[i]? with
        | some e => if j + n ≤ e.cells.length ∧ elemOk (putCells e.cells j v.cells) = true then some (H.set k (.row sz (els.set i (elemOf (putCells e.cells j v.cells))) false)) else none
        | none => none
      else none
    | _, _ => none
  | _ => none

/-- Operations that change the heap. -/
def stepW (c : Ctx) (O : Orc) (d : Option Nat) (op : Op) (ρ : Operand → PV) (H : Heap) : Option (PV × Heap) :=
  match op with
  | .store t a v => (storeV c t (ρ a) (ρ v) H).map fun H' => (.tup [], H')
  | .mapUpdate t m i v => match keyT c.P t, ρ m with
    | some (d, _), .mapr k => match H.blk k with
      | some (.map d' es) => if d = d' ∧ isKeyV d (ρ i) = true then some (.tup [], H.set k (.map d (updV es (ρ i) (ρ v)))) else none
      | _ => none
    | _, _ => none
  | .next it true => match ρ it with
    | .ptr k 1 0 0 => match H.blk k with
      | some (.iter s pos) => if pos < s.size then
          some (.tup [.bool true, .int .i64 pos, .int .i32 (Utf8.decode s pos).1], H.set k (.iter s (pos + (Utf8.decode s pos).2)))
        else some (.tup [.bool false], H)
      | _ => none
    | _ => none
  | .call { callee := .builtin .append, args, argTypes } => match args.toList, argTypes.toList, d with
    | [s, x], [t, tx], some d => appendV c d t tx (ρ s) (ρ x) H
    | _, _, _ => none
  | .call { callee := .value (.func f), args, .. } => match d with
    | some d => O.inl (c.path ++ [d]) f (args.toList.map ρ) H
    | none => O.inl (c.path ++ [1000000]) f (args.toList.map ρ) H
  | .call { callee := .value g, args, .. } => match ρ g with
    | .fn f first cap => match c.pol.mode f with
      | .inl => O.inl (c.path ++ [d.getD 1000000]) f (first ++ args.toList.map ρ ++ cap) H
      | _ => match stepC c O f (first ++ args.toList.map ρ ++ cap) H with
        | some (r, ks) => some (r, H.freeze ks)
        | none => none
    | _ => none
  | _ => none

def callee (op : Op) (ρ : Operand → PV) : Option (FuncId × List PV) :=
  match op with
  | .call { callee := .value g, args, .. } => match ρ g with
    | .fn f first cap => some (f, first ++ args.toList.map ρ ++ cap)
    | _ => none
  | _ => none

/-- What a step that is no writing one does to the heap. -/
inductive Eff where
  | keep
  | lay (d : Nat) (b : Blk)
  | frz (ks : List Key)

def Eff.app (p : List Nat) : Eff → Heap → Heap
  | .keep, H => H
  | .lay d b, H => H.alloc p d b
  | .frz ks, H => H.freeze ks

/-- A step that is no writing one. -/
def evEff (c : Ctx) (O : Orc) (draw : Bool) (o : Oper) (ρ : Operand → PV) (H : Heap) : Option (PV × Eff) :=
  match clsOf c.pol draw o.op with
  | .p | .r => (stepV c o.op ρ H).map fun v => (v, .keep)
  | .n => match o.dst with
    | some d => (stepN c o.op ρ).map fun r => (r.2 (H.next c.path d), .lay d r.1)
    | none => none
  | .c => match callee o.op ρ with
    | some (f, args) => (stepC c O f args H).map fun r => (r.1, .frz r.2)
    | none => none
  | .w => none

def evOp (c : Ctx) (O : Orc) (draw : Bool) (o : Oper) (st : St) : Option St :=
  match clsOf c.pol draw o.op with
  | .w => (stepW c O o.dst o.op (opv c.pol.glob st.tm) st.hp).map fun r => { tm := (st.put o.dst r.1).tm, hp := r.2 }
  | _ => (evEff c O draw o (opv c.pol.glob st.tm) st.hp).map fun r => { tm := (st.put o.dst r.1).tm, hp := r.2.app c.path st.hp }

def wantedV (ops : Array Oper) (o : Oper) (st : St) : Option Bool :=
  match o.guard with
  | none => some true
  | some (j, b) => match (ops[j]?).bind (·.dst) with
    | some d => match st.tm d with
      | .bool x => some (x == b)
      | .tup _ => some false
      | _ => none
    | none => none

/-- The operation at a place. -/
def evStep (c : Ctx) (O : Orc) (draw : Bool) (ops : Array Oper) (i : Nat) (st : St) : Option St :=
  match ops[i]? with
  | none => none
  | some o => match wantedV ops o st with
    | none => none
    | some true => evOp c O draw o st
    | some false => some (st.put o.dst (.tup []))

/-- Operations in the order of a list of places. -/
def evList (c : Ctx) (O : Orc) (draw : Bool) (ops : Array Oper) : List Nat → St → Option St
  | [], st => some st
  | i :: l, st => (evStep c O draw ops i st).bind (evList c O draw ops l)

inductive Ex where
  | normal
  | exit (id : Nat)
  | ret

/-- An operation that changes at most one row, in place. -/
def plainOp (pol : Pol) (o : Oper) : Bool :=
  match clsOf pol true o.op, o.op with
  | .p, _ | .r, _ => true
  | .w, .store .. => true
  | _, _ => false

/-- What a store writes to. -/
def touch (c : Ctx) (ops : Array Oper) (i : Nat) (st : St) : List Key :=
  match ops[i]? with
  | some o => match o.op with
    | .store _ a _ => match opv c.pol.glob st.tm a with
      | .ptr k _ _ _ => [k]
      | _ => []
    | _ => []
  | none => []

/-- As evList, with what is written to. -/
def evListT (c : Ctx) (O : Orc) (ops : Array Oper) : List Nat → St → Option (St × List Key)
  | [], st => some (st, [])
  | i :: l, st => match evStep c O true ops i st with
    | none => none
    | some st1 => match evListT c O ops l st1 with
      | none => none
      | some (st2, ks) => some (st2, touch c ops i st ++ ks)

def sameB (ops : Array Oper) (st st' : St) (ks : List Key) : Bool :=
  (ops.toList.filterMap (·.dst)).all (fun d => PV.beq (st.tm d) (st'.tm d)) && ks.all fun k => Blk.beq (st.hp.blk k) (st'.hp.blk k)

def evRegion (c : Ctx) (O : Orc) (id : Nat) (ops : Array Oper) (draw : Bool) (st : St) : Option St :=
  match draw, c.pol.reps c.fn id with
  | true, r :: rs => match evListT c O ops (List.range ops.size) st with
    | some (st0, ks) => if ops.toList.all (plainOp c.pol) && (r :: rs).all (fun l => match evListT c O ops l st with
        | some (st1, ks1) => sameB ops st0 st1 (ks ++ ks1)
        | none => false) then some st0 else none
    | none => none
  | d, _ => evList c O d ops (List.range ops.size) st

def evCode (c : Ctx) (O : Orc) : Nat → Code → St → Option (Ex × St)
  | 0, _, _ => none
  | _ + 1, .skip, st => some (.normal, st)
  | _ + 1, .region id ops draw, st => (evRegion c O id ops draw st).map fun st => (.normal, st)
  | n + 1, .seq a b, st => match evCode c O n a st with
    | some (.normal, st') => evCode c O n b st'
    | r => r
  | n + 1, .cond x a b, st => match opv c.pol.glob st.tm x with
    | .bool t => evCode c O n (if t then a else b) st
    | _ => none
  | n + 1, .block id a, st => match evCode c O n a st with
    | some (.exit j, st') => if j = id then some (.normal, st') else some (.exit j, st')
    | r => r
  | n + 1, .loop a, st => match evCode c O n a st with
    | some (.normal, st') => evCode c O n (.loop a) st'
    | r => r
  | _ + 1, .exit id, st => some (.exit id, st)
  | _ + 1, .ret, st => some (.ret, st)
  | _, _, _ => none

def resV (c : Ctx) (st : St) : ResultVar → Option PV
  | .tmp t => some (st.tm t)
  | .cell a t => loadV c.P st.hp t (st.tm a)

def resultsV (c : Ctx) (st : St) (rs : List ResultVar) : Option PV :=
  match rs with
  | [r] => resV c st r
  | rs => (rs.mapM (resV c st)).map .tup

def startSt (args : List PV) (H : Heap) : St := ⟨fun i => args.getD i (.tup []), H⟩

/-- A function's body: the result, and the heap. -/
def evBody (P : Program) (pol : Pol) (O : Orc) (n : Nat) (path : List Nat) (f : FuncId) (args : List PV) (H : Heap) : Option (PV × Heap) :=
  match P.funcs[f]? with
  | none => none
  | some fn => match fn.body with
    | none => none
    | some body => if args.length ≤ fn.ntmps ∧ pol.use f = true then match evCode ⟨P, pol, path, f⟩ O n body (startSt args H) with
      | some (.normal, st) | some (.ret, st) => (resultsV ⟨P, pol, path, f⟩ st fn.results.toList).map fun r => (r, st.hp)
      | _ => none
      else none

/-- A call at arguments without keys: on a heap of its own, of which the result takes what it needs. -/
def evPure (P : Program) (pol : Pol) (O : Orc) (n : Nat) (f : FuncId) (args : List PV) : Option PV :=
  if PV.persL args = true then
    match evBody P pol O n [] f args Heap.empty with
    | some (r, H) => (dr H 12 r).map (·.1)
    | none => none
  else none

def orc (P : Program) (pol : Pol) (prim : FuncId → List PV → Option PV) (primI : FuncId → List PV → Heap → Option (PV × Heap)) : Nat → Orc
  | 0 => ⟨prim, fun _ f args H => primI f args H⟩
  | n + 1 =>
    { pure := fun f args => match prim f args with
        | some r => some r
        | none => evPure P pol (orc P pol prim primI n) n f args
      inl := fun path f args H => match primI f args H with
        | some r => some r
        | none => evBody P pol (orc P pol prim primI n) n path f args H }
end Go.Proofs.YtigfgicjjhepoaaGreatDoor.VA
set_option linter.unusedVariables false
set_option linter.unusedSimpArgs false
namespace Go.Proofs.YtigfgicjjhepoaaGreatDoor.VA
open Go Go.RowKit

/-- A row of at least n cells, none frozen, lies at b. -/
def room (w : World) (b n : Nat) : Prop := ∃ (arr : Array Value) (e : TypeId), w.heap[b]? = some (.cells arr e (0, 0)) ∧ n ≤ arr.size

inductive Rep (w : World) (ρ : Key → Option Nat) (M : Nat → Prop) : PV → Value → Prop
  | bool (b : Bool) : Rep w ρ M (.bool b) (.bool b)
  | int (k : IntKind) (n : Int) : Rep w ρ M (.int k n) (.int k n)
  | str (s : ByteArray) : Rep w ρ M (.str s) (.string s)
  | agg (l : List PV) (cs : Array Value) (hl : l.length = cs.size) (h : ∀ (i : Nat) (c : PV) (v : Value), l[i]? = some c → cs[i]? = some v → Rep w ρ M c v) : Rep w ρ M (.agg l) (.agg cs)
  | tup (l : List PV) (cs : Array Value) (hl : l.length = cs.size) (h : ∀ (i : Nat) (c : PV) (v : Value), l[i]? = some c → cs[i]? = some v → Rep w ρ M c v) : Rep w ρ M (.tup l) (.tuple cs)
  | sl0 (f : Bool) (a : Option Addr) (c : Nat) (hf : f = true → c = 0) : Rep w ρ M (.sl f []) (.slice a 0 c)
  | sl (f : Bool) (l : List PV) (b o c sz : Nat) (val : Nat → Nat → Value) (hc : l.length ≤ c) (hf : f = true → c = l.length) (hsz : ∀ v ∈ l, v.cells.length = sz) (hpos : 0 < sz) (hM : ¬ M b)
      (h1 : ∀ (i : Nat) (v : PV) (j : Nat) (x : PV), l[i]? = some v → v.cells[j]? = some x → w.cell? ⟨b, o + i * sz + j, none⟩ = some (val i j))
      (h2 : ∀ (i : Nat) (v : PV) (j : Nat) (x : PV), l[i]? = some v → v.cells[j]? = some x → Rep w ρ M x (val i j)) : Rep w ρ M (.sl f l) (.slice (some ⟨b, o, none⟩) l.length c)
  | ms0 (k : Key) (sz off : Nat) (a : Option Addr) : Rep w ρ M (.ms k sz off 0) (.slice a 0 0)
  | ms (k : Key) (sz off len b c : Nat) (hk : ρ k = some b) (hc : len ≤ c) (hr : room w b ((off + c) * sz)) : Rep w ρ M (.ms k sz off len) (.slice (some ⟨b, off * sz, none⟩) len c)
  | ptr (k : Key) (sz i j b : Nat) (hk : ρ k = some b) : Rep w ρ M (.ptr k sz i j) (.pointer (some ⟨b, i * sz + j, none⟩))
  | pp (l : List PV) (off b o : Nat) (val : Nat → Value) (hb : b < w.heap.size) (hM : ¬ M b)
      (h1 : ∀ (j : Nat) (x : PV), l[j]? = some x → w.cell? ⟨b, o + j, none⟩ = some (val j))
      (h2 : ∀ (j : Nat) (x : PV), l[j]? = some x → Rep w ρ M x (val j)) : Rep w ρ M (.pp l off) (.pointer (some ⟨b, o + off, none⟩))
  | nilp : Rep w ρ M .nilp (.pointer none)
  | fn (f : FuncId) (x y : List PV) (a b : Array Value) (hx : x.length = a.size) (hy : y.length = b.size)
      (h1 : ∀ (i : Nat) (c : PV) (v : Value), x[i]? = some c → a[i]? = some v → Rep w ρ M c v)
      (h2 : ∀ (i : Nat) (c : PV) (v : Value), y[i]? = some c → b[i]? = some v → Rep w ρ M c v) : Rep w ρ M (.fn f x y) (.func (.func f) a b)
  | nilfn : Rep w ρ M .nilfn .nilFunc
  | mapr (k : Key) (b : Nat) (hk : ρ k = some b) : Rep w ρ M (.mapr k) (.map (some b))
  | nilm : Rep w ρ M .nilm (.map none)
  | nilif : Rep w ρ M .nilif .nilIface
  | yld (k : Key) (b : Nat) (hk : ρ k = some b) : Rep w ρ M (.yld k) (.func (.yield b) #[] #[])
  | junk (v : Value) : Rep w ρ M .junk v

/-- What a step may do to what is represented. -/
structure Evo (w : World) (ρ : Key → Option Nat) (M : Nat → Prop) (w' : World) (ρ' : Key → Option Nat) (M' : Nat → Prop) : Prop where
  keys : ∀ k b, ρ k = some b → ρ' k = some b
  cell : ∀ a v, w.cell? a = some v → ¬ M a.block → w'.cell? a = some v
  rooms : ∀ b n, room w b n → room w' b n
  muts : ∀ b, b < w.heap.size → M' b → M b
  size : w.heap.size ≤ w'.heap.size
  defs : ∀ (b : Nat) (x : Option (List Deferred)), w.heap[b]? = some (Obj.deferred x) → w'.heap[b]? = some (Obj.deferred x)

theorem Evo.refl (w : World) (ρ : Key → Option Nat) (M : Nat → Prop) : Evo w ρ M w ρ M := ⟨fun _ _ h => h, fun _ _ h _ => h, fun _ _ h => h, fun _ _ h => h, Nat.le_refl _, fun _ _ h => h⟩

theorem cell_lt {w : World} {a : Addr} {v : Value} (h : w.cell? a = some v) : a.block < w.heap.size := World.block_lt_of_cell? w a h

theorem Evo.trans {w w1 w2 : World} {ρ ρ1 ρ2 : Key → Option Nat} {M M1 M2 : Nat → Prop} (h : Evo w ρ M w1 ρ1 M1) (g : Evo w1 ρ1 M1 w2 ρ2 M2) : Evo w ρ M w2 ρ2 M2 where
  keys k b hk := g.keys k b (h.keys k b hk)
  cell a v hc hm := g.cell a v (h.cell a v hc hm) (fun hm1 => hm (h.muts _ (cell_lt hc) hm1))
  rooms b n hr := g.rooms b n (h.rooms b n hr)
  muts b hb hm := h.muts b hb (g.muts b (Nat.lt_of_lt_of_le hb h.size) hm)
  size := Nat.le_trans h.size g.size
  defs b x hb := g.defs b x (h.defs b x hb)

theorem Rep.evo {w w' : World} {ρ ρ' : Key → Option Nat} {M M' : Nat → Prop} (E : Evo w ρ M w' ρ' M') {x : PV} {v : Value} (h : Rep w ρ M x v) : Rep w' ρ' M' x v := by
  induction h with
  | bool b => exact .bool b
  | int k n => exact .int k n
  | str s => exact .str s
  | agg l cs hl h ih => exact .agg l cs hl ih
  | tup l cs hl h ih => exact .tup l cs hl ih
  | sl0 f a c hf => exact .sl0 f a c hf
  | sl f l b o c sz val hc hf hsz hpos hM h1 h2 ih =>
    by_cases hl : l = []
    · subst hl
      exact .sl0 f _ c (fun h => by simpa using hf h)
    · refine .sl f l b o c sz val hc hf hsz hpos (fun hm => ?_) (fun i v j x hi hj => E.cell _ _ (h1 i v j x hi hj) hM) ih
      obtain ⟨v, l', rfl⟩ := List.exists_cons_of_ne_nil hl
      have hv := hsz v (by simp)
      have h0 : ∃ x, v.cells[0]? = some x := by
        cases hcs : v.cells with
        | nil => rw [hcs] at hv; simp at hv; omega
        | cons x _ => exact ⟨x, by simp⟩
      obtain ⟨x, hx⟩ := h0
      exact hM (E.muts b (cell_lt (h1 0 v 0 x (by simp) hx)) hm)
  | ms0 k sz off a => exact .ms0 k sz off a
  | ms k sz off len b c hk hc hr => exact .ms k sz off len b c (E.keys _ _ hk) hc (E.rooms _ _ hr)
  | ptr k sz i j b hk => exact .ptr k sz i j b (E.keys _ _ hk)
  | pp l off b o val hb hM h1 h2 ih => exact .pp l off b o val (Nat.lt_of_lt_of_le hb E.size) (fun hm => hM (E.muts b hb hm)) (fun j x hj => E.cell _ _ (h1 j x hj) hM) ih
  | nilp => exact .nilp
  | fn f x y a b hx hy h1 h2 ih1 ih2 => exact .fn f x y a b hx hy ih1 ih2
  | nilfn => exact .nilfn
  | mapr k b hk => exact .mapr k b (E.keys _ _ hk)
  | nilm => exact .nilm
  | nilif => exact .nilif
  | yld k b hk => exact .yld k b (E.keys _ _ hk)
  | junk v => exact .junk v
end Go.Proofs.YtigfgicjjhepoaaGreatDoor.VA
set_option linter.unusedVariables false
set_option linter.unusedSimpArgs false
namespace Go.Proofs.YtigfgicjjhepoaaGreatDoor.VA
open Go Go.RowKit

/-- The blocks that may still be written. -/
def Mut (Ext : Nat → Prop) (ρ : Key → Option Nat) (H : Heap) : Nat → Prop := fun b => Ext b ∨ ∃ k sz els, H.blk k = some (.row sz els false) ∧ ρ k = some b

def scalV : Value → Bool
  | .int _ _ | .string _ => true
  | _ => false

def BlkRel (w : World) (ρ : Key → Option Nat) (M : Nat → Prop) (b : Nat) : Blk → Prop
  | .row sz els _ => ∃ (arr : Array Value) (e : TypeId), w.heap[b]? = some (.cells arr e (0, 0)) ∧ els.length * sz ≤ arr.size ∧ 0 < sz ∧ (∀ x ∈ els, x.cells.length = sz) ∧
      ∀ (i : Nat) (x : PV) (j : Nat) (c : PV) (v : Value), els[i]? = some x → x.cells[j]? = some c → arr[i * sz + j]? = some v → Rep w ρ M c v
  | .map d es => ∃ (en : Array MapEntry), w.heap[b]? = some (.map en en.size) ∧ en.size = es.length ∧
      ∀ (i : Nat) (k v : PV) (e : MapEntry), es[i]? = some (k, v) → en[i]? = some e → Rep w ρ M k e.key ∧ Rep w ρ M v e.val ∧ e.born = i ∧ isKeyV d k = true
  | .iter s pos => w.heap[b]? = some (.stringIter s pos)
  | .loop fn nt tm ps assign body state pend => ∃ (tmps : Array Value) (d : Nat), w.heap[b]? = some (.loop { state := state, pending := pend, fn := fn, tmps := tmps, params := ps, assign := assign, body := body, defers := d }) ∧ tmps.size = nt ∧ ∀ i, Rep w ρ M (tm i) (tmps.getD i undef)

structure HRel (ng base : Nat) (Ext : Nat → Prop) (ρ : Key → Option Nat) (H : Heap) (w : World) : Prop where
  ngb : ng ≤ base
  size : base ≤ w.heap.size
  ext : ∀ b, Ext b → b < base ∧ ng ≤ b
  dom : ∀ k b, ρ k = some b → base ≤ b ∧ b < w.heap.size
  fresh : ∀ p d n, H.cnt p d ≤ n → ρ (p, d, n) = none ∧ H.blk (p, d, n) = none
  inj : ∀ k k' b, H.blk k ≠ none → H.blk k' ≠ none → ρ k = some b → ρ k' = some b → k = k'
  blk : ∀ k x, H.blk k = some x → (∃ sz fz, x = .row sz [] fz ∧ ρ k = none) ∨ ∃ b, ρ k = some b ∧ BlkRel w ρ (Mut Ext ρ H) b x

theorem evo_below {ng base : Nat} {Ext : Nat → Prop} {ρ : Key → Option Nat} {H : Heap} {w w' : World} (h : HRel ng base Ext ρ H w) (B : Below w.heap.size w w') (M : Nat → Prop) : Evo w ρ M w' ρ M where
  keys _ _ h := h
  cell a v hc _ := (B.cell (cell_lt hc)).trans hc
  rooms b n hr := by
    obtain ⟨arr, e, hb, hn⟩ := hr
    exact ⟨arr, e, (B.block b (Array.getElem?_eq_some_iff.1 hb).1).trans hb, hn⟩
  muts _ _ h := h
  size := B.size
  defs b x hb := (B.block b (Array.getElem?_eq_some_iff.1 hb).1).trans hb

theorem BlkRel.evo {w w' : World} {ρ ρ' : Key → Option Nat} {M M' : Nat → Prop} {b : Nat} {x : Blk} (E : Evo w ρ M w' ρ' M') (hb : w'.heap[b]? = w.heap[b]?) (h : BlkRel w ρ M b x) : BlkRel w' ρ' M' b x := by
  cases x with
  | row sz cs fz =>
    obtain ⟨arr, e, h1, h2, h3, h4, h5⟩ := h
    exact ⟨arr, e, hb.trans h1, h2, h3, h4, fun i x j c v hi hc hv => (h5 i x j c v hi hc hv).evo E⟩
  | map d es =>
    obtain ⟨en, h1, h2, h3⟩ := h
    exact ⟨en, hb.trans h1, h2, fun i k v e hi he => ⟨(h3 i k v e hi he).1.evo E, (h3 i k v e hi he).2.1.evo E, (h3 i k v e hi he).2.2⟩⟩
  | iter s pos => exact hb.trans h
  | loop fn nt tm ps assign body state pend =>
    obtain ⟨tmps, d, h1, h2, h3⟩ := h
    exact ⟨tmps, d, hb.trans h1, h2, fun i => (h3 i).evo E⟩

theorem BlkRel.lt {w : World} {ρ : Key → Option Nat} {M : Nat → Prop} {b : Nat} {x : Blk} (h : BlkRel w ρ M b x) : b < w.heap.size := by
  cases x with
  | row sz cs fz => obtain ⟨arr, e, h1, _⟩ := h; exact (Array.getElem?_eq_some_iff.1 h1).1
  | map d es => obtain ⟨en, h1, _⟩ := h; exact (Array.getElem?_eq_some_iff.1 h1).1
  | iter s pos => exact (Array.getElem?_eq_some_iff.1 h).1
  | loop fn nt tm ps assign body state pend => obtain ⟨tmps, d, h1, _⟩ := h; exact (Array.getElem?_eq_some_iff.1 h1).1

theorem HRel.below {ng base : Nat} {Ext : Nat → Prop} {ρ : Key → Option Nat} {H : Heap} {w w' : World} (h : HRel ng base Ext ρ H w) (B : Below w.heap.size w w') : HRel ng base Ext ρ H w' where
  ngb := h.ngb
  size := Nat.le_trans h.size B.size
  ext := h.ext
  dom k b hk := ⟨(h.dom k b hk).1, Nat.lt_of_lt_of_le (h.dom k b hk).2 B.size⟩
  fresh := h.fresh
  inj := h.inj
  blk k x hx := by
    rcases h.blk k x hx with h0 | ⟨b, hb, hr⟩
    · exact .inl h0
    · exact .inr ⟨b, hb, hr.evo (evo_below h B _) (B.block b hr.lt)⟩

/-- The state of the code: its temporaries, the heap. D: the deferred calls that stand. -/
structure Rel (ng base nt : Nat) (w0 : World) (Ext : Nat → Prop) (D : List Deferred) (ρ : Key → Option Nat) (st : St) (a : Act) (w : World) : Prop where
  tmps : ∀ i, Rep w ρ (Mut Ext ρ st.hp) (st.tm i) (a.tmps.getD i undef)
  size : a.tmps.size = nt
  defers : a.defers = D
  below : Below base w0 w
  heap : HRel ng base Ext ρ st.hp w

theorem getD_set {xs : Array Value} {i d : Nat} {v : Value} (hd : d < xs.size) : (xs.setIfInBounds d v).getD i undef = if i = d then v else xs.getD i undef := by
  simp only [Array.getD_eq_getD_getElem?, Array.getElem?_setIfInBounds]
  by_cases h : i = d
  · subst h; simp [hd]
  · rw [if_neg h, if_neg (fun e => h e.symm)]

theorem Rel.put {ng base nt : Nat} {w0 : World} {Ext : Nat → Prop} {D : List Deferred} {ρ : Key → Option Nat} {st : St} {a : Act} {w : World} (h : Rel ng base nt w0 Ext D ρ st a w) (d : Option Nat) (hd : ∀ i, d = some i → i < nt)
    {x : PV} {v : Value} (hx : Rep w ρ (Mut Ext ρ st.hp) x v) : Rel ng base nt w0 Ext D ρ (st.put d x) (a.put d v) w := by
  cases d with
  | none => exact h
  | some d =>
    have hlt := hd d rfl
    refine ⟨fun i => ?_, ?_, h.defers, h.below, h.heap⟩
    · simp only [Act.put, St.put]
      rw [getD_set (by rw [h.size]; exact hlt)]
      by_cases e : i = d
      · simp only [e, if_true]; exact hx
      · simp only [e, if_false]; exact h.tmps i
    · simp [Act.put, h.size]

/-- The world has grown, and nothing else has turned. -/
theorem Rel.grow {ng base nt : Nat} {w0 : World} {Ext : Nat → Prop} {D : List Deferred} {ρ : Key → Option Nat} {st : St} {a : Act} {w w' : World} (h : Rel ng base nt w0 Ext D ρ st a w) (B : Below w.heap.size w w') : Rel ng base nt w0 Ext D ρ st a w' :=
  ⟨fun i => (h.tmps i).evo (evo_below h.heap B _), h.size, h.defers, h.below.trans (B.mono h.heap.size), h.heap.below B⟩
end Go.Proofs.YtigfgicjjhepoaaGreatDoor.VA
set_option linter.unusedVariables false
set_option linter.unusedSimpArgs false
namespace Go.Proofs.YtigfgicjjhepoaaGreatDoor.VA
open Go Go.RowKit

/-- Closed facts about a program. -/
structure POk (P : Program) (pol : Pol) : Prop where
  fields : ∀ t fs, okT P t = true → P.underlying t = some (.struct fs) → (fs.toList.mapM (fun f => (P.info? f.type).map fun i => (f.offset, i.size))).isSome = true
  zero : ∀ t i z, okT P t = true → P.info? t = some i → i.zero = some z → z.cells.size = i.size
  zagg : ∀ t i z, okT P t = true → P.info? t = some i → i.zero = some z → aggT P t = some true → ∃ cs, z = .agg cs
  zone : ∀ t i z, okT P t = true → P.info? t = some i → i.zero = some z → aggT P t = some false → z.oneCell' = true
  hasZero : ∀ t i, okT P t = true → P.info? t = some i → ∃ z, i.zero = some z
  mixed : P.follows .mixedOrders = true
  eqt : ∀ t, pol.eqt t = true → ∀ (xs ys : Array Value) (w : World), (∀ v ∈ xs.toList ++ ys.toList, (∃ k n, v = .int k n) ∨ (∃ s, v = .string s) ∨ ∃ b, v = .bool b) → xs.size = ys.size →
    ∃ b, (Op.equal t (.agg xs) (.agg ys)).run P w = .ok b w ∧ (b = true ↔ xs = ys)
  eqg : ∀ t, pol.eqt t = true → P.eqGuardType P.depth t = false

theorem sizeT {P : Program} {t : TypeId} {n : Nat} (h : szT P t = some n) : ∃ i, P.info? t = some i ∧ i.size = n := by
  unfold szT at h
  split at h
  · simpa using h
  · cases h
theorem size_ok {P : Program} {t : TypeId} {n : Nat} (h : szT P t = some n) : okT P t = true := by
  unfold szT at h
  split at h
  · assumption
  · cases h
theorem zero_okT {P : Program} {t : TypeId} {z : List PV} (h : zeroT P t = some z) : okT P t = true := by
  unfold zeroT at h
  split at h
  · assumption
  · cases h
theorem run_sizeOf {P : Program} {t : TypeId} {n : Nat} (h : szT P t = some n) (w : World) : (sizeOf t).run P w = .ok n w := by
  obtain ⟨i, hi, rfl⟩ := sizeT h
  simp [sizeOf, typeInfo, hi]

section
variable {w : World} {ρ : Key → Option Nat} {M : Nat → Prop}

theorem rep_list {l : List PV} {vs : List Value} (hl : l.length = vs.length) (h : ∀ (i : Nat) (c : PV) (v : Value), l[i]? = some c → vs[i]? = some v → Rep w ρ M c v) (P0 : List PV → List Value → Prop) (hP : P0 l vs) : P0 l vs := hP

theorem rep_ofVal : ∀ (n : Nat) (v : Value), Rep w ρ M (ofVal n v) v := by
  intro n
  induction n with
  | zero => intro v; cases v <;> exact .junk _
  | succ n ih =>
    intro v
    cases v with
    | bool b => exact .bool b
    | int k i => exact .int k i
    | string s => exact .str s
    | pointer a => cases a with
      | none => exact .nilp
      | some a => exact .junk _
    | slice a l c =>
      by_cases h : a = none ∧ l = 0 ∧ c = 0
      · obtain ⟨rfl, rfl, rfl⟩ := h; exact .sl0 true none 0 (fun _ => rfl)
      · have : ofVal (n + 1) (.slice a l c) = .junk := by
          unfold ofVal
          split <;> simp_all
        rw [this]; exact .junk _
    | map r => cases r with
      | none => exact .nilm
      | some a => exact .junk _
    | nilFunc => exact .nilfn
    | nilIface => exact .nilif
    | agg cs =>
      refine .agg _ cs (by simp) (fun i c v hc hv => ?_)
      simp only [List.getElem?_map, Array.getElem?_toList, hv, Option.map_some, Option.some.injEq] at hc
      subst hc; exact ih v
    | tuple vs =>
      refine .tup _ vs (by simp) (fun i c v hc hv => ?_)
      simp only [List.getElem?_map, Array.getElem?_toList, hv, Option.map_some, Option.some.injEq] at hc
      subst hc; exact ih v
    | float k b => exact .junk _
    | complex k a b => exact .junk _
    | chan r => exact .junk _
    | func f a b => exact .junk _
    | iface t v => exact .junk _

/-- The cells of what is represented. -/
theorem Rep.cells {x : PV} {v : Value} (h : Rep w ρ M x v) (hj : x ≠ .junk) : x.cells.length = v.cells.size ∧ ∀ (i : Nat) (c : PV) (u : Value), x.cells[i]? = some c → v.cells[i]? = some u → Rep w ρ M c u := by
  cases h with
  | agg l cs hl h => exact ⟨by simpa [PV.cells, Value.cells] using hl, fun i c u hc hu => h i c u (by simpa [PV.cells] using hc) (by simpa [Value.cells] using hu)⟩
  | junk v => exact absurd rfl hj
  | _ =>
    refine ⟨rfl, fun i c u hc hu => ?_⟩
    rcases i with _ | i
    · simp only [PV.cells, Value.cells, List.getElem?_cons_zero, Option.some.injEq] at hc hu
      simp only [List.getElem?_toArray, List.getElem?_cons_zero, Option.some.injEq] at hu
      subst hc hu
      first
        | exact .bool _
        | exact .int _ _
        | exact .str _
        | exact .nilp
        | exact .nilfn
        | exact .nilm
        | exact .nilif
        | (constructor <;> assumption)
    · simp [PV.cells] at hc

theorem rep_asType {P : Program} {t : TypeId} {cs : List PV} {vs : List Value} {x : PV} (h : asType P t cs = some x) (hl : cs.length = vs.length)
    (hr : ∀ (i : Nat) (c : PV) (v : Value), cs[i]? = some c → vs[i]? = some v → Rep w ρ M c v) :
    (aggT P t = some true ∧ Rep w ρ M x (.agg vs.toArray)) ∨ (aggT P t = some false ∧ ∃ v, vs = [v] ∧ Rep w ρ M x v) := by
  unfold asType at h
  cases ha : aggT P t with
  | none => simp [ha] at h
  | some b =>
    cases b with
    | true =>
      simp only [ha, Option.some.injEq] at h
      subst h
      exact .inl ⟨rfl, .agg _ _ (by simpa using hl) (fun i c v hc hv => hr i c v hc (by simpa using hv))⟩
    | false =>
      simp only [ha] at h
      match cs, h with
      | [c], h =>
        simp only [Option.some.injEq] at h
        subst h
        match vs, hl with
        | [v], _ => exact .inr ⟨rfl, v, rfl, hr 0 c v rfl rfl⟩

theorem run_isAgg {P : Program} {t : TypeId} {b : Bool} (h : aggT P t = some b) (w : World) : (isAgg t).run P w = .ok b w := by
  unfold aggT at h
  unfold isAgg
  cases hu : P.underlying t with
  | none => simp [hu] at h
  | some d => cases d <;> simp [hu] at h <;> subst h <;> simp [run_underlying hu]

theorem cut_some {cs l : List PV} {off n : Nat} (h : cut cs off n = some l) : off + n ≤ cs.length ∧ l = (cs.drop off).take n ∧ l.length = n ∧ ∀ i, i < n → l[i]? = cs[off + i]? := by
  unfold cut at h
  split at h
  · rename_i hle
    simp only [Option.some.injEq] at h
    subst h
    refine ⟨hle, rfl, by simp; omega, fun i hi => ?_⟩
    rw [List.getElem?_take_of_lt hi, List.getElem?_drop]
  · cases h

/-- Cells that are in place are loaded as the type says. -/
theorem run_load_cells {P : Program} {t : TypeId} {n : Nat} (hn : szT P t = some n) {b off : Nat} {cs : List PV} {x : PV} (hx : asType P t cs = some x) (hl : cs.length = n) (val : Nat → Value)
    (hc : ∀ j, j < n → w.cell? ⟨b, off + j, none⟩ = some (val j)) (hr : ∀ j c, cs[j]? = some c → Rep w ρ M c (val j)) :
    ∃ v, (loadVar t ⟨b, off, none⟩).run P w = .ok v w ∧ Rep w ρ M x v := by
  have key := rep_asType (vs := (List.range n).map val) hx (by simpa using hl) (fun i c v hi hv => by
    have hlt : i < n := by have := (List.getElem?_eq_some_iff.1 hi).1; omega
    simp only [List.getElem?_map, List.getElem?_range hlt, Option.map_some, Option.some.injEq] at hv
    subst hv; exact hr i c hi)
  rcases key with ⟨ha, hrep⟩ | ⟨ha, v, hv, hrep⟩
  · refine ⟨_, ?_, hrep⟩
    have hload : (loadCells ⟨b, off, none⟩ n).run P w = .ok ((List.range n).map val).toArray w := run_loadCells w _ n val (fun j hj => by rw [Addr.add_lit]; exact hc j hj)
    simp [loadVar, run_isAgg ha, run_sizeOf hn, hload]
  · have hn1 : n = 1 := by have := congrArg List.length hv; simpa using this
    subst hn1
    refine ⟨v, ?_, hrep⟩
    have h0 := hc 0 (by omega)
    simp only [Nat.add_zero] at h0
    have : v = val 0 := by simpa using hv.symm
    subst this
    simp [loadVar, run_isAgg ha, run_load, h0]
end
end Go.Proofs.YtigfgicjjhepoaaGreatDoor.VA
set_option linter.unusedVariables false
set_option linter.unusedSimpArgs false
namespace Go.Proofs.YtigfgicjjhepoaaGreatDoor.VA
open Go Go.RowKit
section
variable {w : World} {ρ : Key → Option Nat} {M : Nat → Prop} {P : Program}

/-- What holds of the heap's rows. -/
def Rows (w : World) (ρ : Key → Option Nat) (M : Nat → Prop) (H : Heap) : Prop :=
  ∀ k sz els fz b, H.blk k = some (.row sz els fz) → ρ k = some b → BlkRel w ρ M b (.row sz els fz)

theorem HRel.rows {ng base : Nat} {Ext : Nat → Prop} {H : Heap} (h : HRel ng base Ext ρ H w) : Rows w ρ (Mut Ext ρ H) H := by
  intro k sz cs fz b hk hb
  rcases h.blk k _ hk with ⟨sz', fz', h0, hn⟩ | ⟨b', hb', hr⟩
  · rw [hn] at hb; cases hb
  · rw [hb'] at hb; cases hb; exact hr

theorem mul_lt_of {i n s j : Nat} (hi : i < n) (hj : j < s) : i * s + j < n * s := by
  have : (i + 1) * s ≤ n * s := Nat.mul_le_mul_right s hi
  rw [Nat.succ_mul] at this
  omega

theorem elem_at {H : Heap} (hR : Rows w ρ M H) {k : Key} {sz : Nat} {els : List PV} {fz : Bool} {b : Nat} (hk : H.blk k = some (.row sz els fz)) (hb : ρ k = some b) {i : Nat} {e : PV} (he : els[i]? = some e) :
    e.cells.length = sz ∧ ∃ val : Nat → Value, ∀ j c, e.cells[j]? = some c → w.cell? ⟨b, i * sz + j, none⟩ = some (val j) ∧ Rep w ρ M c (val j) := by
  obtain ⟨arr, ty, h1, h2, h3, h4, h5⟩ := hR k sz els fz b hk hb
  have hsz := h4 e (List.mem_of_getElem? he)
  refine ⟨hsz, fun j => arr.getD (i * sz + j) undef, fun j c hj => ?_⟩
  have hi : i < els.length := (List.getElem?_eq_some_iff.1 he).1
  have hj' : j < sz := by have := (List.getElem?_eq_some_iff.1 hj).1; omega
  have hlt : i * sz + j < arr.size := Nat.lt_of_lt_of_le (mul_lt_of hi hj') h2
  have hv : arr[i * sz + j]? = some (arr.getD (i * sz + j) undef) := by rw [Array.getD_eq_getD_getElem?, Array.getElem?_eq_getElem hlt]; rfl
  exact ⟨by unfold World.cell?; simp only [h1]; exact hv, h5 i e j c _ he hj hv⟩

theorem loadV_ok {H : Heap} (hR : Rows w ρ M H) {t : TypeId} {a x : PV} {va : Value} (h : loadV P H t a = some x) (ha : Rep w ρ M a va) :
    ∃ v, (Instr.loadAt t va).run P w = .ok v w ∧ Rep w ρ M x v := by
  unfold loadV at h
  cases hn : szT P t with
  | none => simp [hn] at h
  | some n =>
    simp only [hn] at h
    cases a with
    | ptr k sz i j =>
      simp only at h
      cases hk : H.blk k with
      | none => simp [hk] at h
      | some B =>
        cases B with
        | row z els fz =>
          simp only [hk] at h
          split at h
          rotate_left
          · cases h
          rename_i hz
          subst hz
          cases he : els[i]? with
          | none => simp [he] at h
          | some e =>
            simp only [he] at h
            cases hc : cut e.cells j n with
            | none => simp [hc] at h
            | some l =>
              simp only [hc, Option.bind_some] at h
              obtain ⟨c1, c2, c3, c4⟩ := cut_some hc
              cases ha with
              | ptr k sz i j b hb =>
                obtain ⟨hsz, val, hval⟩ := elem_at hR hk hb he
                obtain ⟨v, hv, hrep⟩ := run_load_cells (P := P) hn (b := b) (off := i * z + j) h c3 (fun q => val (j + q)) (fun q hq => by
                  have : ∃ c, e.cells[j + q]? = some c := ⟨e.cells[j + q]'(by omega), by simp⟩
                  obtain ⟨c, hc⟩ := this
                  rw [Nat.add_assoc]
                  exact (hval (j + q) c hc).1) (fun q c hq => by
                  have hlt : q < n := by have := (List.getElem?_eq_some_iff.1 hq).1; omega
                  rw [c4 q hlt] at hq
                  exact (hval (j + q) c hq).2)
                exact ⟨v, by simp [Instr.loadAt, Instr.sureAddr, hv], hrep⟩
        | map d es => simp [hk] at h
        | iter s p => simp [hk] at h
        | loop => simp [hk] at h
    | pp cs off =>
      simp only at h
      cases hc : cut cs off n with
      | none => simp [hc] at h
      | some l =>
        simp only [hc, Option.bind_some] at h
        obtain ⟨c1, c2, c3, c4⟩ := cut_some hc
        cases ha with
        | pp cs off b o val hb hM h1 h2 =>
          obtain ⟨v, hv, hrep⟩ := run_load_cells (P := P) hn (b := b) (off := o + off) h c3 (fun j => val (off + j)) (fun j hj => by
            rw [Nat.add_assoc]
            exact h1 (off + j) (cs[off + j]'(by omega)) (by simp)) (fun j c hj => by
            have hlt : j < n := by have := (List.getElem?_eq_some_iff.1 hj).1; omega
            rw [c4 j hlt] at hj
            exact h2 (off + j) c hj)
          exact ⟨v, by simp [Instr.loadAt, Instr.sureAddr, hv], hrep⟩
    | _ => simp at h

/-- A field's place. -/
theorem fieldT_some {t : TypeId} {f off n : Nat} {u : TypeId} (h : fieldT P t f = some (off, n, u)) :
    ∃ fs g, P.underlying t = some (.struct fs) ∧ fs[f]? = some g ∧ szT P g.type = some n ∧ g.offset = off ∧ g.type = u := by
  unfold fieldT at h
  cases hu : P.underlying t with
  | none => simp [hu] at h
  | some d =>
    cases d with
    | struct fs =>
      simp only [hu] at h
      cases hf : fs[f]? with
      | none => simp [hf] at h
      | some g =>
        simp only [hf] at h
        cases hs : szT P g.type with
        | none => simp [hs] at h
        | some m =>
          simp only [hs, Option.map_some, Option.some.injEq, Prod.mk.injEq] at h
          obtain ⟨h1, h2, h3⟩ := h
          subst h2
          exact ⟨fs, g, rfl, hf, hs, h1, h3⟩
    | _ => simp [hu] at h

theorem fieldAddr_ok {t : TypeId} {f : Nat} {a x : PV} {va : Value}
    (h : (match fieldT P t f, a with
      | some (off, n, _), .ptr k s i j => if n = 0 then none else some (.ptr k s i (j + off))
      | some (off, n, _), .pp l o => if n = 0 then none else some (.pp l (o + off))
      | _, _ => none) = some x) (ha : Rep w ρ M a va) :
    ∃ v, (Instr.fieldAt t va f).run P w = .ok v w ∧ Rep w ρ M x v := by
  cases hf : fieldT P t f with
  | none => simp [hf] at h
  | some q =>
    obtain ⟨off, n, u⟩ := q
    obtain ⟨fs, g, h1, h2, h3, h4, h5⟩ := fieldT_some hf
    cases a with
    | ptr k s i j =>
      simp only [hf] at h
      split at h
      · cases h
      · rename_i hn
        simp only [Option.some.injEq] at h
        subst h
        cases ha with
        | ptr k s i j b hb =>
          refine ⟨.pointer (some ⟨b, i * s + j + off, none⟩), ?_, by rw [Nat.add_assoc]; exact .ptr k s i _ b hb⟩
          simp [Instr.fieldAt, run_underlying h1, h2, Instr.sureAddr, fieldPlace, run_sizeOf h3, hn, Addr.add_lit, h4]
    | pp l o =>
      simp only [hf] at h
      split at h
      · cases h
      · rename_i hn
        simp only [Option.some.injEq] at h
        subst h
        cases ha with
        | pp l o b q val hb hM g1 g2 =>
          refine ⟨.pointer (some ⟨b, q + o + off, none⟩), ?_, ?_⟩
          · simp [Instr.fieldAt, run_underlying h1, h2, Instr.sureAddr, fieldPlace, run_sizeOf h3, hn, Addr.add_lit, h4]
          · rw [Nat.add_assoc]; exact .pp l _ b q val hb hM g1 g2
    | _ => simp [hf] at h

theorem part_ok {u : TypeId} {n off : Nat} {l : List PV} {vs : Array Value} {x : PV} (hn : szT P u = some n) (h : (cut l off n).bind (asType P u) = some x) (hl : l.length = vs.size)
    (hr : ∀ (i : Nat) (c : PV) (v : Value), l[i]? = some c → vs[i]? = some v → Rep w ρ M c v) :
    ∃ v, (part u vs off).run P w = .ok v w ∧ Rep w ρ M x v := by
  cases hc : cut l off n with
  | none => simp [hc] at h
  | some m =>
    simp only [hc, Option.bind_some] at h
    obtain ⟨c1, c2, c3, c4⟩ := cut_some hc
    have hvs : ∀ i, i < n → ((vs.toList.drop off).take n)[i]? = vs[off + i]? := fun i hi => by
      rw [List.getElem?_take_of_lt hi, List.getElem?_drop, Array.getElem?_toList]
    have key := rep_asType (w := w) (ρ := ρ) (M := M) (vs := (vs.toList.drop off).take n) h (by simp; omega) (fun i c v hi hv => by
      have hlt : i < n := by have := (List.getElem?_eq_some_iff.1 hi).1; omega
      rw [c4 i hlt] at hi
      rw [hvs i hlt] at hv
      exact hr _ c v hi hv)
    rcases key with ⟨ha, hrep⟩ | ⟨ha, v, hv, hrep⟩
    · refine ⟨.agg (vs.extract off (off + n)), by simp [part, run_isAgg ha, run_sizeOf hn], ?_⟩
      have e : vs.extract off (off + n) = ((vs.toList.drop off).take n).toArray := by
        apply Array.ext'
        rw [Array.toList_extract, List.extract_eq_take_drop]
        simp
      rw [e]; exact hrep
    · have hn1 : n = 1 := by have := congrArg List.length hv; simp at this; omega
      subst hn1
      refine ⟨v, ?_, hrep⟩
      have h0 := hvs 0 (by omega)
      rw [hv] at h0
      simp only [List.getElem?_cons_zero, Nat.add_zero] at h0
      simp [part, run_isAgg ha, ← h0]

theorem field_ok {t : TypeId} {f : Nat} {a x : PV} {va : Value}
    (h : (match fieldT P t f, a with
      | some (off, n, u), .agg l => (cut l off n).bind (asType P u)
      | _, _ => none) = some x) (ha : Rep w ρ M a va) :
    ∃ v, (Instr.field t va f).run P w = .ok v w ∧ Rep w ρ M x v := by
  cases hf : fieldT P t f with
  | none => simp [hf] at h
  | some q =>
    obtain ⟨off, n, u⟩ := q
    obtain ⟨fs, g, h1, h2, h3, h4, h5⟩ := fieldT_some hf
    cases a with
    | agg l =>
      simp only [hf] at h
      cases ha with
      | agg l cs hl hr =>
        subst h4 h5
        obtain ⟨v, hv, hrep⟩ := part_ok h3 h hl hr
        exact ⟨v, by simp [Instr.field, run_underlying h1, h2, asAgg, hv], hrep⟩
    | _ => simp [hf] at h
end
end Go.Proofs.YtigfgicjjhepoaaGreatDoor.VA
set_option linter.unusedVariables false
set_option linter.unusedSimpArgs false
namespace Go.Proofs.YtigfgicjjhepoaaGreatDoor.VA
open Go Go.RowKit
section
variable {w : World} {ρ : Key → Option Nat} {M : Nat → Prop} {P : Program}

theorem Rep.int_inv {k : IntKind} {n : Int} {v : Value} (h : Rep w ρ M (.int k n) v) : v = .int k n := by cases h; rfl
theorem Rep.str_inv {s : ByteArray} {v : Value} (h : Rep w ρ M (.str s) v) : v = .string s := by cases h; rfl
theorem Rep.bool_inv {b : Bool} {v : Value} (h : Rep w ρ M (.bool b) v) : v = .bool b := by cases h; rfl

theorem pp_elem {l : List PV} {b o sz i : Nat} {v : PV} {val : Nat → Nat → Value} (hM : ¬ M b) (hv : l[i]? = some v) (hpos : 0 < v.cells.length)
    (h1 : ∀ (i : Nat) (v : PV) (j : Nat) (x : PV), l[i]? = some v → v.cells[j]? = some x → w.cell? ⟨b, o + i * sz + j, none⟩ = some (val i j))
    (h2 : ∀ (i : Nat) (v : PV) (j : Nat) (x : PV), l[i]? = some v → v.cells[j]? = some x → Rep w ρ M x (val i j)) :
    Rep w ρ M (.pp v.cells 0) (.pointer (some ⟨b, o + i * sz, none⟩)) := by
  have h := Rep.pp (w := w) (ρ := ρ) (M := M) v.cells 0 b (o + i * sz) (val i) (cell_lt (h1 i v 0 _ hv (List.getElem?_eq_getElem hpos))) hM (fun j x hj => h1 i v j x hv hj) (fun j x hj => h2 i v j x hv hj)
  simpa using h

theorem indexAddr_ok {t : TypeId} {a i x : PV} {va vi : Value}
    (h : (match P.underlying t, a, i with
      | some (.slice e), .sl _ l, .int _ i => if 0 ≤ i then match l[i.toNat]?, szT P e with
          | some v, some n => if v.cells.length = n ∧ 0 < n then some (.pp v.cells 0) else none
          | _, _ => none
        else none
      | some (.slice e), .ms k sz off len, .int _ i => match szT P e with
          | some n => if n = sz ∧ 0 ≤ i ∧ i < len ∧ 0 < n then some (.ptr k n (off + i.toNat) 0) else none
          | none => none
      | some (.array m e), .ptr k s q o, .int _ i => match szT P e with
          | some n => if 0 ≤ i ∧ i < m ∧ 0 < n then some (.ptr k s q (o + i.toNat * n)) else none
          | none => none
      | some (.array m e), .pp l o, .int _ i => match szT P e with
          | some n => if 0 ≤ i ∧ i < m ∧ 0 < n then some (.pp l (o + i.toNat * n)) else none
          | none => none
      | _, _, _ => none) = some x) (ha : Rep w ρ M a va) (hi : Rep w ρ M i vi) :
    ∃ v, (Instr.indexAt t va vi).run P w = .ok v w ∧ Rep w ρ M x v := by
  cases hu : P.underlying t with
  | none => simp [hu] at h
  | some d =>
    cases d with
    | slice e =>
      cases a with
      | sl f l =>
        cases i with
        | int ki i =>
          rw [hi.int_inv]
          simp only [hu] at h
          split at h
          · rename_i h0
            cases hv : l[i.toNat]? with
            | none => simp [hv] at h
            | some v =>
              cases hn : szT P e with
              | none => simp [hv, hn] at h
              | some n =>
                simp only [hv, hn] at h
                split at h
                · rename_i hcn
                  simp only [Option.some.injEq] at h
                  subst h
                  have hlt : i.toNat < l.length := (List.getElem?_eq_some_iff.1 hv).1
                  cases ha with
                  | sl0 f a c hf => simp at hlt
                  | sl f l b o c sz val hc hf hsz hpos hM h1 h2 =>
                    have hs : sz = n := by rw [← hsz v (List.mem_of_getElem? hv)]; exact hcn.1
                    subst hs
                    have hi' : i < (l.length : Int) := by omega
                    refine ⟨.pointer (some ⟨b, o + i.toNat * sz, none⟩), ?_, pp_elem hM hv (by omega) h1 h2⟩
                    simp [Instr.indexAt, run_underlying hu, asIntOf, h0, hi', run_sizeOf hn, Addr.add_lit]
                · cases h
          · cases h
        | _ => simp [hu] at h
      | ms k sz off len =>
        cases i with
        | int ki i =>
          rw [hi.int_inv]
          simp only [hu] at h
          cases hn : szT P e with
          | none => simp [hn] at h
          | some n =>
            simp only [hn] at h
            split at h
            · rename_i hc
              obtain ⟨rfl, h0, h1, hp⟩ := hc
              simp only [Option.some.injEq] at h
              subst h
              cases ha with
              | ms0 k sz off a => omega
              | ms k sz off len b c hk hc hr =>
                refine ⟨.pointer (some ⟨b, (off + i.toNat) * n + 0, none⟩), ?_, .ptr k n _ 0 b hk⟩
                simp [Instr.indexAt, run_underlying hu, asIntOf, h0, h1, run_sizeOf hn, Addr.add_lit, Nat.add_mul]
            · cases h
        | _ => simp [hu] at h
      | _ => simp [hu] at h
    | array m e =>
      cases a with
      | ptr k s q o =>
        cases i with
        | int ki i =>
          rw [hi.int_inv]
          simp only [hu] at h
          cases hn : szT P e with
          | none => simp [hn] at h
          | some n =>
            simp only [hn] at h
            split at h
            · rename_i hc
              obtain ⟨h0, h1, hp⟩ := hc
              simp only [Option.some.injEq] at h
              subst h
              cases ha with
              | ptr k s q o b hk =>
                refine ⟨.pointer (some ⟨b, q * s + o + i.toNat * n, none⟩), ?_, by rw [Nat.add_assoc]; exact .ptr k s q _ b hk⟩
                simp [Instr.indexAt, run_underlying hu, asIntOf, h0, h1, run_sizeOf hn, Addr.add_lit, Instr.sureAddr]
            · cases h
        | _ => simp [hu] at h
      | pp l o =>
        cases i with
        | int ki i =>
          rw [hi.int_inv]
          simp only [hu] at h
          cases hn : szT P e with
          | none => simp [hn] at h
          | some n =>
            simp only [hn] at h
            split at h
            · rename_i hc
              obtain ⟨h0, h1, hp⟩ := hc
              simp only [Option.some.injEq] at h
              subst h
              cases ha with
              | pp l o b q val hb hM g1 g2 =>
                refine ⟨.pointer (some ⟨b, q + o + i.toNat * n, none⟩), ?_, by rw [Nat.add_assoc]; exact .pp l _ b q val hb hM g1 g2⟩
                simp [Instr.indexAt, run_underlying hu, asIntOf, h0, h1, run_sizeOf hn, Addr.add_lit, Instr.sureAddr]
            · cases h
        | _ => simp [hu] at h
      | _ => simp [hu] at h
    | _ => simp [hu] at h

theorem index_ok {t : TypeId} {a i x : PV} {va vi : Value}
    (h : (match P.underlying t, a, i with
      | some .string, .str s, .int _ i => if h : 0 ≤ i ∧ i.toNat < s.size then some (.int .u8 (s[i.toNat]'h.2).toNat) else none
      | some (.array m e), .agg l, .int _ i => match szT P e with
          | some n => if 0 ≤ i ∧ i < m then (cut l (i.toNat * n) n).bind (asType P e) else none
          | none => none
      | _, _, _ => none) = some x) (ha : Rep w ρ M a va) (hi : Rep w ρ M i vi) :
    ∃ v, (Instr.index t va vi).run P w = .ok v w ∧ Rep w ρ M x v := by
  cases hu : P.underlying t with
  | none => simp [hu] at h
  | some d =>
    cases d with
    | string =>
      cases a with
      | str s =>
        cases i with
        | int ki i =>
          rw [hi.int_inv, ha.str_inv]
          simp only [hu] at h
          split at h
          · rename_i hc
            simp only [Option.some.injEq] at h
            subst h
            refine ⟨.int .u8 (s[i.toNat]'hc.2).toNat, ?_, .int _ _⟩
            simp [Instr.index, run_underlying hu, asIntOf, hc.1, hc.2]
          · cases h
        | _ => simp [hu] at h
      | _ => simp [hu] at h
    | array m e =>
      cases a with
      | agg l =>
        cases i with
        | int ki i =>
          rw [hi.int_inv]
          simp only [hu] at h
          cases hn : szT P e with
          | none => simp [hn] at h
          | some n =>
            simp only [hn] at h
            split at h
            · rename_i hc
              cases ha with
              | agg l cs hl hr =>
                obtain ⟨v, hv, hrep⟩ := part_ok hn h hl hr
                exact ⟨v, by simp [Instr.index, run_underlying hu, asIntOf, hc.1, hc.2, run_sizeOf hn, hv], hrep⟩
            · cases h
        | _ => simp [hu] at h
      | _ => simp [hu] at h
    | _ => simp [hu] at h

theorem run_bounds {isS : Bool} {len cap : Nat} {lo hi : Option Value} {l h : Int} (hlo : (lo = none ∧ l = 0) ∨ ∃ k, lo = some (.int k l)) (hhi : (hi = none ∧ h = len) ∨ ∃ k, hi = some (.int k h))
    (h0 : 0 ≤ l) (h1 : l ≤ h) (h2 : h ≤ cap) : (Instr.sliceBounds isS len cap lo hi none).run P w = .ok (l.toNat, h.toNat, cap) w := by
  have e : (h.toNat : Int) = h := by omega
  have hh : 0 ≤ h := by omega
  rcases hlo with ⟨rfl, rfl⟩ | ⟨k, rfl⟩ <;> rcases hhi with ⟨rfl, rfl⟩ | ⟨k', rfl⟩ <;> simp_all [Instr.sliceBounds, run_sliceBound]

theorem run_bounds3 {isS : Bool} {len cap : Nat} {lo : Option Value} {l h m : Int} {kh km : IntKind} (hlo : (lo = none ∧ l = 0) ∨ ∃ k, lo = some (.int k l))
    (h0 : 0 ≤ l) (h1 : l ≤ h) (h2 : h ≤ m) (h3 : m ≤ cap) : (Instr.sliceBounds isS len cap lo (some (.int kh h)) (some (.int km m))).run P w = .ok (l.toNat, h.toNat, m.toNat) w := by
  have e : (h.toNat : Int) = h := by omega
  have e2 : (m.toNat : Int) = m := by omega
  rcases hlo with ⟨rfl, rfl⟩ | ⟨k, rfl⟩ <;> simp [Instr.sliceBounds, run_sliceBound, h0, h1, h2, h3, e, e2, (by omega : 0 ≤ h), (by omega : 0 ≤ m)]

/-- A bound as the evaluator and the machine have it. -/
theorem bound_inv {lo : Option PV} {vlo : Option Value} {d : Int} {k : IntKind} {l : Int} (hr : ∀ x, lo = some x → ∃ v, vlo = some v ∧ Rep w ρ M x v) (hn : lo = none → vlo = none)
    (h : lo.getD (.int .i64 d) = .int k l) : (vlo = none ∧ l = d) ∨ ∃ k, vlo = some (.int k l) := by
  cases lo with
  | none => simp only [Option.getD_none, PV.int.injEq] at h; exact .inl ⟨hn rfl, h.2.symm⟩
  | some x =>
    simp only [Option.getD_some] at h
    subst h
    obtain ⟨v, h1, h2⟩ := hr _ rfl
    exact .inr ⟨k, by rw [h1, h2.int_inv]⟩

/-- A cut of what can only be read. -/
theorem rep_cut {f' : Bool} {l : List PV} {b o sz : Nat} {val : Nat → Nat → Value} {i n c' : Nat} (hc : n ≤ c') (hf : f' = true → c' = n) (hsz : ∀ v ∈ l, v.cells.length = sz) (hpos : 0 < sz) (hM : ¬ M b)
    (h1 : ∀ (i : Nat) (v : PV) (j : Nat) (x : PV), l[i]? = some v → v.cells[j]? = some x → w.cell? ⟨b, o + i * sz + j, none⟩ = some (val i j))
    (h2 : ∀ (i : Nat) (v : PV) (j : Nat) (x : PV), l[i]? = some v → v.cells[j]? = some x → Rep w ρ M x (val i j)) (hn : i + n ≤ l.length) :
    Rep w ρ M (.sl f' ((l.drop i).take n)) (.slice (some ⟨b, o + i * sz, none⟩) n c') := by
  have hlen : ((l.drop i).take n).length = n := by simp; omega
  have hget : ∀ j v, ((l.drop i).take n)[j]? = some v → l[i + j]? = some v := fun j v hv => by
    have hlt : j < n := by have := (List.getElem?_eq_some_iff.1 hv).1; omega
    rw [List.getElem?_take_of_lt hlt, List.getElem?_drop] at hv
    exact hv
  have h := Rep.sl (w := w) (ρ := ρ) (M := M) f' ((l.drop i).take n) b (o + i * sz) c' sz (fun a j => val (i + a) j) (by omega) (fun h => by rw [hlen]; exact hf h)
    (fun v hv => hsz v (List.mem_of_mem_drop (List.mem_of_mem_take hv))) hpos hM
    (fun a v j x hv hx => by
      have := h1 (i + a) v j x (hget a v hv) hx
      rw [Nat.add_mul] at this
      rw [← this]; congr 2; omega)
    (fun a v j x hv hx => h2 (i + a) v j x (hget a v hv) hx)
  rwa [hlen] at h

theorem elem_inv {t : TypeId} {n : Nat} (h : (elemT P t).bind (szT P) = some n) : ∃ e, P.underlying t = some (.slice e) ∧ szT P e = some n := by
  unfold elemT at h
  cases hu : P.underlying t with
  | none => simp [hu] at h
  | some d => cases d <;> simp [hu] at h; exact ⟨_, rfl, h⟩

theorem allSz_mem {n : Nat} : ∀ {l : List PV}, allSz n l = true → ∀ v ∈ l, v.cells.length = n
  | [], _, v, hv => by simp at hv
  | a :: l, h, v, hv => by
    simp only [allSz, Bool.and_eq_true, beq_iff_eq] at h
    rcases List.mem_cons.1 hv with rfl | hv
    · exact h.1
    · exact allSz_mem h.2 v hv

theorem slice_ok {t : TypeId} {a x : PV} {va : Value} {lo hi mx : Option PV} {vlo vhi vmx : Option Value}
    (h : (match P.underlying t with
      | some .string | some (.slice _) => sliceV P t a lo hi mx
      | _ => none) = some x) (ha : Rep w ρ M a va)
    (hlo : ∀ x, lo = some x → ∃ v, vlo = some v ∧ Rep w ρ M x v) (hlo0 : lo = none → vlo = none)
    (hhi : ∀ x, hi = some x → ∃ v, vhi = some v ∧ Rep w ρ M x v) (hhi0 : hi = none → vhi = none)
    (hmx : ∀ x, mx = some x → ∃ v, vmx = some v ∧ Rep w ρ M x v) (hmx0 : mx = none → vmx = none) :
    ∃ v, (Instr.sliceAt t va vlo vhi vmx).run P w = .ok v w ∧ Rep w ρ M x v := by
  have h' : sliceV P t a lo hi mx = some x := by
    split at h <;> first | exact h | cases h
  unfold sliceV at h'
  cases a with
  | str s =>
    rw [ha.str_inv]
    simp only at h'
    split at h'
    rotate_left
    · cases h'
    rename_i hts
    have hu : P.underlying t = some .string := by
      unfold isStrT at hts
      split at hts
      · assumption
      · cases hts
    split at h'
    · rename_i k1 l k2 hh e1 e2
      split at h'
      · rename_i hc
        obtain ⟨c0, c1, c2⟩ := hc
        simp only [Option.some.injEq] at h'
        subst h'
        have b1 := bound_inv hlo hlo0 e1
        have b2 := bound_inv hhi hhi0 e2
        have hm := hmx0 rfl
        subst hm
        refine ⟨.string (s.extract l.toNat hh.toNat), ?_, .str _⟩
        simp [Instr.sliceAt, run_underlying hu, Instr.slice, run_bounds b1 b2 c0 c1 c2]
      · cases h'
    · cases h'
  | sl f xs =>
    simp only at h'
    split at h'
    · cases h'
    rename_i n e3
    obtain ⟨e, hu, hn⟩ : ∃ e, P.underlying t = some (.slice e) ∧ szT P e = some n := elem_inv e3
    split at h'
    rotate_left
    · cases h'
    rename_i hcnd
    obtain ⟨hpos, hall⟩ := hcnd
    have hsz := allSz_mem hall
    split at h'
    · rename_i k1 l k2 hh e1 e2
      split at h'
      · rename_i hc
        obtain ⟨c0, c1, c2⟩ := hc
        simp only [Option.some.injEq] at h'
        subst h'
        have b1 := bound_inv hlo hlo0 e1
        have b2 := bound_inv hhi hhi0 e2
        have hm := hmx0 rfl
        subst hm
        cases ha with
        | sl0 f a c hf =>
          simp only [List.length_nil] at c2 b2 ⊢
          have : hh = 0 ∧ l = 0 := by constructor <;> omega
          obtain ⟨rfl, rfl⟩ := this
          refine ⟨.slice (if c = 0 then a else a.map (·.add (0 * n))) 0 c, ?_, ?_⟩
          · have := run_bounds (P := P) (w := w) (isS := true) (len := 0) (cap := c) b1 b2 (by omega) (by omega) (by omega)
            simp [Instr.sliceAt, run_underlying hu, Instr.slice, this, run_sizeOf hn]
          · simp only [List.drop_nil, List.take_nil]
            exact .sl0 _ _ _ (fun h => by simp at h; exact hf h)
        | sl f l' b o c sz val hc hf hsz' hpos' hM h1 h2 =>
          refine ⟨.slice (if c = l.toNat then some ⟨b, o, none⟩ else some ⟨b, o + l.toNat * n, none⟩) (hh.toNat - l.toNat) (c - l.toNat), ?_, ?_⟩
          · have := run_bounds (P := P) (w := w) (isS := true) (len := xs.length) (cap := c) b1 b2 c0 c1 (by omega)
            simp only [Instr.sliceAt, run_underlying hu, Instr.slice, this, run_sizeOf hn, Sem.run_bind, Result.andThen_ok, Sem.run_pure]
            congr 2
            split <;> simp [Addr.add_lit]
          · by_cases hz : hh.toNat - l.toNat = 0
            · rw [hz]
              simp only [List.take_zero]
              exact .sl0 _ _ _ (fun h => by simp at h; have := hf h.1; omega)
            · rw [if_neg (by omega)]
              have hsn : sz = n := by
                cases hxs : xs with
                | nil => rw [hxs] at c2; simp at c2; omega
                | cons v _ => rw [← hsz' v (by rw [hxs]; simp), hsz v (by rw [hxs]; simp)]
              subst hsn
              exact rep_cut (by omega) (fun h => by simp at h; have := hf h.1; omega) hsz' hpos' hM h1 h2 (by omega)
      · cases h'
    · rename_i k1 l k2 hh k3 m e1 e2
      split at h'
      · rename_i hc
        obtain ⟨cs, c0, c1, c2, c3⟩ := hc
        simp only [Option.some.injEq] at h'
        subst h'
        have b1 := bound_inv hlo hlo0 e1
        obtain ⟨y, hy⟩ := Option.isSome_iff_exists.1 cs
        subst hy
        simp only [Option.getD_some] at e2
        subst e2
        obtain ⟨vh, g1, g2⟩ := hhi _ rfl
        obtain ⟨vm, g3, g4⟩ := hmx _ rfl
        rw [g2.int_inv] at g1
        rw [g4.int_inv] at g3
        subst g1 g3
        cases ha with
        | sl0 f a c hf =>
          simp only [List.length_nil] at c3 ⊢
          have : hh = 0 ∧ l = 0 ∧ m = 0 := by refine ⟨?_, ?_, ?_⟩ <;> omega
          obtain ⟨rfl, rfl, rfl⟩ := this
          refine ⟨.slice (if (0 : Nat) = 0 then a else a.map (·.add (0 * n))) 0 0, ?_, ?_⟩
          · have := run_bounds3 (P := P) (w := w) (isS := true) (len := 0) (cap := c) (kh := k2) (km := k3) b1 (by omega) (by omega : (0 : Int) ≤ 0) (by omega : (0 : Int) ≤ 0) (by omega)
            simp [Instr.sliceAt, run_underlying hu, Instr.slice, this, run_sizeOf hn]
          · simp only [List.drop_nil, List.take_nil]
            exact .sl0 _ _ _ (fun _ => rfl)
        | sl f l' b o c sz val hc hf hsz' hpos' hM h1 h2 =>
          refine ⟨.slice (if m.toNat = l.toNat then some ⟨b, o, none⟩ else some ⟨b, o + l.toNat * n, none⟩) (hh.toNat - l.toNat) (m.toNat - l.toNat), ?_, ?_⟩
          · have := run_bounds3 (P := P) (w := w) (isS := true) (len := xs.length) (cap := c) (kh := k2) (km := k3) b1 c0 c1 c2 (by omega)
            simp only [Instr.sliceAt, run_underlying hu, Instr.slice, this, run_sizeOf hn, Sem.run_bind, Result.andThen_ok, Sem.run_pure]
            congr 2
            split <;> simp [Addr.add_lit]
          · by_cases hz : hh.toNat - l.toNat = 0
            · rw [hz]
              simp only [List.take_zero]
              exact .sl0 _ _ _ (fun h => by simp at h; omega)
            · rw [if_neg (by omega)]
              have hsn : sz = n := by
                cases hxs : xs with
                | nil => rw [hxs] at c3; simp at c3; omega
                | cons v _ => rw [← hsz' v (by rw [hxs]; simp), hsz v (by rw [hxs]; simp)]
              subst hsn
              exact rep_cut (by omega) (fun h => by simp at h; omega) hsz' hpos' hM h1 h2 (by omega)
      · cases h'
    · cases h'
  | ms k sz off len =>
    simp only at h'
    split at h'
    · rename_i k1 l k2 hh n e1 e2 e3
      split at h'
      · rename_i hc
        obtain ⟨rfl, c0, c1, c2⟩ := hc
        simp only [Option.some.injEq] at h'
        subst h'
        have b1 := bound_inv hlo hlo0 e1
        have b2 := bound_inv hhi hhi0 e2
        have hm := hmx0 rfl
        subst hm
        obtain ⟨e, hu, hn⟩ : ∃ e, P.underlying t = some (.slice e) ∧ szT P e = some n := elem_inv e3
        cases ha with
        | ms0 k sz off a =>
          have : hh = 0 ∧ l = 0 := by constructor <;> omega
          obtain ⟨rfl, rfl⟩ := this
          refine ⟨.slice (if (0 : Nat) = 0 then a else a.map (·.add (0 * n))) 0 0, ?_, ?_⟩
          · have := run_bounds (P := P) (w := w) (isS := true) (len := 0) (cap := 0) b1 b2 (by omega) (by omega) (by omega)
            simp [Instr.sliceAt, run_underlying hu, Instr.slice, this, run_sizeOf hn]
          · exact .ms0 _ _ _ _
        | ms k sz off len b c hk hc hr =>
          refine ⟨.slice (if c = l.toNat then some ⟨b, off * n, none⟩ else some ⟨b, (off + l.toNat) * n, none⟩) (hh.toNat - l.toNat) (c - l.toNat), ?_, ?_⟩
          · have := run_bounds (P := P) (w := w) (isS := true) (len := len) (cap := c) b1 b2 c0 c1 (by omega)
            simp only [Instr.sliceAt, run_underlying hu, Instr.slice, this, run_sizeOf hn, Sem.run_bind, Result.andThen_ok, Sem.run_pure]
            congr 2
            split <;> simp [Addr.add_lit, Nat.add_mul]
          · by_cases hz : c = l.toNat
            · have : hh.toNat - l.toNat = 0 := by omega
              rw [this, show c - l.toNat = 0 by omega]
              exact .ms0 _ _ _ _
            · rw [if_neg hz]
              refine .ms k n _ _ b _ hk (by omega) ?_
              obtain ⟨arr, e, r1, r2⟩ := hr
              refine ⟨arr, e, r1, ?_⟩
              have : off + l.toNat + (c - l.toNat) = off + c := by omega
              rw [this]; exact r2
      · cases h'
    · cases h'
  | _ => simp at h'
end
end Go.Proofs.YtigfgicjjhepoaaGreatDoor.VA
set_option linter.unusedVariables false
set_option linter.unusedSimpArgs false
namespace Go.Proofs.YtigfgicjjhepoaaGreatDoor.VA
open Go Go.RowKit
section
variable {w : World} {ρ : Key → Option Nat} {M : Nat → Prop} {P : Program} {pol : Pol}

theorem toList_inj {s u : ByteArray} (h : s.toList = u.toList) : s = u := by
  rw [ByteArray.toList_eq, ByteArray.toList_eq] at h
  cases s; cases u
  simp only at h
  rw [Array.ext' h]

theorem binV_ok {op : BinOp} {t : TypeId} {ox oy : Operand} {a b x : PV} {va vb : Value} (h : binV pol op t a b = some x) (ha : Rep w ρ M a va) (hb : Rep w ρ M b vb) :
    ∃ v, (do eqGuard op t ox oy va vb; binOp op t va vb : Sem Value).run P w = .ok v w ∧ Rep w ρ M x v := by
  unfold binV at h
  split at h
  · rename_i k n k' m
    rw [ha.int_inv, hb.int_inv]
    split at h
    · cases h
    · rename_i hm
      simp only [Option.some.injEq] at h
      subst h
      exact ⟨_, by simp [eqGuard_at_int, binOp_shl, Op.shift, hm], .int _ _⟩
  · rename_i k n k' m
    rw [ha.int_inv, hb.int_inv]
    split at h
    · cases h
    · rename_i hm
      simp only [Option.some.injEq] at h
      subst h
      exact ⟨_, by simp [eqGuard_at_int, binOp_shr, Op.shift, hm], .int _ _⟩
  · rename_i k n k' m h1 h2
    rw [ha.int_inv, hb.int_inv]
    split at h
    · cases h
    · rename_i hk
      have hk : k = k' := by simpa using hk
      subst hk
      cases op with
      | add => simp only [Option.some.injEq] at h; subst h; exact ⟨_, by simp [eqGuard_at_int, binOp_add, Op.intArith], .int _ _⟩
      | sub => simp only [Option.some.injEq] at h; subst h; exact ⟨_, by simp [eqGuard_at_int, binOp_sub, Op.intArith], .int _ _⟩
      | mul => simp only [Option.some.injEq] at h; subst h; exact ⟨_, by simp [eqGuard_at_int, binOp_mul, Op.intArith], .int _ _⟩
      | quo =>
        simp only at h
        split at h
        · cases h
        · rename_i hz
          simp only [Option.some.injEq] at h; subst h; exact ⟨_, by simp [eqGuard_at_int, binOp_quo, Op.intDiv, hz], .int _ _⟩
      | rem =>
        simp only at h
        split at h
        · cases h
        · rename_i hz
          simp only [Option.some.injEq] at h; subst h; exact ⟨_, by simp [eqGuard_at_int, binOp_rem, Op.intDiv, hz], .int _ _⟩
      | and => simp only [Option.some.injEq] at h; subst h; exact ⟨_, by simp [eqGuard_at_int, binOp_and, Op.intBits], .int _ _⟩
      | or => simp only [Option.some.injEq] at h; subst h; exact ⟨_, by simp [eqGuard_at_int, binOp_or, Op.intBits], .int _ _⟩
      | xor => simp only [Option.some.injEq] at h; subst h; exact ⟨_, by simp [eqGuard_at_int, binOp_xor, Op.intBits], .int _ _⟩
      | andNot => simp only [Option.some.injEq] at h; subst h; exact ⟨_, by simp [eqGuard_at_int, binOp_andNot, Op.intBits], .int _ _⟩
      | eql => simp only [Option.some.injEq] at h; subst h; exact ⟨.bool (n == m), by simp [eqGuard_at_int, binOp_eql], by rw [show (n == m) = decide (n = m) from by rw [Bool.eq_iff_iff]; simp]; exact .bool _⟩
      | neq => simp only [Option.some.injEq] at h; subst h; exact ⟨.bool (n != m), by simp [eqGuard_at_int, binOp_neq], by rw [show (n != m) = !decide (n = m) from by rw [Bool.eq_iff_iff]; simp]; exact .bool _⟩
      | lss => simp only [Option.some.injEq] at h; subst h; exact ⟨.bool (decide (n < m)), by simp [eqGuard_at_int, binOp_lss], .bool _⟩
      | leq => simp only [Option.some.injEq] at h; subst h; exact ⟨.bool (decide (n ≤ m)), by simp [eqGuard_at_int, binOp_leq], .bool _⟩
      | gtr => simp only [Option.some.injEq] at h; subst h; exact ⟨.bool (decide (n > m)), by simp [eqGuard_at_int, binOp_gtr], .bool _⟩
      | geq => simp only [Option.some.injEq] at h; subst h; exact ⟨.bool (decide (n ≥ m)), by simp [eqGuard_at_int, binOp_geq], .bool _⟩
      | shl => simp at h
      | shr => simp at h
  · rename_i s u
    rw [ha.str_inv, hb.str_inv]
    split at h
    · rename_i hc
      simp only [Option.some.injEq] at h; subst h
      refine ⟨.string (s ++ u), ?_, .str _⟩
      have hc' : ¬ ((s.size + u.size : Nat) : Int) > IntKind.i64.max := by rw [IntKind.max_i64]; omega
      simp only [eqGuard_at_string, binOp, Op.stringOp, Sem.run_bind, Sem.run_pure, Result.andThen_ok, if_neg hc']
    · cases h
  · rename_i s u
    rw [ha.str_inv, hb.str_inv]
    simp only [Option.some.injEq] at h; subst h
    refine ⟨.bool (s.toList == u.toList), by simp [eqGuard_at_string, binOp, Op.stringOp], ?_⟩
    rw [show (s.toList == u.toList) = decide (s = u) from by
      rw [Bool.eq_iff_iff]; simp only [beq_iff_eq, decide_eq_true_eq]
      exact ⟨fun h => toList_inj h, fun h => by rw [h]⟩]
    exact .bool _
  · rename_i s u
    rw [ha.str_inv, hb.str_inv]
    simp only [Option.some.injEq] at h; subst h
    refine ⟨.bool (!(s.toList == u.toList)), by simp [eqGuard_at_string, binOp, Op.stringOp], ?_⟩
    rw [show (s.toList == u.toList) = decide (s = u) from by
      rw [Bool.eq_iff_iff]; simp only [beq_iff_eq, decide_eq_true_eq]
      exact ⟨fun h => toList_inj h, fun h => by rw [h]⟩]
    exact .bool _
  · cases h

theorem unV_ok {op : UnOp} {a x : PV} {va : Value} (h : unV op a = some x) (ha : Rep w ρ M a va) : ∃ v, (Op.unary op va).run P w = .ok v w ∧ Rep w ρ M x v := by
  unfold unV at h
  split at h
  · rw [ha.bool_inv]; simp only [Option.some.injEq] at h; subst h
    exact ⟨_, by simp [Op.unary], .bool _⟩
  · rw [ha.int_inv]; simp only [Option.some.injEq] at h; subst h
    exact ⟨_, by simp [Op.unary, Op.intArith], .int _ _⟩
  · cases h

theorem eqS_iff {a b : PV} {va vb : Value} (sa : scal a = true) (sb : scal b = true) (ha : Rep w ρ M a va) (hb : Rep w ρ M b vb) : eqS a b = true ↔ va = vb := by
  cases a <;> simp [scal] at sa <;> cases b <;> simp [scal] at sb <;> cases ha <;> cases hb <;> simp [eqS]

theorem eqL_iff : ∀ {l m : List PV} {xs ys : List Value}, l.all scal = true → m.all scal = true → l.length = xs.length → m.length = ys.length →
    (∀ (i : Nat) (c : PV) (v : Value), l[i]? = some c → xs[i]? = some v → Rep w ρ M c v) → (∀ (i : Nat) (c : PV) (v : Value), m[i]? = some c → ys[i]? = some v → Rep w ρ M c v) →
    (eqL l m = true ↔ xs = ys)
  | [], [], [], [], _, _, _, _, _, _ => by simp [eqL]
  | [], b :: m, [], y :: ys, _, _, _, _, _, _ => by simp [eqL]
  | a :: l, [], x :: xs, [], _, _, _, _, _, _ => by simp [eqL]
  | a :: l, b :: m, x :: xs, y :: ys, h1, h2, h3, h4, h5, h6 => by
    simp only [List.all_cons, Bool.and_eq_true] at h1 h2
    have ih := eqL_iff (l := l) (m := m) (xs := xs) (ys := ys) h1.2 h2.2 (by simpa using h3) (by simpa using h4) (fun i c v hc hv => h5 (i + 1) c v (by simpa using hc) (by simpa using hv)) (fun i c v hc hv => h6 (i + 1) c v (by simpa using hc) (by simpa using hv))
    have h0 := eqS_iff h1.1 h2.1 (h5 0 a x rfl rfl) (h6 0 b y rfl rfl)
    simp only [eqL, Bool.and_eq_true, h0, ih, List.cons.injEq]
  | [], _, _ :: _, _, _, _, h, _, _, _ => by simp at h
  | _ :: _, _, [], _, _, _, h, _, _, _ => by simp at h
  | _, [], _, _ :: _, _, _, _, h, _, _ => by simp at h
  | _, _ :: _, _, [], _, _, _, h, _, _ => by simp at h

theorem scal_val {a : PV} {v : Value} (h : scal a = true) (ha : Rep w ρ M a v) : (∃ k n, v = .int k n) ∨ (∃ s, v = .string s) ∨ ∃ b, v = .bool b := by
  cases a <;> simp [scal] at h <;> cases ha
  · exact .inr (.inr ⟨_, rfl⟩)
  · exact .inl ⟨_, _, rfl⟩
  · exact .inr (.inl ⟨_, rfl⟩)

theorem run_equalIn_bools {t : TypeId} {a b : Bool} (d : Nat) (hu : P.underlying t = some .bool) : (Op.equalIn (d + 1) t (.bool a) (.bool b)).run P w = .ok (a == b) w := by
  simp [Op.equalIn, run_underlying hu]

theorem bool_eq_ok {op : BinOp} {t : TypeId} {ox oy : Operand} {a b : Bool} {x : PV} (h : (match P.underlying t, op with
      | some .bool, .eql => some (.bool (a == b))
      | some .bool, .neq => some (.bool (a != b))
      | _, _ => none) = some x) :
    ∃ v, (do eqGuard op t ox oy (.bool a) (.bool b); binOp op t (.bool a) (.bool b) : Sem Value).run P w = .ok v w ∧ Rep w ρ M x v := by
  split at h
  · rename_i hu
    simp only [Option.some.injEq] at h; subst h
    refine ⟨.bool (a == b), ?_, .bool _⟩
    have : (Op.equal t (.bool a) (.bool b)).run P w = .ok (a == b) w := run_equalIn_bools 9999 hu
    simp [eqGuard_at_bool, binOp, this]
  · rename_i hu
    simp only [Option.some.injEq] at h; subst h
    refine ⟨.bool (a != b), ?_, .bool _⟩
    have : (Op.equal t (.bool a) (.bool b)).run P w = .ok (a == b) w := run_equalIn_bools 9999 hu
    simp [eqGuard_at_bool, binOp, this, bne]
  · cases h

theorem agg_eq_ok (hP : POk P pol) {op : BinOp} {t : TypeId} {ox oy : Operand} {a b : List PV} {x : PV} {va vb : Value}
    (h : (if pol.eqt t = true ∧ a.all scal = true ∧ b.all scal = true ∧ a.length = b.length then match op with
        | .eql => some (.bool (eqL a b))
        | .neq => some (.bool (!eqL a b))
        | _ => none
      else none) = some x) (ha : Rep w ρ M (.agg a) va) (hb : Rep w ρ M (.agg b) vb) :
    ∃ v, (do eqGuard op t ox oy va vb; binOp op t va vb : Sem Value).run P w = .ok v w ∧ Rep w ρ M x v := by
  split at h
  rotate_left
  · cases h
  rename_i hc
  obtain ⟨c1, c2, c3, c4⟩ := hc
  cases ha with
  | agg l cs hl hr =>
    cases hb with
    | agg m ds hm hs =>
      have hsc : ∀ v ∈ cs.toList ++ ds.toList, (∃ k n, v = .int k n) ∨ (∃ s, v = .string s) ∨ ∃ b, v = .bool b := by
        intro v hv
        rcases List.mem_append.1 hv with hv | hv
        · obtain ⟨i, hi, rfl⟩ := List.getElem_of_mem hv
          have hi' : i < a.length := by simp at hi; omega
          exact scal_val (List.all_eq_true.1 c2 _ (List.getElem_mem hi')) (hr i a[i] _ (List.getElem?_eq_getElem hi') (by simp at hi; simp [hi]))
        · obtain ⟨i, hi, rfl⟩ := List.getElem_of_mem hv
          have hi' : i < b.length := by simp at hi; omega
          exact scal_val (List.all_eq_true.1 c3 _ (List.getElem_mem hi')) (hs i b[i] _ (List.getElem?_eq_getElem hi') (by simp at hi; simp [hi]))
      obtain ⟨r, hr1, hr2⟩ := hP.eqt t c1 cs ds w hsc (by omega)
      have heq : eqL a b = true ↔ cs.toList = ds.toList := eqL_iff c2 c3 (by simpa using hl) (by simpa using hm) (fun i c v hc hv => hr i c v hc (by simpa using hv)) (fun i c v hc hv => hs i c v hc (by simpa using hv))
      have hre : r = eqL a b := by
        rw [Bool.eq_iff_iff, hr2, heq]
        exact ⟨fun h => by rw [h], fun h => Array.ext' h⟩
      subst hre
      have hg : ∀ op', (eqGuard op' t ox oy (.agg cs) (.agg ds)).run P w = .ok () w := by
        intro op'
        unfold eqGuard
        cases op' <;> simp [hP.eqg t c1]
      cases op with
      | eql => simp only [Option.some.injEq] at h; subst h; exact ⟨_, by simp [hg, binOp, hr1], .bool _⟩
      | neq => simp only [Option.some.injEq] at h; subst h; exact ⟨_, by simp [hg, binOp, hr1], .bool _⟩
      | _ => simp at h
end
end Go.Proofs.YtigfgicjjhepoaaGreatDoor.VA
set_option linter.unusedVariables false
set_option linter.unusedSimpArgs false
namespace Go.Proofs.YtigfgicjjhepoaaGreatDoor.VA
open Go Go.RowKit
section
variable {w : World} {ρ : Key → Option Nat} {M : Nat → Prop} {P : Program} {pol : Pol}

/-- Values side by side. -/
def Reps (w : World) (ρ : Key → Option Nat) (M : Nat → Prop) (l : List PV) (vs : List Value) : Prop :=
  l.length = vs.length ∧ ∀ (i : Nat) (c : PV) (v : Value), l[i]? = some c → vs[i]? = some v → Rep w ρ M c v

theorem Reps.nil : Reps w ρ M [] [] := ⟨rfl, fun i c v h _ => by simp at h⟩
theorem Reps.cons {c : PV} {v : Value} {l : List PV} {vs : List Value} (h : Rep w ρ M c v) (g : Reps w ρ M l vs) : Reps w ρ M (c :: l) (v :: vs) := by
  refine ⟨by simp [g.1], fun i x u hx hu => ?_⟩
  rcases i with _ | i
  · simp only [List.getElem?_cons_zero, Option.some.injEq] at hx hu; subst hx hu; exact h
  · exact g.2 i x u (by simpa using hx) (by simpa using hu)
theorem Reps.head {c : PV} {v : Value} {l : List PV} {vs : List Value} (h : Reps w ρ M (c :: l) (v :: vs)) : Rep w ρ M c v := h.2 0 c v rfl rfl
theorem Reps.tail {c : PV} {v : Value} {l : List PV} {vs : List Value} (h : Reps w ρ M (c :: l) (v :: vs)) : Reps w ρ M l vs :=
  ⟨by simpa using h.1, fun i x u hx hu => h.2 (i + 1) x u (by simpa using hx) (by simpa using hu)⟩
theorem Reps.append {l m : List PV} {vs us : List Value} (h : Reps w ρ M l vs) (g : Reps w ρ M m us) : Reps w ρ M (l ++ m) (vs ++ us) := by
  refine ⟨by simp [h.1, g.1], fun i x u hx hu => ?_⟩
  by_cases hi : i < l.length
  · rw [List.getElem?_append_left hi] at hx
    rw [List.getElem?_append_left (by rw [← h.1]; exact hi)] at hu
    exact h.2 i x u hx hu
  · rw [List.getElem?_append_right (by omega)] at hx
    rw [List.getElem?_append_right (by rw [← h.1]; omega), ← h.1] at hu
    exact g.2 _ x u hx hu
theorem Reps.drop {l : List PV} {vs : List Value} (n : Nat) (h : Reps w ρ M l vs) : Reps w ρ M (l.drop n) (vs.drop n) :=
  ⟨by simp [h.1], fun i x u hx hu => h.2 (n + i) x u (by simpa using hx) (by simpa using hu)⟩
theorem Reps.take {l : List PV} {vs : List Value} (n : Nat) (h : Reps w ρ M l vs) : Reps w ρ M (l.take n) (vs.take n) := by
  refine ⟨by simp [h.1], fun i x u hx hu => ?_⟩
  have hlt : i < n := by have := (List.getElem?_eq_some_iff.1 hx).1; simp at this; omega
  rw [List.getElem?_take_of_lt hlt] at hx hu
  exact h.2 i x u hx hu
theorem Reps.map {α : Type} {f : α → PV} {g : α → Value} (h : ∀ x, Rep w ρ M (f x) (g x)) (l : List α) : Reps w ρ M (l.map f) (l.map g) := by
  refine ⟨by simp, fun i x u hx hu => ?_⟩
  simp only [List.getElem?_map, Option.map_eq_some_iff] at hx hu
  obtain ⟨a, ha, rfl⟩ := hx
  obtain ⟨b, hb, rfl⟩ := hu
  rw [ha] at hb; cases hb; exact h a
theorem Reps.evo {w' : World} {ρ' : Key → Option Nat} {M' : Nat → Prop} (E : Evo w ρ M w' ρ' M') {l : List PV} {vs : List Value} (h : Reps w ρ M l vs) : Reps w' ρ' M' l vs :=
  ⟨h.1, fun i c v hc hv => (h.2 i c v hc hv).evo E⟩
theorem junk_of {x : PV} {n : Nat} (h : x.cells.length = n) (hn : 0 < n) : x ≠ .junk := fun e => by subst e; simp [PV.cells] at h; omega
theorem reps_cells {x : PV} {v : Value} (h : Rep w ρ M x v) (hj : x ≠ .junk) : Reps w ρ M x.cells v.cells.toList := by
  obtain ⟨h1, h2⟩ := h.cells hj
  exact ⟨by simpa using h1, fun i c u hc hu => h2 i c u hc (by simpa using hu)⟩

theorem mapM_get {α β : Type} {f : α → Option β} : ∀ {l : List α} {r : List β}, l.mapM f = some r → ∀ i : Nat, r[i]? = (l[i]?).bind f
  | [], r, h, i => by simp at h; subst h; simp
  | a :: l, r, h, i => by
    simp only [List.mapM_cons, Option.bind_eq_bind, Option.pure_def] at h
    cases ha : f a with
    | none => simp [ha] at h
    | some b =>
      cases hl : l.mapM f with
      | none => simp [ha, hl] at h
      | some r' =>
        simp [ha, hl] at h
        subst h
        rcases i with _ | i
        · simp [ha]
        · simpa using mapM_get hl i

/-- The machine's cells of a struct with parts put in. -/
theorem fill_ok {t : TypeId} {fs : Array Field} {places : List (Nat × Nat)} (hu : P.underlying t = some (.struct fs)) (hpl : fs.toList.mapM (fun f => (P.info? f.type).map fun i => (f.offset, i.size)) = some places) :
    ∀ (parts : List (Nat × PV)) (vparts : List (Nat × Value)) (cs : List PV) (vs : Array Value) (out : List PV), parts.length = vparts.length →
      (∀ (i : Nat) (p : Nat × PV) (q : Nat × Value), parts[i]? = some p → vparts[i]? = some q → p.1 = q.1 ∧ Rep w ρ M p.2 q.2) →
      Reps w ρ M cs vs.toList → fillV P t cs parts = some out → ∃ r, Instr.fill (places.toArray[·]?) vs vparts = some r ∧ Reps w ρ M out r.toList
  | [], [], cs, vs, out, _, _, hr, h => by
    simp only [fillV, Option.some.injEq] at h; subst h
    exact ⟨vs, rfl, hr⟩
  | (i, x) :: parts, (j, v) :: vparts, cs, vs, out, hl, hp, hr, h => by
    obtain ⟨e, hx⟩ := hp 0 (i, x) (j, v) rfl rfl
    simp only at e hx
    subst e
    simp only [fillV] at h
    cases hf : fieldT P t i with
    | none => simp [hf] at h
    | some q =>
      obtain ⟨off, n, u⟩ := q
      simp only [hf] at h
      split at h
      · rename_i hc
        obtain ⟨fs', g, g1, g2, g3, g4, g5⟩ := fieldT_some hf
        rw [hu] at g1; cases g1
        have hpi : places[i]? = some (off, n) := by
          obtain ⟨it, hit, hsz⟩ := sizeT g3
          have : places[i]? = (fs.toList[i]?).bind fun f => (P.info? f.type).map fun i => (f.offset, i.size) := mapM_get hpl i
          rw [this]
          simp [g2, hit, hsz, g4]
        have hxj : x ≠ .junk := junk_of hc.1 hc.2.1
        have hxc := reps_cells hx hxj
        have hsz : v.cells.size = n := by rw [← hc.1, hxc.1]; simp
        have hvs : vs.size = cs.length := by rw [hr.1]; simp
        obtain ⟨f1, f2⟩ := Great.foldl_set off v.cells.toList 0 vs
        obtain ⟨r, hr1, hr2⟩ := fill_ok hu hpl parts vparts (cs.take off ++ x.cells ++ cs.drop (off + n)) ((v.cells.toList.zipIdx 0).foldl (fun cs (x : Value × Nat) => cs.setIfInBounds (off + x.2) x.1) vs) out (by simpa using hl)
          (fun k p q hp' hq' => hp (k + 1) p q (by simpa using hp') (by simpa using hq')) (by
            have he : ((v.cells.toList.zipIdx 0).foldl (fun cs (x : Value × Nat) => cs.setIfInBounds (off + x.2) x.1) vs).toList = vs.toList.take off ++ v.cells.toList ++ vs.toList.drop (off + n) := by
              apply List.ext_getElem?
              intro k
              rw [Array.getElem?_toList, f2 k]
              simp only [Nat.add_zero, Array.length_toList, hsz]
              by_cases h1 : k < off
              · rw [if_neg (by omega), List.append_assoc, List.getElem?_append_left (by simp; omega), List.getElem?_take_of_lt h1]; simp
              · by_cases h2 : k < off + n
                · rw [if_pos ⟨by omega, h2, by omega⟩, List.append_assoc, List.getElem?_append_right (by simp; omega), List.getElem?_append_left (by simp; omega)]
                  congr 1; simp; omega
                · rw [if_neg (by omega), List.getElem?_append_right (by simp; omega), List.getElem?_drop]
                  simp only [List.length_append, List.length_take, Array.length_toList]
                  rw [← Array.getElem?_toList]
                  congr 1; omega
            rw [he]
            exact ((hr.take off).append hxc).append (hr.drop (off + n))) h
        refine ⟨r, ?_, hr2⟩
        rw [← hr1]
        conv => lhs; unfold Instr.fill
        simp only [List.getElem?_toArray, hpi]
        rw [if_neg (by simp; omega)]
        congr 1
        rw [← Array.foldl_toList, Array.toList_zipIdx]
      · cases h
  | [], _ :: _, _, _, _, hl, _, _, _ => by simp at hl
  | _ :: _, [], _, _, _, hl, _, _, _ => by simp at hl
theorem rep_zero {t : TypeId} {z : List PV} (h : zeroT P t = some z) : ∃ i zv, P.info? t = some i ∧ i.zero = some zv ∧ Reps w ρ M z zv.cells.toList := by
  unfold zeroT at h
  split at h
  rotate_left
  · cases h
  cases hi : P.info? t with
  | none => simp [hi] at h
  | some i =>
    cases hz : i.zero with
    | none => simp [hi, hz] at h
    | some zv =>
      simp only [hi, hz, Option.bind_some, Option.map_some, Option.some.injEq] at h
      subst h
      refine ⟨i, zv, rfl, hz, by simp, fun k c v hc hv => ?_⟩
      simp only [List.getElem?_map, Option.map_eq_some_iff] at hc
      obtain ⟨u, hu, rfl⟩ := hc
      rw [hu] at hv; cases hv
      exact rep_ofVal 8 v

theorem build_ok (hP : POk P pol) {t : TypeId} {z out : List PV} {parts : List (Nat × PV)} {vparts : Array (Nat × Value)} (hs : isStructT P t = true) (hz : zeroT P t = some z) (h : fillV P t z parts = some out)
    (hl : parts.length = vparts.size) (hp : ∀ (i : Nat) (p : Nat × PV) (q : Nat × Value), parts[i]? = some p → vparts[i]? = some q → p.1 = q.1 ∧ Rep w ρ M p.2 q.2) :
    ∃ v, (Instr.build t vparts).run P w = .ok v w ∧ Rep w ρ M (.agg out) v := by
  unfold isStructT at hs
  split at hs
  · rename_i fs hu
    obtain ⟨places, hpl⟩ := Option.isSome_iff_exists.1 (hP.fields t fs (zero_okT hz) hu)
    obtain ⟨i, zv, hi, hzv, hrz⟩ := rep_zero (w := w) (ρ := ρ) (M := M) hz
    obtain ⟨r, hr1, hr2⟩ := fill_ok hu hpl parts vparts.toList z zv.cells out (by simpa using hl) (fun i p q h1 h2 => hp i p q h1 (by simpa using h2)) hrz h
    refine ⟨.agg r, run_build w t vparts r ?_, .agg _ _ (by simpa using hr2.1) (fun i c v hc hv => hr2.2 i c v hc (by simpa using hv))⟩
    unfold Program.built
    simp only [hi, hu, hzv, hpl, hr1]
  · cases hs
end
end Go.Proofs.YtigfgicjjhepoaaGreatDoor.VA
set_option linter.unusedVariables false
set_option linter.unusedSimpArgs false
namespace Go.Proofs.YtigfgicjjhepoaaGreatDoor.VA
open Go Go.RowKit
section
variable {w : World} {ρ ρ' : Key → Option Nat} {M M' : Nat → Prop} {P : Program} {pol : Pol}

theorem persL_get : ∀ {l : List PV}, PV.persL l = true → ∀ (i : Nat) (c : PV), l[i]? = some c → c.pers = true
  | [], _, i, c, hc => by simp at hc
  | v :: l, h, i, c, hc => by
    simp only [PV.persL, Bool.and_eq_true] at h
    rcases i with _ | i
    · simp only [List.getElem?_cons_zero, Option.some.injEq] at hc; subst hc; exact h.1
    · exact persL_get h.2 i c (by simpa using hc)
theorem pers_cells {x : PV} (h : x.pers = true) : ∀ (i : Nat) (c : PV), x.cells[i]? = some c → c.pers = true := by
  intro i c hc
  cases x with
  | agg l => exact persL_get (show PV.persL l = true by simpa [PV.pers] using h) i c hc
  | junk => simp [PV.cells] at hc
  | _ =>
    rcases i with _ | i
    · simp only [PV.cells, List.getElem?_cons_zero, Option.some.injEq] at hc; subst hc; exact h
    · simp [PV.cells] at hc

/-- A value without keys: no heap is asked. -/
theorem Rep.pers {x : PV} {v : Value} (h : Rep w ρ M x v) (hM : ∀ b, M' b → M b) : x.pers = true → Rep w ρ' M' x v := by
  induction h with
  | bool b => exact fun _ => .bool b
  | int k n => exact fun _ => .int k n
  | str s => exact fun _ => .str s
  | agg l cs hl h ih => exact fun hp => .agg l cs hl (fun i c v hc hv => ih i c v hc hv (persL_get (by simpa [PV.pers] using hp) i c hc))
  | tup l cs hl h ih => exact fun hp => .tup l cs hl (fun i c v hc hv => ih i c v hc hv (persL_get (by simpa [PV.pers] using hp) i c hc))
  | sl0 f a c hf => exact fun _ => .sl0 f a c hf
  | sl f l b o c sz val hc hf hsz hpos hM0 h1 h2 ih =>
    exact fun hp => .sl f l b o c sz val hc hf hsz hpos (fun hm => hM0 (hM b hm)) h1 (fun i v j x hv hx => ih i v j x hv hx (pers_cells (persL_get (by simpa [PV.pers] using hp) i v hv) j x hx))
  | ms0 k sz off a => exact fun hp => by simp [PV.pers] at hp
  | ms k sz off len b c hk hc hr => exact fun hp => by simp [PV.pers] at hp
  | ptr k sz i j b hk => exact fun hp => by simp [PV.pers] at hp
  | pp l off b o val hb hM0 h1 h2 ih =>
    exact fun hp => .pp l off b o val hb (fun hm => hM0 (hM b hm)) h1 (fun j x hx => ih j x hx (persL_get (by simpa [PV.pers] using hp) j x hx))
  | nilp => exact fun _ => .nilp
  | fn f x y a b hx hy h1 h2 ih1 ih2 =>
    intro hp
    simp only [PV.pers, Bool.and_eq_true] at hp
    exact .fn f x y a b hx hy (fun i c v hc hv => ih1 i c v hc hv (persL_get hp.1 i c hc)) (fun i c v hc hv => ih2 i c v hc hv (persL_get hp.2 i c hc))
  | nilfn => exact fun _ => .nilfn
  | mapr k b hk => exact fun hp => by simp [PV.pers] at hp
  | nilm => exact fun _ => .nilm
  | nilif => exact fun _ => .nilif
  | yld k b hk => exact fun hp => by simp [PV.pers] at hp
  | junk v => exact fun _ => .junk v

theorem Reps.pers {l : List PV} {vs : List Value} (h : Reps w ρ M l vs) (hM : ∀ b, M' b → M b) (hp : PV.persL l = true) : Reps w ρ' M' l vs :=
  ⟨h.1, fun i c v hc hv => (h.2 i c v hc hv).pers hM (persL_get hp i c hc)⟩

/-- The machine's value of an element whose cells begin at s. -/
def vOf (arr : Array Value) (s sz : Nat) : PV → Value
  | .agg _ => .agg (arr.extract s (s + sz))
  | _ => arr.getD s undef

theorem getD_of_lt {arr : Array Value} {i : Nat} (h : i < arr.size) : arr[i]? = some (arr.getD i undef) := by
  rw [Array.getD_eq_getD_getElem?, Array.getElem?_eq_getElem h]; rfl

theorem rep_vOf {arr : Array Value} {s sz : Nat} {e : PV} (hsz : e.cells.length = sz) (hpos : 0 < sz) (hle : s + sz ≤ arr.size)
    (h : ∀ (j : Nat) (c : PV) (v : Value), e.cells[j]? = some c → arr[s + j]? = some v → Rep w ρ M c v) : Rep w ρ M e (vOf arr s sz e) := by
  have key : ∀ c, e.cells = [c] → Rep w ρ M c (arr.getD s undef) := fun c hc => h 0 c _ (by rw [hc]; rfl) (getD_of_lt (by omega))
  cases e with
  | agg l =>
    refine .agg l _ (by simp [PV.cells] at hsz; simp; omega) (fun i c v hc hv => h i c v hc ?_)
    have hi : i < sz := by have := (List.getElem?_eq_some_iff.1 hc).1; simp [PV.cells] at hsz; omega
    rw [← hv, Array.getElem?_extract]
    rw [if_pos (by omega)]
  | junk => exact .junk _
  | _ => exact key _ rfl

/-- The cells of an element's value are the row's. -/
theorem vOf_cells {arr : Array Value} {s sz : Nat} {e y : PV} {ρ' : Key → Option Nat} (hsz : e.cells.length = sz) (hpos : 0 < sz) (hle : s + sz ≤ arr.size) (he : Rep w ρ M e (vOf arr s sz e)) (j : Nat) (hj : j < sz) :
    (vOf arr s sz e).cells[j]? = arr[s + j]? := by
  cases e with
  | agg l => simp only [vOf, Value.cells, Array.getElem?_extract]; rw [if_pos (by omega)]
  | junk => simp [PV.cells] at hsz; omega
  | _ =>
    have h1 : sz = 1 := by simpa [PV.cells] using hsz.symm
    subst h1
    have h0 : j = 0 := by omega
    subst h0
    simp only [vOf] at he ⊢
    have hg := getD_of_lt (arr := arr) (i := s) (by omega)
    generalize arr.getD s undef = u at he hg
    rw [Nat.add_zero, hg]
    cases he <;> rfl

theorem dr_ok {H : Heap} (hR : Rows w ρ M H) (hM : ∀ b, M' b → M b) : ∀ (n : Nat),
    (∀ (x y : PV) (ks : List Key) (v : Value), dr H n x = some (y, ks) → (∀ k b, k ∈ ks → ρ k = some b → ¬ M' b) → Rep w ρ M x v → Rep w ρ' M' y v) ∧
    (∀ (l m : List PV) (ks : List Key) (vs : List Value), drL H n l = some (m, ks) → (∀ k b, k ∈ ks → ρ k = some b → ¬ M' b) → Reps w ρ M l vs → Reps w ρ' M' m vs) := by
  intro n
  induction n with
  | zero =>
    constructor
    · intro x y ks v h _ hr
      simp only [dr] at h
      split at h
      · rename_i hp
        simp only [Option.some.injEq, Prod.mk.injEq] at h
        obtain ⟨rfl, rfl⟩ := h
        exact hr.pers hM hp
      · cases h
    · intro l m ks vs h _ hr
      simp only [drL] at h
      split at h
      · rename_i hp
        simp only [Option.some.injEq, Prod.mk.injEq] at h
        obtain ⟨rfl, rfl⟩ := h
        exact hr.pers hM hp
      · cases h
  | succ n ih =>
    obtain ⟨ih1, ih2⟩ := ih
    constructor
    · intro x y ks v h hk hr
      simp only [dr] at h
      split at h
      · rename_i hp
        simp only [Option.some.injEq, Prod.mk.injEq] at h
        obtain ⟨rfl, rfl⟩ := h
        exact hr.pers hM hp
      · cases x with
        | agg l =>
          simp only [Option.map_eq_some_iff, Prod.mk.injEq] at h
          obtain ⟨r, h1, h2, h3⟩ := h
          subst h2 h3
          cases hr with
          | agg l cs hl hc =>
            have := ih2 l r.1 r.2 cs.toList h1 hk ⟨by simpa using hl, fun i c v hi hv => hc i c v hi (by simpa using hv)⟩
            exact .agg _ _ (by simpa using this.1) (fun i c v hi hv => this.2 i c v hi (by simpa using hv))
        | tup l =>
          simp only [Option.map_eq_some_iff, Prod.mk.injEq] at h
          obtain ⟨r, h1, h2, h3⟩ := h
          subst h2 h3
          cases hr with
          | tup l cs hl hc =>
            have := ih2 l r.1 r.2 cs.toList h1 hk ⟨by simpa using hl, fun i c v hi hv => hc i c v hi (by simpa using hv)⟩
            exact .tup _ _ (by simpa using this.1) (fun i c v hi hv => this.2 i c v hi (by simpa using hv))
        | sl f l =>
          simp only at h
          cases hd : drL H n l with
          | none => simp [hd] at h
          | some r =>
            simp only [hd] at h
            split at h
            rotate_left
            · cases h
            rename_i hall
            simp only [Option.some.injEq, Prod.mk.injEq] at h
            obtain ⟨rfl, rfl⟩ := h
            cases hr with
            | sl0 f a c hf =>
              have hr0 : r.1 = [] := by
                cases n <;> (simp [drL, PV.persL] at hd; rw [← hd])
              rw [hr0]
              exact .sl0 _ _ _ hf
            | sl f l b o c sz val hc hf hsz hpos hM0 g1 g2 =>
              by_cases hl : l = []
              · subst hl
                have hr0 : r.1 = [] := by
                  cases n <;> (simp [drL, PV.persL] at hd; rw [← hd])
                rw [hr0]
                exact .sl0 _ _ _ (fun h => by simpa using hf h)
              have hhd : (l.headD .junk).cells.length = sz := by
                cases l with
                | nil => exact absurd rfl hl
                | cons v l => exact hsz v (by simp)
              rw [hhd] at hall
              have hcellsz := allSz_mem hall
              -- each element's cells as a row of their own
              have hrepE : ∀ i e, l[i]? = some e → Rep w ρ M e (vOf ((List.range sz).map (val i)).toArray 0 sz e) := fun i e hi =>
                rep_vOf (hsz e (List.mem_of_getElem? hi)) hpos (by simp) (fun j c v hc hv => by
                  have hj : j < sz := by have := (List.getElem?_eq_some_iff.1 hc).1; have := hsz e (List.mem_of_getElem? hi); omega
                  simp only [Nat.zero_add, List.getElem?_toArray, List.getElem?_map, List.getElem?_range hj, Option.map_some, Option.some.injEq] at hv
                  subst hv; exact g2 i e j c hi hc)
              have q := ih2 l r.1 r.2 ((List.range l.length).map fun i => vOf ((List.range sz).map (val i)).toArray 0 sz (l.getD i .junk)) hd hk ⟨by simp, fun i c v hi hv => by
                have hlt := (List.getElem?_eq_some_iff.1 hi).1
                simp only [List.getElem?_map, List.getElem?_range hlt, Option.map_some, Option.some.injEq] at hv
                subst hv
                have hg : l.getD i .junk = c := by rw [List.getD_eq_getElem?_getD, hi]; rfl
                rw [hg]
                exact hrepE i c hi⟩
              have hlen : r.1.length = l.length := by simpa using q.1
              have hfin := Rep.sl (w := w) (ρ := ρ') (M := M') f r.1 b o c sz val (by omega) (fun h => by rw [hlen]; exact hf h) hcellsz hpos (fun hm => hM0 (hM b hm))
                (fun i y j c hi hj => by
                  have k1 : i < l.length := by have := (List.getElem?_eq_some_iff.1 hi).1; omega
                  have k2 : j < sz := by have := (List.getElem?_eq_some_iff.1 hj).1; have := hcellsz y (List.mem_of_getElem? hi); omega
                  exact g1 i l[i] j _ (List.getElem?_eq_getElem k1) (List.getElem?_eq_getElem (by rw [hsz _ (List.getElem_mem k1)]; exact k2)))
                (fun i y j c hi hj => by
                  have k1 : i < l.length := by have := (List.getElem?_eq_some_iff.1 hi).1; omega
                  have k2 : j < sz := by have := (List.getElem?_eq_some_iff.1 hj).1; have := hcellsz y (List.mem_of_getElem? hi); omega
                  have hpi : l[i]? = some l[i] := List.getElem?_eq_getElem k1
                  have hg : l.getD i .junk = l[i] := by rw [List.getD_eq_getElem?_getD, hpi]; rfl
                  have hy : Rep w ρ' M' y (vOf ((List.range sz).map (val i)).toArray 0 sz (l.getD i .junk)) := q.2 i y _ hi (by simp only [List.getElem?_map, List.getElem?_range k1, Option.map_some])
                  rw [hg] at hy
                  have hyj : y ≠ .junk := junk_of (hcellsz y (List.mem_of_getElem? hi)) hpos
                  have hcells := (hy.cells hyj).2 j c
                  rw [vOf_cells (y := y) (ρ' := ρ') (hsz _ (List.getElem_mem k1)) hpos (by simp) (hrepE i _ hpi) j k2] at hcells
                  exact hcells _ hj (by simp [List.getElem?_range k2]))
              rw [hlen] at hfin
              exact hfin
        | pp l o =>
          simp only [Option.map_eq_some_iff, Prod.mk.injEq] at h
          obtain ⟨r, h1, h2, h3⟩ := h
          subst h2 h3
          cases hr with
          | pp l o b q val hb hM0 g1 g2 =>
            have := ih2 l r.1 r.2 ((List.range l.length).map val) h1 hk ⟨by simp, fun i c v hi hv => by
              have hlt := (List.getElem?_eq_some_iff.1 hi).1
              simp only [List.getElem?_map, List.getElem?_range hlt, Option.map_some, Option.some.injEq] at hv
              subst hv; exact g2 i c hi⟩
            have hlen : r.1.length = l.length := by simpa using this.1
            refine .pp r.1 o b q val hb (fun hm => hM0 (hM b hm)) (fun j x hj => ?_) (fun j x hj => ?_)
            · have hlt : j < l.length := by have := (List.getElem?_eq_some_iff.1 hj).1; omega
              exact g1 j l[j] (List.getElem?_eq_getElem hlt)
            · have hlt : j < l.length := by have := (List.getElem?_eq_some_iff.1 hj).1; omega
              exact this.2 j x _ hj (by simp [List.getElem?_range hlt])
        | fn f a b =>
          simp only at h
          cases h1 : drL H n a with
          | none => simp [h1] at h
          | some r =>
            cases h2 : drL H n b with
            | none => simp [h1, h2] at h
            | some s =>
              simp only [h1, h2, Option.some.injEq, Prod.mk.injEq] at h
              obtain ⟨rfl, rfl⟩ := h
              cases hr with
              | fn f a b c d ha hb g1 g2 =>
                have q1 := ih2 a r.1 r.2 c.toList h1 (fun k b hk' => hk k b (List.mem_append_left _ hk')) ⟨by simpa using ha, fun i c v hi hv => g1 i c v hi (by simpa using hv)⟩
                have q2 := ih2 b s.1 s.2 d.toList h2 (fun k b hk' => hk k b (List.mem_append_right _ hk')) ⟨by simpa using hb, fun i c v hi hv => g2 i c v hi (by simpa using hv)⟩
                exact .fn f _ _ _ _ (by simpa using q1.1) (by simpa using q2.1) (fun i c v hi hv => q1.2 i c v hi (by simpa using hv)) (fun i c v hi hv => q2.2 i c v hi (by simpa using hv))
        | ms k sz off len =>
          simp only at h
          split at h
          · rename_i h0
            subst h0
            simp only [Option.some.injEq, Prod.mk.injEq] at h
            obtain ⟨rfl, rfl⟩ := h
            cases hr with
            | ms0 k z off a => exact .sl0 _ _ _ (fun h => by cases h)
            | ms k z off len b c hkb hlc hroom => exact .sl0 _ _ _ (fun h => by cases h)
          cases hbk : H.blk k with
          | none => simp [hbk] at h
          | some B =>
            cases B with
            | row z els fz =>
              simp only [hbk] at h
              by_cases hz : z = sz
              rotate_left
              · simp [hz] at h
              subst hz
              simp only [if_true] at h
              cases hc : cut els off len with
              | none => simp [hc] at h
              | some part =>
                simp only [hc] at h
                cases hd : drL H n part with
                | none => simp [hd] at h
                | some r =>
                  simp only [hd] at h
                  split at h
                  rotate_left
                  · cases h
                  rename_i hall
                  simp only [Option.some.injEq, Prod.mk.injEq] at h
                  obtain ⟨rfl, rfl⟩ := h
                  obtain ⟨c1, c2, c3, c4⟩ := cut_some hc
                  cases hr with
                  | ms0 k z off a =>
                    have hp0 : part = [] := List.eq_nil_of_length_eq_zero c3
                    subst hp0
                    have hr0 : r.1 = [] := by
                      cases n <;> (simp [drL, PV.persL] at hd; rw [← hd])
                    rw [hr0]
                    exact .sl0 _ _ _ (fun h => by cases h)
                  | ms k z off len b c hkb hlc hroom =>
                    obtain ⟨arr, ty, a1, a2, a3, a4, a5⟩ := hR k z els fz b hbk hkb
                    have hel : ∀ i e, part[i]? = some e → els[off + i]? = some e := fun i e hi => by
                      have hlt : i < len := by have := (List.getElem?_eq_some_iff.1 hi).1; omega
                      rw [c4 i hlt] at hi; exact hi
                    have hle : ∀ i, i < len → (off + i) * z + z ≤ arr.size := fun i hi => by
                      have : (off + i + 1) * z ≤ els.length * z := Nat.mul_le_mul_right z (by omega)
                      rw [Nat.succ_mul] at this; omega
                    have hrepE : ∀ i e, part[i]? = some e → Rep w ρ M e (vOf arr ((off + i) * z) z e) := fun i e hi => by
                      have hlt : i < len := by have := (List.getElem?_eq_some_iff.1 hi).1; omega
                      exact rep_vOf (a4 e (List.mem_of_getElem? (hel i e hi))) a3 (hle i hlt) (fun j c v hc hv => a5 (off + i) e j c v (hel i e hi) hc hv)
                    have q := ih2 part r.1 r.2 ((List.range len).map fun i => vOf arr ((off + i) * z) z (part.getD i .junk)) hd (fun k b hk' => hk k b (List.mem_cons_of_mem _ hk')) ⟨by simp [c3], fun i c v hi hv => by
                      have hlt : i < len := by have := (List.getElem?_eq_some_iff.1 hi).1; omega
                      simp only [List.getElem?_map, List.getElem?_range hlt, Option.map_some, Option.some.injEq] at hv
                      subst hv
                      have hg : part.getD i .junk = c := by rw [List.getD_eq_getElem?_getD, hi]; rfl
                      rw [hg]
                      exact hrepE i c hi⟩
                    have hlen : r.1.length = len := by simpa using q.1
                    have hcellsz := allSz_mem hall
                    have hM0 : ¬ M' b := hk k b (by simp) hkb
                    have hkey : ∀ (i : Nat) (y : PV) (j : Nat) (c : PV), r.1[i]? = some y → y.cells[j]? = some c → i < len ∧ j < z ∧ (off + i) * z + j < arr.size := fun i y j c hi hj => by
                      have h1 : i < len := by have := (List.getElem?_eq_some_iff.1 hi).1; omega
                      have h2 : j < z := by have := (List.getElem?_eq_some_iff.1 hj).1; have := hcellsz y (List.mem_of_getElem? hi); omega
                      exact ⟨h1, h2, by have := hle i h1; omega⟩
                    have hfin := Rep.sl (w := w) (ρ := ρ') (M := M') false r.1 b (off * z) c z (fun i j => arr.getD ((off + i) * z + j) undef) (by omega) (fun h => by cases h) hcellsz a3 hM0
                      (fun i y j c hi hj => by
                        obtain ⟨k1, k2, k3⟩ := hkey i y j c hi hj
                        rw [show off * z + i * z + j = (off + i) * z + j by rw [Nat.add_mul]]
                        unfold World.cell?; simp only [a1]; exact getD_of_lt k3)
                      (fun i y j c hi hj => by
                        obtain ⟨k1, k2, k3⟩ := hkey i y j c hi hj
                        have hpi : part[i]? = some (part[i]'(by omega)) := List.getElem?_eq_getElem (by omega)
                        have hg : part.getD i .junk = part[i]'(by omega) := by rw [List.getD_eq_getElem?_getD, hpi]; rfl
                        have hy : Rep w ρ' M' y (vOf arr ((off + i) * z) z (part.getD i .junk)) := q.2 i y _ hi (by simp only [List.getElem?_map, List.getElem?_range k1, Option.map_some])
                        rw [hg] at hy
                        have hyj : y ≠ .junk := junk_of (hcellsz y (List.mem_of_getElem? hi)) a3
                        have hcells := (hy.cells hyj).2 j c
                        rw [vOf_cells (y := y) (ρ' := ρ') (a4 _ (List.mem_of_getElem? (hel i _ hpi))) a3 (hle i k1) (hrepE i _ hpi) j k2] at hcells
                        exact hcells _ hj (getD_of_lt k3))
                    rw [hlen] at hfin
                    exact hfin
            | map d es => simp [hbk] at h
            | iter s p => simp [hbk] at h
            | loop => simp [hbk] at h
        | ptr k sz i j =>
          simp only at h
          cases hbk : H.blk k with
          | none => simp [hbk] at h
          | some B =>
            cases B with
            | row z els fz =>
              simp only [hbk] at h
              by_cases hz : z = sz
              rotate_left
              · simp [hz] at h
              subst hz
              simp only [if_true] at h
              cases he : els[i]? with
              | none => simp [he] at h
              | some e =>
                simp only [he, Option.map_eq_some_iff, Prod.mk.injEq] at h
                obtain ⟨r, h1, h2, h3⟩ := h
                subst h2 h3
                cases hr with
                | ptr k z i j b hkb =>
                  obtain ⟨hsz, val, hval⟩ := elem_at hR hbk hkb he
                  have q := ih2 e.cells r.1 r.2 ((List.range z).map val) h1 (fun k b hk' => hk k b (List.mem_cons_of_mem _ hk')) ⟨by simp [hsz], fun i c v hi hv => by
                    have hlt : i < z := by have := (List.getElem?_eq_some_iff.1 hi).1; omega
                    simp only [List.getElem?_map, List.getElem?_range hlt, Option.map_some, Option.some.injEq] at hv
                    subst hv; exact (hval i c hi).2⟩
                  have hlen : r.1.length = z := by simpa using q.1
                  have hM0 : ¬ M' b := hk k b (by simp) hkb
                  obtain ⟨arr, ty, a1, a2, a3, a4, a5⟩ := hR k z els fz b hbk hkb
                  refine .pp r.1 j b (i * z) val (Array.getElem?_eq_some_iff.1 a1).1 hM0 (fun q' x hj => ?_) (fun q' x hj => ?_)
                  · have hlt : q' < z := by have := (List.getElem?_eq_some_iff.1 hj).1; omega
                    exact (hval q' _ (List.getElem?_eq_getElem (by omega : q' < e.cells.length))).1
                  · have hlt : q' < z := by have := (List.getElem?_eq_some_iff.1 hj).1; omega
                    exact q.2 q' x _ hj (by simp [List.getElem?_range hlt])
            | map d es => simp [hbk] at h
            | iter s p => simp [hbk] at h
            | loop => simp [hbk] at h
        | _ => simp at h
    · intro l m ks vs h hk hr
      simp only [drL] at h
      split at h
      · rename_i hp
        simp only [Option.some.injEq, Prod.mk.injEq] at h
        obtain ⟨rfl, rfl⟩ := h
        exact hr.pers hM hp
      · cases l with
        | nil =>
          simp only [Option.some.injEq, Prod.mk.injEq] at h
          obtain ⟨rfl, rfl⟩ := h
          cases vs with
          | nil => exact Reps.nil
          | cons v vs => have := hr.1; simp at this
        | cons x l =>
          cases vs with
          | nil => have := hr.1; simp at this
          | cons v vs =>
            simp only at h
            cases h1 : dr H n x with
            | none => simp [h1] at h
            | some r =>
              cases h2 : drL H n l with
              | none => simp [h1, h2] at h
              | some s =>
                simp only [h1, h2, Option.some.injEq, Prod.mk.injEq] at h
                obtain ⟨rfl, rfl⟩ := h
                exact Reps.cons (ih1 x r.1 r.2 v h1 (fun k b hk' => hk k b (List.mem_append_left _ hk')) hr.head)
                  (ih2 l s.1 s.2 vs h2 (fun k b hk' => hk k b (List.mem_append_right _ hk')) hr.tail)
end
end Go.Proofs.YtigfgicjjhepoaaGreatDoor.VA
set_option linter.unusedVariables false
set_option linter.unusedSimpArgs false
namespace Go.Proofs.YtigfgicjjhepoaaGreatDoor.VA
open Go Go.RowKit
section
variable {w : World} {ρ ρ' : Key → Option Nat} {M M' : Nat → Prop} {P : Program} {pol : Pol}

theorem below_alloc (w : World) (o : Obj) : Below w.heap.size w (w.alloc o) := (Below.refl _ w).alloc (Nat.le_refl _) o

theorem evo_ext {w' : World} (B : Below w.heap.size w w') : Evo w ρ M w' ρ M where
  keys _ _ h := h
  cell a v hc _ := (B.cell (cell_lt hc)).trans hc
  rooms b n hr := by
    obtain ⟨arr, e, hb, hn⟩ := hr
    exact ⟨arr, e, (B.block b (Array.getElem?_eq_some_iff.1 hb).1).trans hb, hn⟩
  muts _ _ h := h
  size := B.size
  defs b x hb := (B.block b (Array.getElem?_eq_some_iff.1 hb).1).trans hb

theorem partsV_inv : ∀ {i : Nat} {l : List (Nat × PV)} {vs : List PV}, partsV i l = some vs → vs = l.map (·.2) ∧ ∀ (j : Nat) (p : Nat × PV), l[j]? = some p → p.1 = i + j
  | i, [], vs, h => by simp only [partsV, Option.some.injEq] at h; subst h; simp
  | i, (k, v) :: l, vs, h => by
    simp only [partsV] at h
    split at h
    · rename_i hk
      simp only [Option.map_eq_some_iff] at h
      obtain ⟨r, hr, rfl⟩ := h
      obtain ⟨h1, h2⟩ := partsV_inv hr
      refine ⟨by rw [h1]; rfl, fun j p hp => ?_⟩
      rcases j with _ | j
      · simp only [List.getElem?_cons_zero, Option.some.injEq] at hp; subst hp; exact hk
      · simp only [List.getElem?_cons_succ] at hp; rw [h2 j p hp]; omega
    · cases h

/-- A slice literal: a row of its own, that is only read. -/
theorem rep_lit {sz : Nat} {l : List PV} {vs : List Value} (e : TypeId) (hpos : 0 < sz) (hn : l ≠ []) (h : Reps w ρ M l vs) (hsz : ∀ v ∈ l, v.cells.length = sz) (hM : ∀ b, M b → b < w.heap.size) :
    Rep (w.alloc (.cells (vs.flatMap fun v => v.cells.toList).toArray e)) ρ M (.sl true l) (.slice (some ⟨w.heap.size, 0, none⟩) l.length l.length) := by
  have hB := below_alloc w (.cells (vs.flatMap fun v => v.cells.toList).toArray e)
  have hvs : ∀ (i : Nat) (x : PV), l[i]? = some x → ∃ v, vs[i]? = some v ∧ Rep w ρ M x v := fun i x hi => by
    have hlt : i < vs.length := by have := (List.getElem?_eq_some_iff.1 hi).1; have := h.1; omega
    exact ⟨vs[i], List.getElem?_eq_getElem hlt, h.2 i x _ hi (List.getElem?_eq_getElem hlt)⟩
  have hcs : ∀ v ∈ vs, v.cells.size = sz := fun v hv => by
    obtain ⟨i, hi, rfl⟩ := List.getElem_of_mem hv
    have hi' : i < l.length := by have := h.1; omega
    have hs := hsz l[i] (List.getElem_mem hi')
    have hr := h.2 i l[i] vs[i] (List.getElem?_eq_getElem hi') (List.getElem?_eq_getElem hi)
    rw [← hs, (hr.cells (junk_of hs hpos)).1]
  have hcell : ∀ (i : Nat) (x : PV) (j : Nat) (c : PV), l[i]? = some x → x.cells[j]? = some c → ∃ v u, vs[i]? = some v ∧ v.cells[j]? = some u ∧ (vs.flatMap fun v => v.cells.toList)[i * sz + j]? = some u ∧ Rep w ρ M c u := fun i x j c hi hj => by
    obtain ⟨v, hv, hr⟩ := hvs i x hi
    have hs := hsz x (List.mem_of_getElem? hi)
    have hjlt : j < sz := by have := (List.getElem?_eq_some_iff.1 hj).1; omega
    obtain ⟨e1, e2⟩ := hr.cells (junk_of hs hpos)
    have hu : j < v.cells.size := by omega
    refine ⟨v, v.cells[j], hv, by simp, ?_, e2 j c _ hj (by simp)⟩
    rw [Great.flat_get hpos vs hcs]
    have d1 : (i * sz + j) / sz = i := by
      rw [Nat.mul_comm, Nat.mul_add_div hpos, Nat.div_eq_of_lt hjlt]; omega
    have d2 : (i * sz + j) % sz = j := by
      rw [Nat.mul_comm, Nat.mul_add_mod, Nat.mod_eq_of_lt hjlt]
    rw [d1, d2, hv]; simp
  refine .sl true l w.heap.size 0 l.length sz (fun i j => (vs.flatMap fun v => v.cells.toList).getD (i * sz + j) undef) (Nat.le_refl _) (fun _ => rfl) hsz hpos (fun hm => by have := hM _ hm; omega) (fun i x j c hi hj => ?_) (fun i x j c hi hj => ?_)
  · obtain ⟨v, u, h1, h2, h3, h4⟩ := hcell i x j c hi hj
    rw [Nat.zero_add, World.cell?_alloc_new]
    simp only [List.getElem?_toArray, h3, List.getD_eq_getElem?_getD, Option.getD_some]
  · obtain ⟨v, u, h1, h2, h3, h4⟩ := hcell i x j c hi hj
    simp only [List.getD_eq_getElem?_getD, h3, Option.getD_some]
    exact h4.evo (evo_ext hB)

theorem zipIdx_eta {vs : List Value} : ∀ (i : Nat) (l : List (Nat × Value)), l.map (·.2) = vs → (∀ (j : Nat) (p : Nat × Value), l[j]? = some p → p.1 = i + j) → l = (vs.zipIdx i).map fun x => (x.2, x.1) := by
  induction vs with
  | nil => intro i l h _; simp at h; subst h; rfl
  | cons v vs ih =>
    intro i l h1 h2
    cases l with
    | nil => simp at h1
    | cons p l =>
      simp only [List.map_cons, List.cons.injEq] at h1
      have hp := h2 0 p rfl
      rw [List.zipIdx_cons, List.map_cons]
      rw [← ih (i + 1) l h1.2 (fun j q hq => by rw [h2 (j + 1) q (by simpa using hq)]; omega)]
      obtain ⟨a, b⟩ := p
      simp only at hp h1
      rw [hp, h1.1, Nat.add_zero]

theorem buildSlice_ok {t e : TypeId} {n len : Nat} {parts : List (Nat × PV)} {vparts : Array (Nat × Value)} {vs : List PV} (he : elemT P t = some e) (hn : szT P e = some n) (hp : partsV 0 parts = some vs)
    (hlen : vs.length = len) (hbig : len * n ≤ 2 ^ 24) (hpos : 0 < n) (hall : allSz n vs = true) (hP : POk P pol)
    (hl : parts.length = vparts.size) (hr : ∀ (i : Nat) (p : Nat × PV) (q : Nat × Value), parts[i]? = some p → vparts[i]? = some q → p.1 = q.1 ∧ Rep w ρ M p.2 q.2) (hM : ∀ b, M b → b < w.heap.size)
    (hz : ∃ i z, P.info? e = some i ∧ i.zero = some z) :
    ∃ v w', (Instr.buildSlice t len vparts).run P w = .ok v w' ∧ Below w.heap.size w w' ∧ Rep w' ρ M (.sl true vs) v := by
  obtain ⟨hu⟩ : ∃ _ : True, P.underlying t = some (.slice e) := by
    unfold elemT at he
    cases hu : P.underlying t with
    | none => simp [hu] at he
    | some d => cases d <;> simp [hu] at he; subst he; exact ⟨trivial, rfl⟩
  rename_i hu'
  obtain ⟨it, hit, hsz⟩ := sizeT hn
  obtain ⟨i0, z, hi0, hz0⟩ := hz
  rw [hit] at hi0; cases hi0
  obtain ⟨p1, p2⟩ := partsV_inv hp
  have hsz' := allSz_mem hall
  let us := vparts.toList.map (·.2)
  have hReps : Reps w ρ M vs us := by
    rw [p1]
    refine ⟨by simp [us, hl], fun i c v hc hv => ?_⟩
    simp only [us, List.getElem?_map, Option.map_eq_some_iff] at hc hv
    obtain ⟨p, hp', rfl⟩ := hc
    obtain ⟨q, hq', rfl⟩ := hv
    exact (hr i p q hp' (by simpa using hq')).2
  have hparts : vparts.toList = (us.zipIdx 0).map fun x => (x.2, x.1) := zipIdx_eta 0 vparts.toList rfl (fun j q hq => by
    have hlt : j < parts.length := by have := (List.getElem?_eq_some_iff.1 hq).1; simp at this; omega
    rw [← (hr j _ q (List.getElem?_eq_getElem hlt) (by simpa using hq)).1, p2 j _ (List.getElem?_eq_getElem hlt)])
  have hus : us.length = len := by rw [← hReps.1, hlen]
  cases hvs : vs with
  | nil =>
    rw [hvs] at hlen
    simp only [List.length_nil] at hlen
    subst hlen
    refine ⟨.slice (some ⟨w.heap.size, 0, none⟩) 0 0, w.alloc (.cells #[] e), ?_, below_alloc w _, .sl0 _ _ _ (fun _ => rfl)⟩
    have hv0 : vparts.toList = [] := by rw [hparts, List.eq_nil_of_length_eq_zero hus]; rfl
    simp [Instr.buildSlice, run_underlying hu', run_sizeOf hn, hv0, Instr.fill, newRow, Array.range_zero']
  | cons x xs =>
    rw [← hvs]
    have hlpos : 0 < len := by rw [← hlen, hvs]; simp
    have hcs : ∀ v ∈ us, v.cells.size = n := fun v hv => by
      obtain ⟨i, hi, rfl⟩ := List.getElem_of_mem hv
      have hi' : i < vs.length := by have := hReps.1; omega
      have hs := hsz' vs[i] (List.getElem_mem hi')
      have hr' := hReps.2 i vs[i] us[i] (List.getElem?_eq_getElem hi') (List.getElem?_eq_getElem hi)
      rw [← hs, (hr'.cells (junk_of hs hpos)).1]
    have hmul : len * n ≠ 0 := Nat.pos_iff_ne_zero.1 (Nat.mul_pos hlpos hpos)
    refine ⟨.slice (some ⟨w.heap.size, 0, none⟩) len len, w.alloc (.cells (us.flatMap fun v => v.cells.toList).toArray e), ?_, below_alloc w _, ?_⟩
    · refine run_buildSlice w t e len vparts _ it z hu' hit hz0 (by rw [hsz]; omega) (by rw [hsz]; exact hmul) ?_
      rw [hparts, hsz]
      exact Great.fill_whole hpos us _ hcs (by simp [hus])
    · have := rep_lit (w := w) (ρ := ρ) (M := M) e hpos (by rw [hvs]; simp) hReps hsz' hM
      rwa [hlen] at this

theorem mapM_bytes : ∀ {l : List PV} {bs : List UInt8}, l.mapM byteOf = some bs → ∃ ns : List Int, l = ns.map (PV.int .u8) ∧ bs = ns.map fun n => UInt8.ofNat n.toNat
  | [], bs, h => by simp at h; subst h; exact ⟨[], rfl, rfl⟩
  | x :: l, bs, h => by
    simp only [List.mapM_cons, Option.bind_eq_bind, Option.pure_def] at h
    cases hx : byteOf x with
    | none => simp [hx] at h
    | some b =>
      cases hl : l.mapM byteOf with
      | none => simp [hx, hl] at h
      | some r =>
        simp [hx, hl] at h
        subst h
        obtain ⟨ns, h1, h2⟩ := mapM_bytes hl
        unfold byteOf at hx
        split at hx
        · rename_i n
          simp only [Option.some.injEq] at hx
          exact ⟨n :: ns, by rw [h1]; rfl, by rw [h2, ← hx]; rfl⟩
        · cases hx

theorem convert_int_ok {s d : TypeId} {k k' : IntKind} {n : Int} {u : TypeDesc} (hs : P.underlying s = some u) (hd : P.underlying d = some (.int k)) : (convert s d (.int k' n)).run P w = .ok (.int k (k.wrap n)) w := by
  simp [convert, run_underlying hs, run_underlying hd, Conv.intToInt]

theorem convert_ok {H : Heap} (hR : Rows w ρ M H) {s d : TypeId} {a x : PV} {va : Value} (hM : ∀ b, M b → b < w.heap.size) (h : (match P.underlying s, P.underlying d, a with
    | some _, some (.int k), .int _ n => some (.int k (k.wrap n))
    | some _, some .string, .str s => some (.str s)
    | some .string, some (.slice e), .str s => if isU8T P e = true then some (.sl false (s.data.toList.map fun b => .int .u8 b.toNat)) else none
    | some (.slice e), some .string, x => if isU8T P e = true then
        match dr H 2 x with
        | some (.sl _ l, _) => (l.mapM byteOf).map fun bs => .str ⟨bs.toArray⟩
        | _ => none
      else none
    | _, _, _ => none) = some x) (ha : Rep w ρ M a va) :
    ∃ v w', (convert s d va).run P w = .ok v w' ∧ Below w.heap.size w w' ∧ Rep w' ρ M x v := by
  split at h
  · rename_i u k k' n hs hd
    simp only [Option.some.injEq] at h; subst h
    rw [ha.int_inv]
    exact ⟨_, w, convert_int_ok hs hd, Below.refl _ _, .int _ _⟩
  · rename_i u s' hs hd
    simp only [Option.some.injEq] at h; subst h
    rw [ha.str_inv]
    refine ⟨.string s', w, ?_, Below.refl _ _, .str _⟩
    simp only [convert, Sem.run_bind, run_underlying hs, run_underlying hd, Result.andThen_ok]
    cases u <;> simp
  · rename_i e s' hs hd
    split at h
    rotate_left
    · cases h
    rename_i hm
    have hu8 : P.underlying e = some (.int .u8) := by
      unfold isU8T at hm
      split at hm
      · assumption
      · cases hm
    simp only [Option.some.injEq] at h; subst h
    rw [ha.str_inv]
    refine ⟨_, _, Lib.run_convert_string_bytes w s d e s' hs hd hu8, ⟨rfl, rfl, rfl, by rw [Lib.bytesWorld_size]; omega, fun i hi => Lib.bytesWorld_at_old w e s' i hi⟩, ?_⟩
    by_cases hz : s'.data.toList = []
    · have : s'.size = 0 := by
        have h1 := congrArg List.length hz
        simpa using h1
      rw [hz, this]
      exact .sl0 _ _ _ (fun h => by cases h)
    · have hlen : (s'.data.toList.map fun b => PV.int .u8 b.toNat).length = s'.size := by simp
      have h := Rep.sl (w := Lib.bytesWorld w e s') (ρ := ρ) (M := M) false (s'.data.toList.map fun b => PV.int .u8 b.toNat) w.heap.size 0 (grownCap w s'.size 0 e) 1 (fun i _ => .int .u8 ((s'.data.toList.getD i 0).toNat))
        (by rw [hlen]; exact grownCap_ge w s'.size 0 e) (fun h => by cases h) (fun v hv => by obtain ⟨b, _, rfl⟩ := List.mem_map.1 hv; rfl) (by omega) (fun hm => by have := hM _ hm; omega)
        (fun i v j x hi hj => by
          simp only [List.getElem?_map, Option.map_eq_some_iff] at hi
          obtain ⟨b, hb, rfl⟩ := hi
          have hj0 : j = 0 := by have := (List.getElem?_eq_some_iff.1 hj).1; simp [PV.cells] at this; exact this
          subst hj0
          have hilt : i < s'.size := by have := (List.getElem?_eq_some_iff.1 hb).1; simpa using this
          have hc := Lib.bytesWorld_cell w e s' i hilt
          have hg : s'.data.toList.getD i 0 = s'[i]'hilt := by
            rw [List.getD_eq_getElem?_getD, hb]; exact (List.getElem?_eq_some_iff.1 hb).2.symm
          rw [show 0 + i * 1 + 0 = i by omega, hc, hg])
        (fun i v j x hi hj => by
          simp only [List.getElem?_map, Option.map_eq_some_iff] at hi
          obtain ⟨b, hb, rfl⟩ := hi
          have hj0 : j = 0 := by have := (List.getElem?_eq_some_iff.1 hj).1; simp [PV.cells] at this; exact this
          subst hj0
          simp only [PV.cells, List.getElem?_cons_zero, Option.some.injEq] at hj
          subst hj
          simp only [List.getD_eq_getElem?_getD, hb, Option.getD_some]
          exact .int _ _)
      rwa [hlen] at h
  · rename_i e hs hd _
    split at h
    rotate_left
    · cases h
    rename_i hm
    have hu8 : P.underlying e = some (.int .u8) := by
      unfold isU8T at hm
      split at hm
      · assumption
      · cases hm
    split at h
    rotate_left
    · cases h
    rename_i f l ks hdr
    simp only [Option.map_eq_some_iff] at h
    obtain ⟨bs, hbs, rfl⟩ := h
    obtain ⟨ns, rfl, rfl⟩ := mapM_bytes hbs
    have hrep := (dr_ok (ρ' := ρ) (M' := fun _ => False) hR (fun b h => h.elim) 2).1 _ _ ks va hdr (fun _ _ _ _ h => h) ha
    have hstr : ∀ ns : List Int, ns.foldl (fun r n => r.push (UInt8.ofNat n.toNat)) ByteArray.empty = ⟨(ns.map fun n => UInt8.ofNat n.toNat).toArray⟩ := fun ns => by
      have : ∀ (ns : List Int) (r : ByteArray), ns.foldl (fun r n => r.push (UInt8.ofNat n.toNat)) r = ⟨r.data ++ (ns.map fun n => UInt8.ofNat n.toNat).toArray⟩ := by
        intro ns
        induction ns with
        | nil => intro r; simp
        | cons n ns ih =>
          intro r
          simp only [List.foldl_cons, ih]
          congr 1
          simp [ByteArray.push]
      rw [this]; congr 1; simp [ByteArray.empty, ByteArray.emptyWithCapacity]; rfl
    generalize hn : ns.map (PV.int .u8) = l at hrep
    cases hrep with
    | sl0 f a c hf =>
      have : ns = [] := by cases ns <;> simp_all
      subst this
      refine ⟨.string ⟨#[]⟩, w, ?_, Below.refl _ _, .str _⟩
      rw [run_convert_bytes_string w s d e a 0 c hs hu8 hd]
      cases a with
      | none => simp [Conv.bytesToString]; rfl
      | some a =>
        have := run_bytesToString (P := P) w a 0 c [] (by simp [loadCells, loadCellsFrom])
        rw [this]; rfl
    | sl f l b o c sz val hc hf hsz hpos hM0 g1 g2 =>
      subst hn
      refine ⟨.string ⟨(ns.map fun n => UInt8.ofNat n.toNat).toArray⟩, w, ?_, Below.refl _ _, .str _⟩
      rw [run_convert_bytes_string w s d e _ _ c hs hu8 hd]
      have hload : (loadCells ⟨b, o, none⟩ (ns.map (PV.int .u8)).length).run P w = .ok (ns.map (Value.int .u8)).toArray w := by
        have hl : (ns.map (PV.int .u8)).length = (ns.map (Value.int .u8)).length := by simp
        rw [hl]
        refine run_loadCells_list w _ _ (fun j v hv => ?_)
        simp only [List.getElem?_map, Option.map_eq_some_iff] at hv
        obtain ⟨n, hn, rfl⟩ := hv
        have hi : (ns.map (PV.int .u8))[j]? = some (.int .u8 n) := by simp [hn]
        have hs1 : sz = 1 := by rw [← hsz _ (List.mem_of_getElem? hi)]; rfl
        subst hs1
        have c1 := g1 j _ 0 (.int .u8 n) hi rfl
        have c2 := g2 j _ 0 (.int .u8 n) hi rfl
        rw [c2.int_inv] at c1
        rw [Addr.add_lit]
        simpa using c1
      rw [run_bytesToString (P := P) w _ _ c ns hload, hstr]
  · cases h
end
end Go.Proofs.YtigfgicjjhepoaaGreatDoor.VA
set_option linter.unusedVariables false
set_option linter.unusedSimpArgs false
namespace Go.Proofs.YtigfgicjjhepoaaGreatDoor.VA
open Go Go.RowKit
section
variable {w : World} {ρ ρ' : Key → Option Nat} {M M' : Nat → Prop} {P : Program} {pol : Pol}

def descOf : Option IntKind → TypeDesc
  | some k => .int k
  | none => .string

theorem keyT_inv {t : TypeId} {d : Option IntKind} {e : TypeId} (h : keyT P t = some (d, e)) : ∃ kt, P.underlying t = some (.map kt e) ∧ P.underlying kt = some (descOf d) := by
  unfold keyT at h
  split at h
  · rename_i kt e' hu
    split at h
    · rename_i k hk
      simp only [Option.some.injEq, Prod.mk.injEq] at h
      obtain ⟨rfl, rfl⟩ := h
      exact ⟨kt, hu, hk⟩
    · rename_i hk
      simp only [Option.some.injEq, Prod.mk.injEq] at h
      obtain ⟨rfl, rfl⟩ := h
      exact ⟨kt, hu, hk⟩
    · cases h
  · cases h

theorem key_isKey {d : Option IntKind} {x : PV} {v : Value} (h : isKeyV d x = true) (hr : Rep w ρ M x v) : MapKept.IsKey (descOf d) v := by
  cases d with
  | none => cases x <;> simp [isKeyV] at h; cases hr; trivial
  | some k => cases x <;> simp [isKeyV] at h; cases hr; exact h

theorem sameNow_eqS {d : Option IntKind} {x y : PV} {v u : Value} (hx : isKeyV d x = true) (hy : isKeyV d y = true) (hv : Rep w ρ M x v) (hu : Rep w ρ M y u) : Instr.sameNow (descOf d) v u = some (eqS x y) := by
  cases d with
  | none =>
    cases x <;> simp [isKeyV] at hx; cases y <;> simp [isKeyV] at hy
    cases hv; cases hu
    simp [descOf, Instr.sameNow, eqS]
    rw [Bool.eq_iff_iff, MapKept.bytes_beq]; simp
  | some k =>
    cases x <;> simp [isKeyV] at hx; cases y <;> simp [isKeyV] at hy
    cases hv; cases hu
    subst hx hy
    simp [descOf, Instr.sameNow, eqS]
    rw [Bool.eq_iff_iff]; simp

/-- The machine's search finds what the evaluator's does. -/
theorem findNow_pos {d : Option IntKind} {i : PV} {vi : Value} (hi : isKeyV d i = true) (hvi : Rep w ρ M i vi) : ∀ (es : List (PV × PV)) (l : List MapEntry) (n : Nat), l.length = es.length →
    (∀ (j : Nat) (k v : PV) (e : MapEntry), es[j]? = some (k, v) → l[j]? = some e → Rep w ρ M k e.key ∧ isKeyV d k = true) →
    Instr.findNow (descOf d) vi l n = some ((posV i es).bind fun j => (l[j]?).map fun e => (n + j, e.val))
  | [], [], n, _, _ => rfl
  | (k, v) :: es, e :: l, n, hl, h => by
    obtain ⟨h1, h2⟩ := h 0 k v e rfl rfl
    have hs := sameNow_eqS hi h2 hvi h1
    simp only [Instr.findNow, hs, posV]
    cases hq : eqS i k with
    | true => simp
    | false =>
      simp only [Bool.false_eq_true, if_false]
      rw [findNow_pos hi hvi es l (n + 1) (by simpa using hl) (fun j k v e hj he => h (j + 1) k v e (by simpa using hj) (by simpa using he))]
      cases posV i es with
      | none => rfl
      | some j =>
        simp only [Option.map_some, Option.bind_some, List.getElem?_cons_succ]
        congr 2; funext e; congr 1; omega
  | [], _ :: _, _, hl, _ => by simp at hl
  | _ :: _, [], _, hl, _ => by simp at hl

theorem posV_lt {i : PV} : ∀ {es : List (PV × PV)} {j : Nat}, posV i es = some j → j < es.length
  | e :: es, j, h => by
    simp only [posV] at h
    split at h
    · simp only [Option.some.injEq] at h; subst h; simp
    · simp only [Option.map_eq_some_iff] at h
      obtain ⟨k, hk, rfl⟩ := h
      have := posV_lt hk
      simp; omega
  | [], j, h => by simp [posV] at h

theorem rep_zeroV (hP : POk P pol) {t : TypeId} {z : List PV} {g : Bool} (hz : zeroT P t = some z) (hg : aggT P t = some g) : ∃ zv, (zeroValue t).run P w = .ok zv w ∧ Rep w ρ M (if g then .agg z else z.headD .junk) zv := by
  obtain ⟨i, zv, hi, hzv, hr⟩ := rep_zero (w := w) (ρ := ρ) (M := M) hz
  refine ⟨zv, by simp [zeroValue, typeInfo, hi, hzv], ?_⟩
  cases g with
  | true =>
    obtain ⟨cs, rfl⟩ := hP.zagg t i zv (zero_okT hz) hi hzv hg
    simp only [if_true]
    exact .agg _ _ (by simpa [Value.cells] using hr.1) (fun i c v hc hv => hr.2 i c v hc (by simpa [Value.cells] using hv))
  | false =>
    have h1 := hP.zone t i zv (zero_okT hz) hi hzv hg
    have hc : zv.cells = #[zv] := by cases zv <;> simp [Value.oneCell'] at h1 <;> rfl
    rw [hc] at hr
    simp only [Bool.false_eq_true, if_false]
    cases z with
    | nil => exact .junk _
    | cons c z => exact hr.2 0 c zv rfl rfl

theorem lookup_ok (hP : POk P pol) {H : Heap} {t : TypeId} {m i x : PV} {ok : Bool} {vm vi : Value}
    (hmap : ∀ k d es b, H.blk k = some (.map d es) → ρ k = some b → BlkRel w ρ M b (.map d es))
    (h : (match keyT P t, m with
    | some (d, e), .mapr k => match H.blk k, zeroT P e, aggT P e with
      | some (.map d' es), some z, some g =>
        if d = d' ∧ isKeyV d i = true then
          let zero : PV := if g then .agg z else z.headD .junk
          some (if ok then .tup [(lookV es i).getD zero, .bool (lookV es i).isSome] else (lookV es i).getD zero)
        else none
      | _, _, _ => none
    | _, _ => none) = some x) (hm : Rep w ρ M m vm) (hi : Rep w ρ M i vi) :
    ∃ v, (Instr.lookup t vm vi ok).run P w = .ok v w ∧ Rep w ρ M x v := by
  split at h
  rotate_left
  · cases h
  rename_i d e k hk
  obtain ⟨kt, hu, hkt⟩ := keyT_inv hk
  cases hbk : H.blk k with
  | none => simp [hbk] at h
  | some B =>
    cases B with
    | map d' es =>
      cases hz : zeroT P e with
      | none => simp [hbk, hz] at h
      | some z =>
        cases hg : aggT P e with
        | none => simp [hbk, hz, hg] at h
        | some g =>
          simp only [hbk, hz, hg] at h
          split at h
          rotate_left
          · cases h
          rename_i hc
          obtain ⟨rfl, hik⟩ := hc
          simp only [Option.some.injEq] at h
          subst h
          cases hm with
          | mapr k b hb =>
            obtain ⟨en, e1, e2, e3⟩ := hmap k d es b hbk hb
            obtain ⟨zv, hzr, hzrep⟩ := rep_zeroV (w := w) (ρ := ρ) (M := M) hP hz hg
            have hfind := findNow_pos hik hi es en.toList 0 (by simpa using e2) (fun j k v e hj he => by
              obtain ⟨q1, q2, q3, q4⟩ := e3 j k v e hj (by simpa using he); exact ⟨q1, q4⟩)
            have hkey := MapKept.run_checkKey (P := P) (w := w) hkt (key_isKey hik hi) en.isEmpty 9999
            have hfk := MapKept.run_findKey (P := P) (w := w) hkt hfind
            cases hp : posV i es with
            | none =>
              rw [hp] at hfk
              simp only [Option.bind_none] at hfk
              have hl : lookV es i = none := by simp [lookV, hp]
              rw [hl]
              simp only [Option.getD_none, Option.isSome_none]
              refine ⟨if ok then .tuple #[zv, .bool false] else zv, ?_, ?_⟩
              · simp only [Instr.lookup, Sem.run_bind, run_underlying hu, Result.andThen_ok, MapKept.run_getObj_map e1, Sem.run_pure, hkey, hfk, hzr]
              · cases ok
                · exact hzrep
                · have := Reps.cons hzrep (Reps.cons (Rep.bool (w := w) (ρ := ρ) (M := M) false) Reps.nil)
                  exact .tup _ _ rfl (fun i c v hc hv => this.2 i c v hc (by simpa using hv))
            | some j =>
              have hlt := posV_lt hp
              have hje : es[j]? = some es[j] := List.getElem?_eq_getElem hlt
              have hjn : en.toList[j]? = some (en[j]'(by omega)) := by simp [show j < en.size by omega]
              rw [hp] at hfk
              simp only [Option.bind_some, hjn, Option.map_some] at hfk
              have hl : lookV es i = some es[j].2 := by simp [lookV, hp, hje]
              rw [hl]
              simp only [Option.getD_some, Option.isSome_some]
              obtain ⟨q1, q2, q3, q4⟩ := e3 j es[j].1 es[j].2 (en[j]'(by omega)) hje (Array.getElem?_eq_getElem (by omega))
              refine ⟨if ok then .tuple #[(en[j]'(by omega)).val, .bool true] else (en[j]'(by omega)).val, ?_, ?_⟩
              · simp only [Instr.lookup, Sem.run_bind, run_underlying hu, Result.andThen_ok, MapKept.run_getObj_map e1, Sem.run_pure, hkey, hfk, hzr]
              · cases ok
                · exact q2
                · have := Reps.cons q2 (Reps.cons (Rep.bool (w := w) (ρ := ρ) (M := M) true) Reps.nil)
                  exact .tup _ _ rfl (fun i c v hc hv => this.2 i c v hc (by simpa using hv))
    | row z els fz => simp [hbk] at h
    | iter s p => simp [hbk] at h
    | loop => simp [hbk] at h
end
end Go.Proofs.YtigfgicjjhepoaaGreatDoor.VA
set_option linter.unusedVariables false
set_option linter.unusedSimpArgs false
namespace Go.Proofs.YtigfgicjjhepoaaGreatDoor.VA
open Go Go.RowKit
section
variable {w : World} {ρ ρ' : Key → Option Nat} {M M' : Nat → Prop}

theorem run_v {P : Program} {s : Sem Value} {v : Value} {w w' : World} (h : s.run P w = .ok v w') : (do pure (.value (← s)) : Sem Next).run P w = .ok (.value v) w' := by
  simp [h]

theorem parts_rep {f : Operand → PV} {g : Operand → Value} (hv : ∀ y, Rep w ρ M (f y) (g y)) (parts : Array (Nat × Operand)) :
    (parts.toList.map fun p => (p.1, f p.2)).length = (parts.map fun (i, y) => (i, g y)).size ∧
    ∀ (i : Nat) (p : Nat × PV) (q : Nat × Value), (parts.toList.map fun p => (p.1, f p.2))[i]? = some p → (parts.map fun (i, y) => (i, g y))[i]? = some q → p.1 = q.1 ∧ Rep w ρ M p.2 q.2 := by
  refine ⟨by simp, fun i p q hp hq => ?_⟩
  simp only [List.getElem?_map, Option.map_eq_some_iff] at hp
  simp only [Array.getElem?_map, Option.map_eq_some_iff] at hq
  obtain ⟨a, ha, rfl⟩ := hp
  obtain ⟨b, hb, rfl⟩ := hq
  rw [Array.getElem?_toList, hb] at ha
  cases ha
  exact ⟨rfl, hv _⟩

theorem opt_rep {f : Operand → PV} {g : Operand → Value} (hv : ∀ y, Rep w ρ M (f y) (g y)) (o : Option Operand) :
    (∀ x, o.map f = some x → ∃ v, o.map g = some v ∧ Rep w ρ M x v) ∧ (o.map f = none → o.map g = none) := by
  cases o with
  | none => exact ⟨fun x h => by simp at h, fun _ => rfl⟩
  | some y => exact ⟨fun x h => by simp only [Option.map_some, Option.some.injEq] at h; subst h; exact ⟨_, rfl, hv y⟩, fun h => by simp at h⟩

theorem arr_rep {f : Operand → PV} {g : Operand → Value} (hv : ∀ y, Rep w ρ M (f y) (g y)) (xs : Array Operand) : Reps w ρ M (xs.toList.map f) (xs.map g).toList := by
  rw [Array.toList_map]
  exact Reps.map hv xs.toList

theorem stepV_ok {c : Ctx} (hP : POk c.P c.pol) {H : Heap} (hR : Rows w ρ M H) (hmap : ∀ k d es b, H.blk k = some (.map d es) → ρ k = some b → BlkRel w ρ M b (.map d es)) (hM : ∀ b, M b → b < w.heap.size)
    {f : Operand → PV} {g : Operand → Value} (hv : ∀ y, Rep w ρ M (f y) (g y)) {o : Oper} {x : PV} (h : stepV c o.op f H = some x) :
    ∃ v w', (execOp g o).run c.P w = .ok (.value v) w' ∧ Below w.heap.size w w' ∧ Rep w' ρ M x v := by
  have same : ∀ {s : Sem Value}, (∃ v, s.run c.P w = .ok v w ∧ Rep w ρ M x v) → ∃ v w', (do pure (.value (← s)) : Sem Next).run c.P w = .ok (.value v) w' ∧ Below w.heap.size w w' ∧ Rep w' ρ M x v :=
    fun ⟨v, h1, h2⟩ => ⟨v, w, run_v h1, Below.refl _ _, h2⟩
  obtain ⟨dst, op, ty, pos, after, guard⟩ := o
  simp only at h
  cases op with
  | move y => simp only [stepV, Option.some.injEq] at h; subst h; exact ⟨_, w, rfl, Below.refl _ _, hv y⟩
  | assign y => simp only [stepV, Option.some.injEq] at h; subst h; exact ⟨_, w, rfl, Below.refl _ _, hv y⟩
  | pick b y z =>
    simp only [stepV] at h
    split at h
    · rename_i t ht
      simp only [Option.some.injEq] at h; subst h
      have hb := hv b
      rw [ht] at hb
      refine ⟨if t then g y else g z, w, ?_, Below.refl _ _, by cases t <;> simp <;> exact hv _⟩
      simp only [execOp, hb.bool_inv, asBool, Sem.run_bind, Sem.run_pure, Result.andThen_ok]
    · cases h
  | build t parts =>
    simp only [stepV] at h
    split at h
    · rename_i hs
      cases hz : zeroT c.P t with
      | none => simp [hz] at h
      | some z =>
        simp only [hz, Option.bind_some, Option.map_eq_some_iff] at h
        obtain ⟨out, ho, rfl⟩ := h
        obtain ⟨p1, p2⟩ := parts_rep hv parts
        exact same (build_ok hP hs hz ho p1 p2)
    · cases h
  | buildSlice t len parts =>
    simp only [stepV] at h
    split at h
    rotate_left
    · cases h
    rename_i e he
    split at h
    rotate_left
    · cases h
    rename_i n vs hn hp
    split at h
    rotate_left
    · cases h
    rename_i hc
    obtain ⟨c1, c2, c3, c4⟩ := hc
    simp only [Option.some.injEq] at h; subst h
    obtain ⟨p1, p2⟩ := parts_rep hv parts
    obtain ⟨i, hi, _⟩ := sizeT hn
    obtain ⟨z, hz⟩ := hP.hasZero e i (size_ok hn) hi
    obtain ⟨v, w', r1, r2, r3⟩ := buildSlice_ok (pol := c.pol) he hn hp c1 c2 c3 c4 hP p1 p2 hM ⟨i, z, hi, hz⟩
    exact ⟨v, w', run_v r1, r2, r3⟩
  | nilCheck y =>
    simp only [stepV] at h
    have hy := hv y
    split at h
    · rename_i k s i j e
      simp only [Option.some.injEq] at h; subst h
      rw [e] at hy
      generalize hgy : g y = u at hy
      cases hy with
      | ptr k s i j b hk => exact ⟨_, w, by simp only [execOp, hgy]; rfl, Below.refl _ _, .ptr k s i j b hk⟩
    · rename_i l q e
      simp only [Option.some.injEq] at h; subst h
      rw [e] at hy
      generalize hgy : g y = u at hy
      cases hy with
      | pp l q b o val hb hM0 g1 g2 => exact ⟨_, w, by simp only [execOp, hgy]; rfl, Below.refl _ _, .pp l q b o val hb hM0 g1 g2⟩
    · rename_i q a b e
      simp only [Option.some.injEq] at h; subst h
      rw [e] at hy
      generalize hgy : g y = u at hy
      cases hy with
      | fn q a b c d h1 h2 h3 h4 => exact ⟨_, w, by simp only [execOp, hgy]; rfl, Below.refl _ _, .fn q a b c d h1 h2 h3 h4⟩
    · cases h
  | fieldAddr t y q => exact same (fieldAddr_ok h (hv y))
  | field t y q => exact same (field_ok h (hv y))
  | indexAddr t y i => exact same (indexAddr_ok h (hv y) (hv i))
  | index t y i => exact same (index_ok h (hv y) (hv i))
  | slice t y lo hi mx =>
    have h1 := opt_rep hv lo
    have h2 := opt_rep hv hi
    have h3 := opt_rep hv mx
    exact same (slice_ok h (hv y) h1.1 h1.2 h2.1 h2.2 h3.1 h3.2)
  | binOp op t y z u =>
    simp only [stepV] at h
    have hy := hv y
    have hz := hv z
    split at h
    · rename_i a b e1 e2
      rw [e1] at hy; rw [e2] at hz
      have := bool_eq_ok (w := w) (ρ := ρ) (M := M) (ox := y) (oy := z) h
      simp only [execOp, hy.bool_inv, hz.bool_inv]
      exact same this
    · rename_i a b e1 e2
      rw [e1] at hy; rw [e2] at hz
      exact same (agg_eq_ok hP h hy hz)
    · rename_i e1 e2
      rw [e1] at hy; rw [e2] at hz
      have e3 : g y = .nilIface := by generalize g y = u1 at hy; cases hy; rfl
      have e4 : g z = .nilIface := by generalize g z = u1 at hz; cases hz; rfl
      split at h
      · rename_i hc
        have hgd : ∀ o : BinOp, (eqGuard o t y z .nilIface .nilIface).run c.P w = .ok () w := fun o => by
          cases y <;> cases z <;> first | (cases o <;> rfl) | (simp [isConstO] at hc)
        have heq : ∀ ms, c.P.underlying t = some (.interface ms) → (Op.equal t .nilIface .nilIface).run c.P w = .ok true w := fun ms hu => by
          have hg : ∀ d, (Op.equalIn (d + 1) t .nilIface .nilIface).run c.P w = .ok true w := fun d => by
            simp [Op.equalIn, run_underlying hu]
          exact hg 9999
        split at h
        · rename_i ms hu
          simp only [Option.some.injEq] at h
          subst h
          exact same ⟨.bool true, by simp only [e3, e4, Sem.run_bind, hgd, Result.andThen_ok, binOp, heq ms hu, Sem.run_pure], .bool _⟩
        · rename_i ms hu
          simp only [Option.some.injEq] at h
          subst h
          exact same ⟨.bool false, by simp only [e3, e4, Sem.run_bind, hgd, Result.andThen_ok, binOp, heq ms hu, Sem.run_pure]; rfl, .bool _⟩
        · cases h
      · cases h
    · exact same (binV_ok h hy hz)
  | unOp op t y => exact same (unV_ok h (hv y))
  | makeFunc q first cap =>
    cases q with
    | func q =>
      simp only [stepV, Option.some.injEq] at h; subst h
      have h1 := arr_rep hv first
      have h2 := arr_rep hv cap
      refine ⟨.func (.func q) (first.map g) (cap.map g), w, rfl, Below.refl _ _, .fn _ _ _ _ _ (by simp) (by simp) (fun i c v hc hv => h1.2 i c v hc (by simpa using hv)) (fun i c v hc hv => h2.2 i c v hc (by simpa using hv))⟩
    | _ => simp [stepV] at h
  | extract y i =>
    simp only [stepV] at h
    have hy := hv y
    split at h
    · rename_i l e
      rw [e] at hy
      refine same ?_
      generalize g y = u at hy
      cases hy with
      | tup l cs hl hr =>
        have hlt := (List.getElem?_eq_some_iff.1 h).1
        refine ⟨cs[i]'(by omega), by simp [Instr.extract, show i < cs.size by omega], hr i x _ h (by simp [show i < cs.size by omega])⟩
    · cases h
  | load t y => exact same (loadV_ok hR h (hv y))
  | convert s d y =>
    obtain ⟨v, w', r1, r2, r3⟩ := convert_ok hR hM h (hv y)
    exact ⟨v, w', run_v r1, r2, r3⟩
  | lookup t m i ok => exact same (lookup_ok hP hmap h (hv m) (hv i))
  | call q =>
    obtain ⟨cal, args, argTypes⟩ := q
    cases cal with
    | builtin b =>
      cases b with
      | len =>
        simp only [stepV] at h
        split at h
        rotate_left
        · cases h
        rename_i y t hargs hty
        have hy := hv y
        have hga : args.map g = #[g y] := by apply Array.ext'; rw [Array.toList_map, hargs]; rfl
        have hrun : ∀ v, (Builtin.len_ argTypes ty #[g y]).run c.P w = .ok v w → Rep w ρ M x v → ∃ v w', (execOp g ⟨dst, .call ⟨.builtin .len, args, argTypes⟩, ty, pos, after, guard⟩).run c.P w = .ok (.value v) w' ∧ Below w.heap.size w w' ∧ Rep w' ρ M x v := fun v h1 h2 =>
          ⟨v, w, by simp [execOp, resolve, invoke, builtin, hga, h1], Below.refl _ _, h2⟩
        split at h
        · rename_i s e
          rw [e] at hy
          split at h
          · rename_i hs
            simp only [Option.some.injEq] at h; subst h
            have hu : c.P.underlying t = some .string := by
              unfold isStrT at hs
              split at hs
              · assumption
              · cases hs
            exact hrun _ (by simp [Builtin.len_, hty, run_underlying hu, hy.str_inv, goInt]) (.int _ _)
          · cases h
        · rename_i f l e
          rw [e] at hy
          simp only [Option.map_eq_some_iff] at h
          obtain ⟨e', he', rfl⟩ := h
          have hu : c.P.underlying t = some (.slice e') := by
            unfold elemT at he'
            cases hu : c.P.underlying t with
            | none => simp [hu] at he'
            | some d => cases d <;> simp [hu] at he'; subst he'; rfl
          refine hrun (.int .i64 l.length) ?_ (.int _ _)
          generalize g y = u at hy
          cases hy <;> simp [Builtin.len_, hty, run_underlying hu, goInt]
        · rename_i k s q n e
          rw [e] at hy
          simp only [Option.map_eq_some_iff] at h
          obtain ⟨e', he', rfl⟩ := h
          have hu : c.P.underlying t = some (.slice e') := by
            unfold elemT at he'
            cases hu : c.P.underlying t with
            | none => simp [hu] at he'
            | some d => cases d <;> simp [hu] at he'; subst he'; rfl
          refine hrun (.int .i64 n) ?_ (.int _ _)
          generalize g y = u at hy
          cases hy <;> simp [Builtin.len_, hty, run_underlying hu, goInt]
        · cases h
      | min =>
        simp only [stepV] at h
        split at h
        rotate_left
        · cases h
        rename_i y z hargs
        have hy := hv y
        have hz := hv z
        have hga : args.map g = #[g y, g z] := by apply Array.ext'; rw [Array.toList_map, hargs]; rfl
        split at h
        rotate_left
        · cases h
        rename_i k a k' b e1 e2
        rw [e1] at hy; rw [e2] at hz
        simp only [Option.some.injEq] at h; subst h
        exact ⟨.int k (if b < a then b else a), w, by simp [execOp, resolve, invoke, builtin, hga, hy.int_inv, hz.int_inv, Builtin.min_, Builtin.min2], Below.refl _ _, .int _ _⟩
      | max =>
        simp only [stepV] at h
        split at h
        rotate_left
        · cases h
        rename_i y z hargs
        have hy := hv y
        have hz := hv z
        have hga : args.map g = #[g y, g z] := by apply Array.ext'; rw [Array.toList_map, hargs]; rfl
        split at h
        rotate_left
        · cases h
        rename_i k a k' b e1 e2
        rw [e1] at hy; rw [e2] at hz
        simp only [Option.some.injEq] at h; subst h
        exact ⟨.int k (if b > a then b else a), w, by simp [execOp, resolve, invoke, builtin, hga, hy.int_inv, hz.int_inv, Builtin.max_, Builtin.max2], Below.refl _ _, .int _ _⟩
      | _ => simp [stepV] at h
    | _ => simp [stepV] at h
  | _ => simp [stepV] at h
end
end Go.Proofs.YtigfgicjjhepoaaGreatDoor.VA
