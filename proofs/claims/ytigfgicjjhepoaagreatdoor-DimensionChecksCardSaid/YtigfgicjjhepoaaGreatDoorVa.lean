/- An evaluator of the model's code over values without memory and a small heap of its own: definitions. -/
import Derived.RangeFuncLeaves
import Derived.Below
import Derived.Laws.Cells
import Derived.KernelRfl
set_option linter.unusedVariables false
namespace Go.Proofs.YtigfgicjjhepoaaGreatDoor.VA
open Go

abbrev Key := List Nat × Nat × Nat

/-- Values: without memory (sl, pp: what can only be read), or with a key into the heap (ms, ptr, mapr). -/
inductive PV where
  | bool (b : Bool)
  | int (k : IntKind) (n : Int)
  | str (s : ByteArray)
  | agg (l : List PV)
  | tup (l : List PV)
  | sl (full : Bool) (l : List PV)
  | ms (k : Key) (sz off len : Nat)
  | ptr (k : Key) (sz i j : Nat)
  | pp (l : List PV) (off : Nat)
  | nilp
  | fn (f : FuncId) (first cap : List PV)
  | nilfn
  | mapr (k : Key)
  | nilm
  | nilif
  | yld (k : Key)
  | junk
  deriving Inhabited

namespace PV
def cells : PV → List PV
  | .agg l => l
  | .junk => []
  | v => [v]

mutual
/-- No key within. -/
def pers : PV → Bool
  | .bool _ | .int _ _ | .str _ | .nilp | .nilfn | .nilm | .nilif | .junk => true
  | .agg l | .tup l | .sl _ l | .pp l _ => persL l
  | .fn _ a b => persL a && persL b
  | .ms _ _ _ _ | .ptr _ _ _ _ | .mapr _ | .yld _ => false
def persL : List PV → Bool
  | [] => true
  | v :: l => pers v && persL l
end
mutual
/-- Nothing that leads to memory within. -/
def flat : PV → Bool
  | .bool _ | .int _ _ | .str _ | .nilp | .nilfn | .nilm | .nilif => true
  | .agg l | .tup l => flatL l
  | .sl _ [] => true
  | _ => false
def flatL : List PV → Bool
  | [] => true
  | v :: l => flat v && flatL l
end
end PV

namespace PV
mutual
/-- A test that shows equality. -/
def beq : PV → PV → Bool
  | .bool a, .bool b => a == b
  | .int k a, .int j b => decide (k = j) && decide (a = b)
  | .str a, .str b => decide (a = b)
  | .agg a, .agg b => beqL a b
  | .tup a, .tup b => beqL a b
  | .sl f a, .sl g b => f == g && beqL a b
  | .ms k a b c, .ms k' a' b' c' => decide (k = k') && Nat.beq a a' && Nat.beq b b' && Nat.beq c c'
  | .ptr k a b c, .ptr k' a' b' c' => decide (k = k') && Nat.beq a a' && Nat.beq b b' && Nat.beq c c'
  | .pp a o, .pp b o' => Nat.beq o o' && beqL a b
  | .nilp, .nilp => true
  | .fn f a b, .fn g c d => Nat.beq f g && beqL a c && beqL b d
  | .nilfn, .nilfn => true
  | .mapr k, .mapr k' => decide (k = k')
  | .nilm, .nilm => true
  | .nilif, .nilif => true
  | .yld k, .yld k' => decide (k = k')
  | .junk, .junk => true
  | _, _ => false
def beqL : List PV → List PV → Bool
  | [], [] => true
  | a :: l, b :: m => beq a b && beqL l m
  | _, _ => false
end
mutual
theorem beq_eq : ∀ (a b : PV), beq a b = true → a = b := by
  intro a b h
  cases a <;> cases b <;> simp only [beq, Bool.and_eq_true, decide_eq_true_eq, beq_iff_eq, Bool.false_eq_true] at h
  case bool.bool a b => rw [h]
  case int.int => obtain ⟨rfl, rfl⟩ := h; rfl
  case str.str => rw [h]
  case agg.agg a b => rw [beqL_eq a b h]
  case tup.tup a b => rw [beqL_eq a b h]
  case sl.sl f a g b => obtain ⟨rfl, h⟩ := h; rw [beqL_eq a b h]
  case ms.ms => obtain ⟨⟨⟨rfl, h1⟩, h2⟩, h3⟩ := h; rw [Nat.eq_of_beq_eq_true h1, Nat.eq_of_beq_eq_true h2, Nat.eq_of_beq_eq_true h3]
  case ptr.ptr => obtain ⟨⟨⟨rfl, h1⟩, h2⟩, h3⟩ := h; rw [Nat.eq_of_beq_eq_true h1, Nat.eq_of_beq_eq_true h2, Nat.eq_of_beq_eq_true h3]
  case pp.pp a o b o' => obtain ⟨h1, h⟩ := h; rw [Nat.eq_of_beq_eq_true h1, beqL_eq a b h]
  case fn.fn f a b g c d => obtain ⟨⟨h1, h2⟩, h3⟩ := h; rw [Nat.eq_of_beq_eq_true h1, beqL_eq a c h2, beqL_eq b d h3]
  case mapr.mapr => rw [h]
  case yld.yld => rw [h]
  all_goals rfl
theorem beqL_eq : ∀ (a b : List PV), beqL a b = true → a = b := by
  intro a b h
  match a, b with
  | [], [] => rfl
  | [], _ :: _ => simp [beqL] at h
  | _ :: _, [] => simp [beqL] at h
  | x :: l, y :: m =>
    simp only [beqL, Bool.and_eq_true] at h
    rw [beq_eq x y h.1, beqL_eq l m h.2]
end
end PV

inductive Blk where
  /-- a row: cells of an element, elements, whether it may no longer be written -/
  | row (sz : Nat) (els : List PV) (fz : Bool)
  /-- keys of a kind of whole numbers, or strings -/
  | map (d : Option IntKind) (es : List (PV × PV))
  | iter (s : ByteArray) (pos : Nat)
  /-- the record of a loop over a function -/
  | loop (fn : FuncId) (nt : Nat) (tm : Nat → PV) (ps : Array Tmp) (assign body : Code) (state : LoopState) (pend : Option Code)
  deriving Inhabited

/-- A test that shows equality of rows. -/
def Blk.beq : Option Blk → Option Blk → Bool
  | none, none => true
  | some (.row a l f), some (.row b m g) => Nat.beq a b && PV.beqL l m && f == g
  | _, _ => false
theorem Blk.beq_eq {a b : Option Blk} (h : Blk.beq a b = true) : a = b := by
  unfold Blk.beq at h
  split at h
  · rfl
  · simp only [Bool.and_eq_true, beq_iff_eq] at h
    obtain ⟨⟨h1, h2⟩, rfl⟩ := h
    rw [Nat.eq_of_beq_eq_true h1, PV.beqL_eq _ _ h2]
  · cases h

structure Heap where
  blk : Key → Option Blk
  cnt : List Nat → Nat → Nat

namespace Heap
def empty : Heap := ⟨fun _ => none, fun _ _ => 0⟩
def set (H : Heap) (k : Key) (b : Blk) : Heap := { H with blk := fun j => if j = k then some b else H.blk j }
def erase (H : Heap) (k : Key) : Heap := { H with blk := fun j => if j = k then none else H.blk j }
def next (H : Heap) (p : List Nat) (d : Nat) : Key := (p, d, H.cnt p d)
def alloc (H : Heap) (p : List Nat) (d : Nat) (b : Blk) : Heap :=
  { blk := fun j => if j = H.next p d then some b else H.blk j,
    cnt := fun q e => if q = p ∧ e = d then H.cnt q e + 1 else H.cnt q e }
def freeze (H : Heap) (ks : List Key) : Heap :=
  { H with blk := fun j => match H.blk j with
      | some (.row sz els fz) => some (.row sz els (fz || decide (j ∈ ks)))
      | o => o }
end Heap

structure St where
  tm : Nat → PV
  hp : Heap

namespace St
def put (st : St) (d : Option Nat) (v : PV) : St :=
  match d with
  | some d => { st with tm := fun i => if i = d then v else st.tm i }
  | none => st
end St

/-- A constant of the code as a value. -/
def ofVal : Nat → Value → PV
  | _ + 1, .bool b => .bool b
  | _ + 1, .int k i => .int k i
  | _ + 1, .string s => .str s
  | _ + 1, .pointer none => .nilp
  | _ + 1, .slice none 0 0 => .sl true []
  | _ + 1, .map none => .nilm
  | _ + 1, .nilFunc => .nilfn
  | _ + 1, .nilIface => .nilif
  | n + 1, .agg cs => .agg (cs.toList.map (ofVal n))
  | n + 1, .tuple vs => .tup (vs.toList.map (ofVal n))
  | _, _ => .junk

inductive Mode where
  | pure | inl
  deriving DecidableEq

/-- What the user chooses: how a function is called, what a variable of the package holds, orders of a region besides the text's, types whose == is proved, which functions are run. -/
structure Pol where
  mode : FuncId → Mode
  glob : Nat → PV
  reps : FuncId → Nat → List (List Nat)
  eqt : TypeId → Bool
  /-- the functions that are run -/
  use : FuncId → Bool

structure Ctx where
  P : Program
  pol : Pol
  path : List Nat
  fn : FuncId

/-- A type of the program's table. -/
def okT (P : Program) (t : TypeId) : Bool := Nat.blt t P.types.size
def szT (P : Program) (t : TypeId) : Option Nat := if okT P t then (P.info? t).map (·.size) else none
def byT (P : Program) (t : TypeId) : Option Nat := (P.info? t).map (·.bytes)
def zeroT (P : Program) (t : TypeId) : Option (List PV) := if okT P t then ((P.info? t).bind (·.zero)).map fun z => z.cells.toList.map (ofVal 8) else none
def aggT (P : Program) (t : TypeId) : Option Bool :=
  match P.underlying t with
  | some (.struct _) | some (.array _ _) => some true
  | some (.tuple _) => none
  | some _ => some false
  | none => none
def elemT (P : Program) (t : TypeId) : Option TypeId :=
  match P.underlying t with
  | some (.slice e) => some e
  | _ => none
/-- A field's place: offset and cells. -/
def fieldT (P : Program) (t : TypeId) (f : Nat) : Option (Nat × Nat × TypeId) :=
  match P.underlying t with
  | some (.struct fs) => match fs[f]? with
    | some g => (szT P g.type).map fun n => (g.offset, n, g.type)
    | none => none
  | _ => none

def opv (g : Nat → PV) (tm : Nat → PV) : Operand → PV
  | .tmp t => tm t
  | .const v => ofVal 8 v
  | .global x => g x
  | .func f => .fn f [] []

/-- Cells from a place on. -/
def cut (cs : List PV) (off n : Nat) : Option (List PV) := if off + n ≤ cs.length then some ((cs.drop off).take n) else none

/-- The value of type t that lies in cells. -/
def asType (P : Program) (t : TypeId) (cs : List PV) : Option PV :=
  match aggT P t with
  | some true => some (.agg cs)
  | some false => match cs with
    | [v] => some v
    | _ => none
  | none => none

def loadV (P : Program) (H : Heap) (t : TypeId) (a : PV) : Option PV :=
  match szT P t with
  | none => none
  | some n =>
    match a with
    | .ptr k sz i j => match H.blk k with
      | some (.row z els _) => if z = sz then match els[i]? with
          | some e => (cut e.cells j n).bind (asType P t)
          | none => none
        else none
      | _ => none
    | .pp cs off => (cut cs off n).bind (asType P t)
    | _ => none

def allSz (n : Nat) : List PV → Bool
  | [] => true
  | v :: l => v.cells.length == n && allSz n l

mutual
/-- The value as one that can only be read, and the rows that it leads to. -/
def dr (H : Heap) : Nat → PV → Option (PV × List Key)
  | 0, v => if v.pers then some (v, []) else none
  | n + 1, v => if v.pers then some (v, []) else
    match v with
    | .agg l => (drL H n l).map fun r => (.agg r.1, r.2)
    | .tup l => (drL H n l).map fun r => (.tup r.1, r.2)
    | .sl f l => match drL H n l with
      | some r => if allSz (l.headD .junk).cells.length r.1 = true then some (.sl f r.1, r.2) else none
      | none => none
    | .pp l o => (drL H n l).map fun r => (.pp r.1 o, r.2)
    | .fn f a b => match drL H n a, drL H n b with
      | some r, some s => some (.fn f r.1 s.1, r.2 ++ s.2)
      | _, _ => none
    | .ms k sz off len => if len = 0 then some (.sl false [], []) else match H.blk k with
      | some (.row z els _) => match (if z = sz then cut els off len else none) with
        | some part => match drL H n part with
          | some r => if allSz sz r.1 = true then some (.sl false r.1, k :: r.2) else none
          | none => none
        | none => none
      | _ => none
    | .ptr k sz i j => match H.blk k with
      | some (.row z els _) => match (if z = sz then els[i]? else none) with
        | some e => (drL H n e.cells).map fun r => (.pp r.1 j, k :: r.2)
        | none => none
      | _ => none
    | _ => none
def drL (H : Heap) : Nat → List PV → Option (List PV × List Key)
  | 0, l => if PV.persL l then some (l, []) else none
  | n + 1, l => if PV.persL l then some (l, []) else
    match l with
    | [] => some ([], [])
    | v :: l => match dr H n v, drL H n l with
      | some r, some s => some (r.1 :: s.1, r.2 ++ s.2)
      | _, _ => none
end

/-- Whole numbers, bools and strings. -/
def binV (pol : Pol) (op : BinOp) (t : TypeId) (x y : PV) : Option PV :=
  match op, x, y with
  | .shl, .int k a, .int _ b => if b < 0 then none else some (.int k (k.wrap (a * 2 ^ (min b.toNat k.bits))))
  | .shr, .int k a, .int _ b => if b < 0 then none else some (.int k (a.fdiv (2 ^ (min b.toNat k.bits))))
  | _, .int k a, .int k' b => if k ≠ k' then none else
    match op with
    | .add => some (.int k (k.wrap (a + b)))
    | .sub => some (.int k (k.wrap (a - b)))
    | .mul => some (.int k (k.wrap (a * b)))
    | .quo => if b = 0 then none else some (.int k (k.wrap (a.tdiv b)))
    | .rem => if b = 0 then none else some (.int k (a.tmod b))
    | .and => some (.int k (k.wrap (BitVec.ofInt k.bits a &&& BitVec.ofInt k.bits b).toNat))
    | .or => some (.int k (k.wrap (BitVec.ofInt k.bits a ||| BitVec.ofInt k.bits b).toNat))
    | .xor => some (.int k (k.wrap (BitVec.ofInt k.bits a ^^^ BitVec.ofInt k.bits b).toNat))
    | .andNot => some (.int k (k.wrap (BitVec.ofInt k.bits a &&& ~~~BitVec.ofInt k.bits b).toNat))
    | .eql => some (.bool (decide (a = b)))
    | .neq => some (.bool (!decide (a = b)))
    | .lss => some (.bool (decide (a < b)))
    | .leq => some (.bool (decide (a ≤ b)))
    | .gtr => some (.bool (decide (b < a)))
    | .geq => some (.bool (decide (b ≤ a)))
    | _ => none
  | .add, .str a, .str b => if a.size + b.size ≤ 9223372036854775807 then some (.str (a ++ b)) else none
  | .eql, .str a, .str b => some (.bool (decide (a = b)))
  | .neq, .str a, .str b => some (.bool (!decide (a = b)))
  | _, _, _ => none

def unV (op : UnOp) (x : PV) : Option PV :=
  match op, x with
  | .not, .bool b => some (.bool (!b))
  | .neg, .int k n => some (.int k (k.wrap (0 - n)))
  | _, _ => none
end Go.Proofs.YtigfgicjjhepoaaGreatDoor.VA
