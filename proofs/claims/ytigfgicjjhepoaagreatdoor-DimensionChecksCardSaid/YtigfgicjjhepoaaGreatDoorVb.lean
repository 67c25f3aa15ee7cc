/- An evaluator of the model's code: the operations, the code, calls. -/
import Derived.Test.YtigfgicjjhepoaaGreatDoorVa
set_option linter.unusedVariables false
namespace Go.Proofs.YtigfgicjjhepoaaGreatDoor.VA
open Go

/-- '==' of whole numbers of one kind, strings and bools. -/
def eqS : PV → PV → Bool
  | .int k a, .int j b => decide (k = j) && decide (a = b)
  | .str a, .str b => decide (a = b)
  | .bool a, .bool b => a == b
  | _, _ => false
def scal : PV → Bool
  | .int _ _ | .str _ | .bool _ => true
  | _ => false
def eqL : List PV → List PV → Bool
  | [], [] => true
  | a :: l, b :: m => eqS a b && eqL l m
  | _, _ => false

/-- What the evaluator asks of calls: f at arguments without keys; f on the heap, in the room 'path'. -/
structure Orc where
  pure : FuncId → List PV → Option PV
  inl : List Nat → FuncId → List PV → Heap → Option (PV × Heap)

def partsV : Nat → List (Nat × PV) → Option (List PV)
  | _, [] => some []
  | i, (j, v) :: l => if j = i then (partsV (i + 1) l).map (v :: ·) else none

/-- A struct's cells with parts put in. -/
def fillV (P : Program) (t : TypeId) : List PV → List (Nat × PV) → Option (List PV)
  | cs, [] => some cs
  | cs, (i, v) :: l =>
    match fieldT P t i with
    | some (off, n, _) => if v.cells.length = n ∧ 0 < n ∧ off + n ≤ cs.length then fillV P t (cs.take off ++ v.cells ++ cs.drop (off + n)) l else none
    | none => none

def isStructT (P : Program) (t : TypeId) : Bool :=
  match P.underlying t with
  | some (.struct _) => true
  | _ => false

def isStrT (P : Program) (t : TypeId) : Bool :=
  match P.underlying t with
  | some .string => true
  | _ => false

def isU8T (P : Program) (t : TypeId) : Bool :=
  match P.underlying t with
  | some (.int .u8) => true
  | _ => false

def sliceV (P : Program) (t : TypeId) (x : PV) (lo hi mx : Option PV) : Option PV :=
  match x with
  | .str s => if isStrT P t = true then
    match lo.getD (.int .i64 0), hi.getD (.int .i64 s.size), mx with
    | .int _ l, .int _ h, none => if 0 ≤ l ∧ l ≤ h ∧ h ≤ s.size then some (.str (s.extract l.toNat h.toNat)) else none
    | _, _, _ => none
    else none
  | .sl f xs => match (elemT P t).bind (szT P) with
    | none => none
    | some n => if 0 < n ∧ allSz n xs = true then
    match lo.getD (.int .i64 0), hi.getD (.int .i64 xs.length), mx with
    | .int _ l, .int _ h, none => if 0 ≤ l ∧ l ≤ h ∧ h ≤ xs.length then some (.sl (f && decide (h = xs.length)) ((xs.drop l.toNat).take (h.toNat - l.toNat))) else none
    | .int _ l, .int _ h, some (.int _ m) => if hi.isSome = true ∧ 0 ≤ l ∧ l ≤ h ∧ h ≤ m ∧ m ≤ xs.length then some (.sl (decide (h = m)) ((xs.drop l.toNat).take (h.toNat - l.toNat))) else none
    | _, _, _ => none
    else none
  | .ms k sz off len =>
    match lo.getD (.int .i64 0), hi.getD (.int .i64 len), mx, (elemT P t).bind (szT P) with
    | .int _ l, .int _ h, none, some n => if n = sz ∧ 0 ≤ l ∧ l ≤ h ∧ h ≤ len then some (.ms k sz (off + l.toNat) (h.toNat - l.toNat)) else none
    | _, _, _, _ => none
  | _ => none

/-- What kind of keys a map's type has. -/
def keyT (P : Program) (t : TypeId) : Option (Option IntKind × TypeId) :=
  match P.underlying t with
  | some (.map kt e) => match P.underlying kt with
    | some (.int k) => some (some k, e)
    | some .string => some (none, e)
    | _ => none
  | _ => none
def isKeyV : Option IntKind → PV → Bool
  | some k, .int j _ => decide (j = k)
  | none, .str _ => true
  | _, _ => false
/-- Where a key stands. -/
def posV (i : PV) : List (PV × PV) → Option Nat
  | [] => none
  | e :: es => if eqS i e.1 = true then some 0 else (posV i es).map (· + 1)
def lookV (es : List (PV × PV)) (i : PV) : Option PV := (posV i es).bind fun j => (es[j]?).map (·.2)
def updV (es : List (PV × PV)) (i v : PV) : List (PV × PV) :=
  match posV i es with
  | some j => es.set j (i, v)
  | none => es ++ [(i, v)]

def byteOf : PV → Option UInt8
  | .int .u8 n => some (UInt8.ofNat n.toNat)
  | _ => none

def isConstO : Operand → Bool
  | .const _ => true
  | _ => false

/-- Operations that make a value and leave the heap as it is. -/
def stepV (c : Ctx) (op : Op) (ρ : Operand → PV) (H : Heap) : Option PV :=
  match op with
  | .move x | .assign x => some (ρ x)
  | .pick b x y => match ρ b with
    | .bool b => some (if b then ρ x else ρ y)
    | _ => none
  | .build t parts => if isStructT c.P t then (zeroT c.P t).bind fun z => (fillV c.P t z (parts.toList.map fun p => (p.1, ρ p.2))).map .agg else none
  | .buildSlice t len parts => match elemT c.P t with
    | some e => match szT c.P e, partsV 0 (parts.toList.map fun p => (p.1, ρ p.2)) with
      | some n, some vs => if vs.length = len ∧ len * n ≤ 2 ^ 24 ∧ 0 < n ∧ allSz n vs = true then some (.sl true vs) else none
      | _, _ => none
    | none => none
  | .nilCheck x => match ρ x with
    | .ptr k s i j => some (.ptr k s i j)
    | .pp l o => some (.pp l o)
    | .fn f a b => some (.fn f a b)
    | _ => none
  | .fieldAddr t x f => match fieldT c.P t f, ρ x with
    | some (off, n, _), .ptr k s i j => if n = 0 then none else some (.ptr k s i (j + off))
    | some (off, n, _), .pp l o => if n = 0 then none else some (.pp l (o + off))
    | _, _ => none
  | .field t x f => match fieldT c.P t f, ρ x with
    | some (off, n, u), .agg l => (cut l off n).bind (asType c.P u)
    | _, _ => none
  | .indexAddr t x i => match c.P.underlying t, ρ x, ρ i with
    | some (.slice e), .sl _ l, .int _ i => if 0 ≤ i then match l[i.toNat]?, szT c.P e with
        | some v, some n => if v.cells.length = n ∧ 0 < n then some (.pp v.cells 0) else none
        | _, _ => none
      else none
    | some (.slice e), .ms k sz off len, .int _ i => match szT c.P e with
        | some n => if n = sz ∧ 0 ≤ i ∧ i < len ∧ 0 < n then some (.ptr k n (off + i.toNat) 0) else none
        | none => none
    | some (.array m e), .ptr k s q o, .int _ i => match szT c.P e with
        | some n => if 0 ≤ i ∧ i < m ∧ 0 < n then some (.ptr k s q (o + i.toNat * n)) else none
        | none => none
    | some (.array m e), .pp l o, .int _ i => match szT c.P e with
        | some n => if 0 ≤ i ∧ i < m ∧ 0 < n then some (.pp l (o + i.toNat * n)) else none
        | none => none
    | _, _, _ => none
  | .index t x i => match c.P.underlying t, ρ x, ρ i with
    | some .string, .str s, .int _ i => if h : 0 ≤ i ∧ i.toNat < s.size then some (.int .u8 (s[i.toNat]'h.2).toNat) else none
    | some (.array m e), .agg l, .int _ i => match szT c.P e with
        | some n => if 0 ≤ i ∧ i < m then (cut l (i.toNat * n) n).bind (asType c.P e) else none
        | none => none
    | _, _, _ => none
  | .slice t x lo hi mx => match c.P.underlying t with
    | some .string | some (.slice _) => sliceV c.P t (ρ x) (lo.map ρ) (hi.map ρ) (mx.map ρ)
    | _ => none
  | .binOp op t x y _ => match ρ x, ρ y with
    | .bool a, .bool b => match c.P.underlying t, op with
      | some .bool, .eql => some (.bool (a == b))
      | some .bool, .neq => some (.bool (a != b))
      | _, _ => none
    | .agg a, .agg b => if c.pol.eqt t = true ∧ a.all scal = true ∧ b.all scal = true ∧ a.length = b.length then match op with
        | .eql => some (.bool (eqL a b))
        | .neq => some (.bool (!eqL a b))
        | _ => none
      else none
    | .nilif, .nilif => if isConstO x || isConstO y then match c.P.underlying t, op with
        | some (.interface _), .eql => some (.bool true)
        | some (.interface _), .neq => some (.bool false)
        | _, _ => none
      else none
    | a, b => binV c.pol op t a b
  | .unOp op _ x => unV op (ρ x)
  | .makeFunc (.func f) first cap => some (.fn f (first.toList.map ρ) (cap.toList.map ρ))
  | .extract x i => match ρ x with
    | .tup l => l[i]?
    | _ => none
  | .load t a => loadV c.P H t (ρ a)
  | .convert s d x => match c.P.underlying s, c.P.underlying d, ρ x with
    | some _, some (.int k), .int _ n => some (.int k (k.wrap n))
    | some _, some .string, .str s => some (.str s)
    | some .string, some (.slice e), .str s => if isU8T c.P e = true then some (.sl false (s.data.toList.map fun b => .int .u8 b.toNat)) else none
    | some (.slice e), some .string, x => if isU8T c.P e = true then
        match dr H 2 x with
        | some (.sl _ l, _) => (l.mapM byteOf).map fun bs => .str ⟨bs.toArray⟩
        | _ => none
      else none
    | _, _, _ => none
  | .lookup t x i ok => match keyT c.P t, ρ x with
    | some (d, e), .mapr k => match H.blk k, zeroT c.P e, aggT c.P e with
      | some (.map d' es), some z, some g =>
        if d = d' ∧ isKeyV d (ρ i) = true then
          let zero : PV := if g then .agg z else z.headD .junk
          some (if ok then .tup [(lookV es (ρ i)).getD zero, .bool (lookV es (ρ i)).isSome] else (lookV es (ρ i)).getD zero)
        else none
      | _, _, _ => none
    | _, _ => none
  | .call { callee := .builtin .len, args, argTypes } => match args.toList, argTypes[0]? with
    | [y], some t => match ρ y with
      | .str s => if isStrT c.P t = true then some (.int .i64 s.size) else none
      | .sl _ l => (elemT c.P t).map fun _ => .int .i64 l.length
      | .ms _ _ _ n => (elemT c.P t).map fun _ => .int .i64 n
      | _ => none
    | _, _ => none
  | .call { callee := .builtin .min, args, .. } => match args.toList with
    | [y, z] => match ρ y, ρ z with
      | .int k a, .int _ b => some (.int k (if b < a then b else a))
      | _, _ => none
    | _ => none
  | .call { callee := .builtin .max, args, .. } => match args.toList with
    | [y, z] => match ρ y, ρ z with
      | .int k a, .int _ b => some (.int k (if b > a then b else a))
      | _, _ => none
    | _ => none
  | _ => none

def oneV : PV → Bool
  | .agg _ | .tup _ | .junk => false
  | _ => true
def elemOk : List PV → Bool
  | [] => false
  | [v] => oneV v
  | _ => true
/-- Cells as one element. -/
def elemOf : List PV → PV
  | [v] => v
  | cs => .agg cs

/-- Operations that lay a new block: the block, and the value that leads to it. -/
def stepN (c : Ctx) (op : Op) (ρ : Operand → PV) : Option (Blk × (Key → PV)) :=
  match op with
  | .alloc t => match zeroT c.P t with
    | some z => if elemOk z = true then some (.row z.length [elemOf z] false, fun k => .ptr k z.length 0 0) else none
    | none => none
  | .box _ x => if elemOk (ρ x).cells = true then some (.row (ρ x).cells.length [elemOf (ρ x).cells] false, fun k => .ptr k (ρ x).cells.length 0 0) else some (.row 1 [] false, fun k => .ptr k 1 0 0)
  | .makeSlice t l m => match elemT c.P t with
    | some e => match szT c.P e, byT c.P e, zeroT c.P e, ρ l, ρ m with
      | some n, some by_, some z, .int .i64 a, .int .i64 b => if a = b ∧ 0 ≤ a ∧ (by_ : Int) * a ≤ 281474976710656 ∧ a ≤ 281474976710656 ∧ elemOk z = true ∧ z.length = n then
          some (.row n (List.replicate a.toNat (elemOf z)) false, fun k => .ms k n 0 a.toNat) else none
      | _, _, _, _, _ => none
    | none => none
  | .makeMap t none => (keyT c.P t).map fun q => (.map q.1 [], fun k => .mapr k)
  | .range t x => match c.P.underlying t, ρ x with
    | some .string, .str s => some (.iter s 0, fun k => .ptr k 1 0 0)
    | _, _ => none
  | _ => none

inductive Cls where
  | p | r | n | c | w
  deriving DecidableEq

def clsOf (pol : Pol) (draw : Bool) (op : Op) : Cls :=
  match op with
  | .move _ | .assign _ | .pick .. | .build .. | .buildSlice .. | .fieldAddr .. | .field .. | .indexAddr .. | .index .. | .slice .. | .nilCheck _ | .binOp .. | .unOp ..
  | .makeFunc .. | .extract .. => .p
  | .load .. | .convert .. | .lookup .. => .r
  | .alloc _ | .box .. | .makeSlice .. | .makeMap .. | .range .. => .n
  | .call { callee := .builtin .len, .. } | .call { callee := .builtin .min, .. } | .call { callee := .builtin .max, .. } => .p
  | .call { callee := .value (.func f), .. } => match pol.mode f with
    | .inl => .w
    | _ => .c
  | .call { callee := .value _, .. } => if draw then .c else .w
  | _ => .w

/-- A call that leaves the heap as it is, but that rows may be frozen: what it hands back, the rows to freeze. -/
def stepC (c : Ctx) (O : Orc) (f : FuncId) (args : List PV) (H : Heap) : Option (PV × List Key) :=
  match drL H 12 args with
  | none => none
  | some (as, ks) => match c.pol.mode f with
    | .inl => none
    | .pure => (O.pure f as).map fun r => (r, if r.flat then [] else ks)

def byteV (b : UInt8) : PV := .int .u8 b.toNat

/-- The elements that an append or a copy takes over. -/
def srcV (H : Heap) (sz : Nat) : PV → Option (List PV)
  | .sl _ l => if allSz sz l then some l else none
  | .ms k z off len => match H.blk k with
    | some (.row y els _) => if z = sz ∧ y = sz then cut els off len else none
    | _ => none
  | .str s => if sz = 1 then some (s.data.toList.map byteV) else none
  | _ => none

/-- A type of what is appended: a slice or a string. -/
def srcT (P : Program) (t : TypeId) : Bool := (elemT P t).isSome || isStrT P t

def appendV (c : Ctx) (d : Nat) (t tx : TypeId) (s x : PV) (H : Heap) : Option (PV × Heap) :=
  match (elemT c.P t).bind (szT c.P), (elemT c.P t).bind (byT c.P) with
  | some sz, some by_ => if 0 < sz ∧ 0 < by_ ∧ srcT c.P tx = true then match srcV H sz x with
    | none => none
    | some src => if src.all (fun v => v.cells.all oneV) = true then
      match s with
      | .sl true [] => if src.length * by_ ≤ 2 ^ 47 then some (.ms (H.next c.path d) sz 0 src.length, H.alloc c.path d (.row sz src false)) else none
      | .ms k y off len => match H.blk k with
        | some (.row z els false) => if y = sz ∧ z = sz ∧ off = 0 ∧ len = els.length ∧ (len + src.length) * by_ ≤ 2 ^ 47 then
            some (.ms (H.next c.path d) sz 0 (len + src.length), (H.erase k).alloc c.path d (.row sz (els ++ src) false)) else none
        | _ => none
      | .sl true l => if PV.persL src = true ∧ allSz sz l = true ∧ (l.length + src.length) * by_ ≤ 2 ^ 47 then
            some (.sl false (l ++ src), H) else none
      | _ => none
      else none
    else none
  | _, _ => none

/-- Cells from j on replaced. -/
def putCells (cs : List PV) (j : Nat) (vs : List PV) : List PV := cs.take j ++ vs ++ cs.drop (j + vs.length)

def storeV (c : Ctx) (t : TypeId) (a v : PV) (H : Heap) : Option Heap :=
  match a with
  | .ptr k sz i j => match H.blk k, szT c.P t with
    | some (.row z els false), some n => if z = sz ∧ v.cells.length = n ∧ 0 < n ∧ v.cells.all oneV = true then match els[i]? with
        | some e => if j + n ≤ e.cells.length ∧ elemOk (putCells e.cells j v.cells) = true then some (H.set k (.row sz (els.set i (elemOf (putCells e.cells j v.cells))) false)) else none
        | none => none
      else none
    | _, _ => none
  | _ => none

/-- Operations that change the heap. -/
def stepW (c : Ctx) (O : Orc) (d : Option Nat) (op : Op) (ρ : Operand → PV) (H : Heap) : Option (PV × Heap) :=
  match op with
  | .store t a v => (storeV c t (ρ a) (ρ v) H).map fun H' => (.tup [], H')
  | .mapUpdate t m i v => match keyT c.P t, ρ m with
    | some (d, _), .mapr k => match H.blk k with
      | some (.map d' es) => if d = d' ∧ isKeyV d (ρ i) = true then some (.tup [], H.set k (.map d (updV es (ρ i) (ρ v)))) else none
      | _ => none
    | _, _ => none
  | .next it true => match ρ it with
    | .ptr k 1 0 0 => match H.blk k with
      | some (.iter s pos) => if pos < s.size then
          some (.tup [.bool true, .int .i64 pos, .int .i32 (Utf8.decode s pos).1], H.set k (.iter s (pos + (Utf8.decode s pos).2)))
        else some (.tup [.bool false], H)
      | _ => none
    | _ => none
  | .call { callee := .builtin .append, args, argTypes } => match args.toList, argTypes.toList, d with
    | [s, x], [t, tx], some d => appendV c d t tx (ρ s) (ρ x) H
    | _, _, _ => none
  | .call { callee := .value (.func f), args, .. } => match d with
    | some d => O.inl (c.path ++ [d]) f (args.toList.map ρ) H
    | none => O.inl (c.path ++ [1000000]) f (args.toList.map ρ) H
  | .call { callee := .value g, args, .. } => match ρ g with
    | .fn f first cap => match c.pol.mode f with
      | .inl => O.inl (c.path ++ [d.getD 1000000]) f (first ++ args.toList.map ρ ++ cap) H
      | _ => match stepC c O f (first ++ args.toList.map ρ ++ cap) H with
        | some (r, ks) => some (r, H.freeze ks)
        | none => none
    | _ => none
  | _ => none

def callee (op : Op) (ρ : Operand → PV) : Option (FuncId × List PV) :=
  match op with
  | .call { callee := .value g, args, .. } => match ρ g with
    | .fn f first cap => some (f, first ++ args.toList.map ρ ++ cap)
    | _ => none
  | _ => none

/-- What a step that is no writing one does to the heap. -/
inductive Eff where
  | keep
  | lay (d : Nat) (b : Blk)
  | frz (ks : List Key)

def Eff.app (p : List Nat) : Eff → Heap → Heap
  | .keep, H => H
  | .lay d b, H => H.alloc p d b
  | .frz ks, H => H.freeze ks

/-- A step that is no writing one. -/
def evEff (c : Ctx) (O : Orc) (draw : Bool) (o : Oper) (ρ : Operand → PV) (H : Heap) : Option (PV × Eff) :=
  match clsOf c.pol draw o.op with
  | .p | .r => (stepV c o.op ρ H).map fun v => (v, .keep)
  | .n => match o.dst with
    | some d => (stepN c o.op ρ).map fun r => (r.2 (H.next c.path d), .lay d r.1)
    | none => none
  | .c => match callee o.op ρ with
    | some (f, args) => (stepC c O f args H).map fun r => (r.1, .frz r.2)
    | none => none
  | .w => none

def evOp (c : Ctx) (O : Orc) (draw : Bool) (o : Oper) (st : St) : Option St :=
  match clsOf c.pol draw o.op with
  | .w => (stepW c O o.dst o.op (opv c.pol.glob st.tm) st.hp).map fun r => { tm := (st.put o.dst r.1).tm, hp := r.2 }
  | _ => (evEff c O draw o (opv c.pol.glob st.tm) st.hp).map fun r => { tm := (st.put o.dst r.1).tm, hp := r.2.app c.path st.hp }

def wantedV (ops : Array Oper) (o : Oper) (st : St) : Option Bool :=
  match o.guard with
  | none => some true
  | some (j, b) => match (ops[j]?).bind (·.dst) with
    | some d => match st.tm d with
      | .bool x => some (x == b)
      | .tup _ => some false
      | _ => none
    | none => none

/-- The operation at a place. -/
def evStep (c : Ctx) (O : Orc) (draw : Bool) (ops : Array Oper) (i : Nat) (st : St) : Option St :=
  match ops[i]? with
  | none => none
  | some o => match wantedV ops o st with
    | none => none
    | some true => evOp c O draw o st
    | some false => some (st.put o.dst (.tup []))

/-- Operations in the order of a list of places. -/
def evList (c : Ctx) (O : Orc) (draw : Bool) (ops : Array Oper) : List Nat → St → Option St
  | [], st => some st
  | i :: l, st => (evStep c O draw ops i st).bind (evList c O draw ops l)

inductive Ex where
  | normal
  | exit (id : Nat)
  | ret

/-- An operation that changes at most one row, in place. -/
def plainOp (pol : Pol) (o : Oper) : Bool :=
  match clsOf pol true o.op, o.op with
  | .p, _ | .r, _ => true
  | .w, .store .. => true
  | _, _ => false

/-- What a store writes to. -/
def touch (c : Ctx) (ops : Array Oper) (i : Nat) (st : St) : List Key :=
  match ops[i]? with
  | some o => match o.op with
    | .store _ a _ => match opv c.pol.glob st.tm a with
      | .ptr k _ _ _ => [k]
      | _ => []
    | _ => []
  | none => []

/-- As evList, with what is written to. -/
def evListT (c : Ctx) (O : Orc) (ops : Array Oper) : List Nat → St → Option (St × List Key)
  | [], st => some (st, [])
  | i :: l, st => match evStep c O true ops i st with
    | none => none
    | some st1 => match evListT c O ops l st1 with
      | none => none
      | some (st2, ks) => some (st2, touch c ops i st ++ ks)

def sameB (ops : Array Oper) (st st' : St) (ks : List Key) : Bool :=
  (ops.toList.filterMap (·.dst)).all (fun d => PV.beq (st.tm d) (st'.tm d)) && ks.all fun k => Blk.beq (st.hp.blk k) (st'.hp.blk k)

def evRegion (c : Ctx) (O : Orc) (id : Nat) (ops : Array Oper) (draw : Bool) (st : St) : Option St :=
  match draw, c.pol.reps c.fn id with
  | true, r :: rs => match evListT c O ops (List.range ops.size) st with
    | some (st0, ks) => if ops.toList.all (plainOp c.pol) && (r :: rs).all (fun l => match evListT c O ops l st with
        | some (st1, ks1) => sameB ops st0 st1 (ks ++ ks1)
        | none => false) then some st0 else none
    | none => none
  | d, _ => evList c O d ops (List.range ops.size) st

def evCode (c : Ctx) (O : Orc) : Nat → Code → St → Option (Ex × St)
  | 0, _, _ => none
  | _ + 1, .skip, st => some (.normal, st)
  | _ + 1, .region id ops draw, st => (evRegion c O id ops draw st).map fun st => (.normal, st)
  | n + 1, .seq a b, st => match evCode c O n a st with
    | some (.normal, st') => evCode c O n b st'
    | r => r
  | n + 1, .cond x a b, st => match opv c.pol.glob st.tm x with
    | .bool t => evCode c O n (if t then a else b) st
    | _ => none
  | n + 1, .block id a, st => match evCode c O n a st with
    | some (.exit j, st') => if j = id then some (.normal, st') else some (.exit j, st')
    | r => r
  | n + 1, .loop a, st => match evCode c O n a st with
    | some (.normal, st') => evCode c O n (.loop a) st'
    | r => r
  | _ + 1, .exit id, st => some (.exit id, st)
  | _ + 1, .ret, st => some (.ret, st)
  | _, _, _ => none

def resV (c : Ctx) (st : St) : ResultVar → Option PV
  | .tmp t => some (st.tm t)
  | .cell a t => loadV c.P st.hp t (st.tm a)

def resultsV (c : Ctx) (st : St) (rs : List ResultVar) : Option PV :=
  match rs with
  | [r] => resV c st r
  | rs => (rs.mapM (resV c st)).map .tup

def startSt (args : List PV) (H : Heap) : St := ⟨fun i => args.getD i (.tup []), H⟩

/-- A function's body: the result, and the heap. -/
def evBody (P : Program) (pol : Pol) (O : Orc) (n : Nat) (path : List Nat) (f : FuncId) (args : List PV) (H : Heap) : Option (PV × Heap) :=
  match P.funcs[f]? with
  | none => none
  | some fn => match fn.body with
    | none => none
    | some body => if args.length ≤ fn.ntmps ∧ pol.use f = true then match evCode ⟨P, pol, path, f⟩ O n body (startSt args H) with
      | some (.normal, st) | some (.ret, st) => (resultsV ⟨P, pol, path, f⟩ st fn.results.toList).map fun r => (r, st.hp)
      | _ => none
      else none

/-- A call at arguments without keys: on a heap of its own, of which the result takes what it needs. -/
def evPure (P : Program) (pol : Pol) (O : Orc) (n : Nat) (f : FuncId) (args : List PV) : Option PV :=
  if PV.persL args = true then
    match evBody P pol O n [] f args Heap.empty with
    | some (r, H) => (dr H 12 r).map (·.1)
    | none => none
  else none

def orc (P : Program) (pol : Pol) (prim : FuncId → List PV → Option PV) (primI : FuncId → List PV → Heap → Option (PV × Heap)) : Nat → Orc
  | 0 => ⟨prim, fun _ f args H => primI f args H⟩
  | n + 1 =>
    { pure := fun f args => match prim f args with
        | some r => some r
        | none => evPure P pol (orc P pol prim primI n) n f args
      inl := fun path f args H => match primI f args H with
        | some r => some r
        | none => evBody P pol (orc P pol prim primI n) n path f args H }
end Go.Proofs.YtigfgicjjhepoaaGreatDoor.VA
