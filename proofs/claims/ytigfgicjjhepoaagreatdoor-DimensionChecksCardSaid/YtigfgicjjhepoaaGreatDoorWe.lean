/- The evaluator along one way: at the operations that are named, the answers are told ahead; what was to be told is handed back. -/
import Derived.Test.YtigfgicjjhepoaaGreatDoorWd
set_option linter.unusedVariables false
set_option linter.unusedSimpArgs false
namespace Go.Proofs.YtigfgicjjhepoaaGreatDoor.VA
open Go

/-- What is told ahead: a bool that an operation hands back; the value that it hands back; whether a string's iterator goes on. -/
inductive Told where
  | bit (b : Bool)
  | val (v : PV)
  | res (xs : List PV) (ks : List Key) (v : PV)

inductive Way where
  | no | bit | val | next | call | res | pers

structure Tr where
  tr : List Told
  ob : Prop

def tell (fl : Way) (d : Option Nat) (st : St) (t : Tr) : St × Tr :=
  match fl, d, t.tr with
  | .bit, some d, .bit b :: l => match st.tm d with
    | .bool x => (st.put (some d) (.bool b), ⟨l, x = b ∧ t.ob⟩)
    | _ => (st, t)
  | _, _, _ => (st, t)

def dstAt (ops : Array Oper) (i : Nat) : Option Nat :=
  match ops[i]? with
  | some o => o.dst
  | none => none

def isPR (pol : Pol) (draw : Bool) (op : Op) : Bool :=
  match clsOf pol draw op with
  | .p | .r => true
  | _ => false

/-- The value is given. -/
def giveV (c : Ctx) (draw : Bool) (ops : Array Oper) (i : Nat) (st : St) (v : PV) (l : List Told) (ob : Prop) : Option (St × Tr) :=
  match ops[i]? with
  | none => none
  | some o => if isPR c.pol draw o.op = true then some (st.put o.dst v, ⟨l, stepV c o.op (opv c.pol.glob st.tm) st.hp = some v ∧ ob⟩) else none

/-- Whether a string's iterator goes on. -/
def giveN (c : Ctx) (ops : Array Oper) (i : Nat) (st : St) (b : Bool) (l : List Told) (ob : Prop) : Option (St × Tr) :=
  match ops[i]? with
  | none => none
  | some o => match o.op with
    | .next it true => match opv c.pol.glob st.tm it with
      | .ptr k 1 0 0 => match st.hp.blk k with
        | some (.iter s pos) => if b then
            some ({ tm := (st.put o.dst (.tup [.bool true, .int .i64 pos, .int .i32 (Utf8.decode s pos).1])).tm, hp := st.hp.set k (.iter s (pos + (Utf8.decode s pos).2)) }, ⟨l, pos < s.size ∧ ob⟩)
          else some (st.put o.dst (.tup [.bool false]), ⟨l, ¬ pos < s.size ∧ ob⟩)
        | _ => none
      | _ => none
    | _ => none

/-- What a call hands back is given. -/
def giveC (c : Ctx) (O : Orc) (draw : Bool) (ops : Array Oper) (i : Nat) (st : St) (v : PV) (l : List Told) (ob : Prop) : Option (St × Tr) :=
  match ops[i]? with
  | none => none
  | some o => match callee o.op (opv c.pol.glob st.tm) with
    | none => none
    | some (f, args) => match c.pol.mode f, drL st.hp 12 args with
      | .pure, some (xs, ks) => some ({ tm := (st.put o.dst v).tm, hp := st.hp.freeze (if v.flat then [] else ks) }, ⟨l, O.pure f xs = some v ∧ ob⟩)
      | _, _ => none

/-- What a call hands back is given, and what its arguments read as. -/
def giveR (c : Ctx) (O : Orc) (ops : Array Oper) (i : Nat) (st : St) (xs : List PV) (ks : List Key) (v : PV) (l : List Told) (ob : Prop) : Option (St × Tr) :=
  match ops[i]? with
  | none => none
  | some o => match callee o.op (opv c.pol.glob st.tm) with
    | none => none
    | some (f, args) => match c.pol.mode f with
      | .pure => some ({ tm := (st.put o.dst v).tm, hp := st.hp.freeze (if v.flat then [] else ks) }, ⟨l, drL st.hp 12 args = some (xs, ks) ∧ O.pure f xs = some v ∧ ob⟩)
      | _ => none

/-- What a call hands back is given; its arguments are without keys. -/
def giveP (c : Ctx) (O : Orc) (ops : Array Oper) (i : Nat) (st : St) (v : PV) (l : List Told) (ob : Prop) : Option (St × Tr) :=
  match ops[i]? with
  | none => none
  | some o => match callee o.op (opv c.pol.glob st.tm) with
    | none => none
    | some (f, args) => match c.pol.mode f with
      | .pure => some ({ tm := (st.put o.dst v).tm, hp := st.hp.freeze [] }, ⟨l, PV.persL args = true ∧ O.pure f args = some v ∧ ob⟩)
      | _ => none

def wantAt (ops : Array Oper) (i : Nat) (st : St) : Option Bool :=
  match ops[i]? with
  | none => none
  | some o => wantedV ops o st

def evXStep (c : Ctx) (O : Orc) (fl : Way) (draw : Bool) (ops : Array Oper) (i : Nat) (st : St) (t : Tr) : Option (St × Tr) :=
  match fl, t.tr, wantAt ops i st with
  | .val, .val v :: l, some true => giveV c draw ops i st v l t.ob
  | .next, .bit b :: l, some true => giveN c ops i st b l t.ob
  | .call, .val v :: l, some true => giveC c O draw ops i st v l t.ob
  | .res, .res xs ks v :: l, some true => giveR c O ops i st xs ks v l t.ob
  | .pers, .val v :: l, some true => giveP c O ops i st v l t.ob
  | _, _, _ => match evStep c O draw ops i st with
    | none => none
    | some st1 => some (tell fl (dstAt ops i) st1 t)

def evXList (c : Ctx) (O : Orc) (fl : Nat → Way) (draw : Bool) (ops : Array Oper) : List Nat → St → Tr → Option (St × Tr)
  | [], st, t => some (st, t)
  | i :: l, st, t => match evXStep c O (fl i) draw ops i st t with
    | none => none
    | some r => evXList c O fl draw ops l r.1 r.2

def evXRegion (c : Ctx) (O : Orc) (fl : Nat → Nat → Way) (id : Nat) (ops : Array Oper) (draw : Bool) (st : St) (t : Tr) : Option (St × Tr) :=
  match draw, c.pol.reps c.fn id with
  | true, _ :: _ => none
  | d, _ => evXList c O (fl id) d ops (List.range ops.size) st t

def evXCode (c : Ctx) (O : Orc) (fl : Nat → Nat → Way) : Nat → Code → St → Tr → Option (Ex × St × Tr)
  | 0, _, _, _ => none
  | _ + 1, .skip, st, t => some (.normal, st, t)
  | _ + 1, .region id ops draw, st, t => (evXRegion c O fl id ops draw st t).map fun r => (.normal, r.1, r.2)
  | n + 1, .seq a b, st, t => match evXCode c O fl n a st t with
    | some (.normal, st', t') => evXCode c O fl n b st' t'
    | r => r
  | n + 1, .cond x a b, st, t => match opv c.pol.glob st.tm x with
    | .bool z => evXCode c O fl n (if z then a else b) st t
    | _ => none
  | n + 1, .block id a, st, t => match evXCode c O fl n a st t with
    | some (.exit j, st', t') => if j = id then some (.normal, st', t') else some (.exit j, st', t')
    | r => r
  | n + 1, .loop a, st, t => match evXCode c O fl n a st t with
    | some (.normal, st', t') => evXCode c O fl n (.loop a) st' t'
    | r => r
  | _ + 1, .exit id, st, t => some (.exit id, st, t)
  | _ + 1, .ret, st, t => some (.ret, st, t)
  | _, _, _, _ => none

def evXBody (P : Program) (pol : Pol) (O : Orc) (fl : Nat → Nat → Way) (n : Nat) (path : List Nat) (f : FuncId) (args : List PV) (H : Heap) (t : Tr) : Option (PV × Heap × Tr) :=
  match P.funcs[f]? with
  | none => none
  | some fn => match fn.body with
    | none => none
    | some body => if args.length ≤ fn.ntmps ∧ pol.use f = true then match evXCode ⟨P, pol, path, f⟩ O fl n body (startSt args H) t with
      | some (.normal, st, t') | some (.ret, st, t') => (resultsV ⟨P, pol, path, f⟩ st fn.results.toList).map fun r => (r, st.hp, t')
      | _ => none
      else none

def evXPure (P : Program) (pol : Pol) (O : Orc) (fl : Nat → Nat → Way) (n : Nat) (f : FuncId) (args : List PV) (tr : List Told) : Option (PV × Prop) :=
  if PV.persL args = true then
    match evXBody P pol O fl n [] f args Heap.empty ⟨tr, True⟩ with
    | some (r, H, t) => (dr H 12 r).map fun x => (x.1, t.ob)
    | none => none
  else none

variable {c : Ctx} {O : Orc} {P : Program} {pol : Pol}

theorem tell_ok {fl : Way} {d : Option Nat} {st st' : St} {t t' : Tr} (h : tell fl d st t = (st', t')) (ho : t'.ob) : st' = st ∧ t.ob := by
  unfold tell at h
  split at h
  · rename_i d b l htr
    split at h
    · rename_i x hx
      simp only [Prod.mk.injEq] at h
      obtain ⟨rfl, rfl⟩ := h
      obtain ⟨rfl, ho⟩ := ho
      refine ⟨?_, ho⟩
      obtain ⟨tm, hp⟩ := st
      simp only [St.put]
      congr 1
      funext i
      split
      · rename_i e; subst e; exact hx.symm
      · rfl
    · simp only [Prod.mk.injEq] at h
      obtain ⟨rfl, rfl⟩ := h
      exact ⟨rfl, ho⟩
  · simp only [Prod.mk.injEq] at h
    obtain ⟨rfl, rfl⟩ := h
    exact ⟨rfl, ho⟩

theorem call_step {draw : Bool} {ops : Array Oper} {i : Nat} {st : St} {o : Oper} {f : FuncId} {args : List PV} {v : PV} {ks : List Key} (hi : ops[i]? = some o) (hw : wantedV ops o st = some true) (hca : callee o.op (opv c.pol.glob st.tm) = some (f, args))
    (hm : c.pol.mode f = .pure) (hsc : stepC c O f args st.hp = some (v, if v.flat then [] else ks)) :
    evStep c O draw ops i st = some { tm := (st.put o.dst v).tm, hp := st.hp.freeze (if v.flat then [] else ks) } := by
  unfold evStep
  simp only [hi, hw]
  unfold evOp
  obtain ⟨dst, op, ty, pos, after, guard⟩ := o
  dsimp only at *
  cases op with
  | call k =>
    obtain ⟨cal, as', ats⟩ := k
    cases cal with
    | builtin b => simp [callee] at hca
    | invoke r n => simp [callee] at hca
    | value g =>
      have hc0 := hca
      simp only [callee] at hca
      split at hca
      rotate_left
      · cases hca
      rename_i f' first cap hg
      simp only [Option.some.injEq, Prod.mk.injEq] at hca
      obtain ⟨rfl, rfl⟩ := hca
      have hC : ∀ d, evEff c O d ⟨dst, .call ⟨.value g, as', ats⟩, ty, pos, after, guard⟩ (opv c.pol.glob st.tm) st.hp = (if clsOf c.pol d (.call ⟨.value g, as', ats⟩) = .c then some (v, .frz (if v.flat then [] else ks)) else evEff c O d ⟨dst, .call ⟨.value g, as', ats⟩, ty, pos, after, guard⟩ (opv c.pol.glob st.tm) st.hp) := fun d => by
        split
        · rename_i e
          unfold evEff
          simp only [e, hc0, hsc, Option.map_some]
        · rfl
      cases g with
      | func f0 =>
        simp only [opv, PV.fn.injEq] at hg
        obtain ⟨rfl, _, _⟩ := hg
        have hcl : clsOf c.pol draw (.call ⟨.value (.func f0), as', ats⟩) = .c := by simp only [clsOf, hm]
        simp only [hcl]
        rw [hC draw, if_pos hcl]
        rfl
      | _ =>
        cases draw with
        | true =>
          rw [hC true]
          rfl
        | false =>
          show (stepW c O dst _ (opv c.pol.glob st.tm) st.hp).map _ = _
          simp only [stepW, hg, hm, hsc, Option.map_some]
  | _ => simp [callee] at hca

theorem evXStep_ok {fl : Way} {draw : Bool} {ops : Array Oper} {i : Nat} {st st' : St} {t t' : Tr} (h : evXStep c O fl draw ops i st t = some (st', t')) (ho : t'.ob) : evStep c O draw ops i st = some st' ∧ t.ob := by
  unfold evXStep at h
  split at h
  · rename_i v l htr hw
    unfold wantAt at hw
    unfold giveV at h
    split at h
    · cases h
    rename_i o hi
    simp only [hi] at hw
    split at h
    rotate_left
    · cases h
    rename_i hpr
    simp only [Option.some.injEq, Prod.mk.injEq] at h
    obtain ⟨rfl, rfl⟩ := h
    obtain ⟨h1, h2⟩ := ho
    refine ⟨?_, h2⟩
    unfold evStep
    simp only [hi, hw]
    unfold isPR at hpr
    unfold evOp
    split at hpr
    · rename_i e
      simp only [e, evEff, h1, Option.map_some, Eff.app]
      cases o.dst <;> rfl
    · rename_i e
      simp only [e, evEff, h1, Option.map_some, Eff.app]
      cases o.dst <;> rfl
    · cases hpr
  · rename_i b l htr hw
    unfold wantAt at hw
    unfold giveN at h
    split at h
    · cases h
    rename_i o hi
    simp only [hi] at hw
    split at h
    rotate_left
    · cases h
    rename_i it hop
    split at h
    rotate_left
    · cases h
    rename_i k hk
    split at h
    rotate_left
    · cases h
    rename_i s pos hb
    have hcl : clsOf c.pol draw o.op = .w := by rw [hop]; rfl
    unfold evStep
    simp only [hi, hw]
    unfold evOp
    simp only [hcl, hop, stepW, hk, hb]
    split at h
    · simp only [Option.some.injEq, Prod.mk.injEq] at h
      obtain ⟨rfl, rfl⟩ := h
      obtain ⟨h1, h2⟩ := ho
      refine ⟨?_, h2⟩
      rw [if_pos h1]
      rfl
    · simp only [Option.some.injEq, Prod.mk.injEq] at h
      obtain ⟨rfl, rfl⟩ := h
      obtain ⟨h1, h2⟩ := ho
      refine ⟨?_, h2⟩
      rw [if_neg h1]
      simp only [Option.map_some]
      cases o.dst <;> rfl
  · rename_i v l htr hw
    unfold wantAt at hw
    unfold giveC at h
    split at h
    · cases h
    rename_i o hi
    simp only [hi] at hw
    split at h
    · cases h
    rename_i f args hca
    split at h
    rotate_left
    · cases h
    rename_i xs ks hm hd
    simp only [Option.some.injEq, Prod.mk.injEq] at h
    obtain ⟨rfl, rfl⟩ := h
    obtain ⟨h1, h2⟩ := ho
    refine ⟨?_, h2⟩
    have hsc : stepC c O f args st.hp = some (v, if v.flat then [] else ks) := by
      unfold stepC
      simp only [hd, hm, h1, Option.map_some]
    exact call_step hi hw hca hm hsc
  · rename_i xs ks v l htr hw
    unfold wantAt at hw
    unfold giveR at h
    split at h
    · cases h
    rename_i o hi
    simp only [hi] at hw
    split at h
    · cases h
    rename_i f args hca
    split at h
    rotate_left
    · cases h
    rename_i hm
    simp only [Option.some.injEq, Prod.mk.injEq] at h
    obtain ⟨rfl, rfl⟩ := h
    obtain ⟨hd, h1, h2⟩ := ho
    refine ⟨?_, h2⟩
    have hsc : stepC c O f args st.hp = some (v, if v.flat then [] else ks) := by
      unfold stepC
      simp only [hd, hm, h1, Option.map_some]
    exact call_step hi hw hca hm hsc
  · rename_i v l htr hw
    unfold wantAt at hw
    unfold giveP at h
    split at h
    · cases h
    rename_i o hi
    simp only [hi] at hw
    split at h
    · cases h
    rename_i f args hca
    split at h
    rotate_left
    · cases h
    rename_i hm
    simp only [Option.some.injEq, Prod.mk.injEq] at h
    obtain ⟨rfl, rfl⟩ := h
    obtain ⟨hp, h1, h2⟩ := ho
    refine ⟨?_, h2⟩
    have hd : drL st.hp 12 args = some (args, []) := by unfold drL; rw [if_pos hp]
    have hsc : stepC c O f args st.hp = some (v, if v.flat then [] else []) := by
      unfold stepC
      simp only [hd, hm, h1, Option.map_some]
    have := call_step (draw := draw) hi hw hca hm hsc
    simpa using this
  · split at h
    · cases h
    rename_i st1 h1
    simp only [Option.some.injEq] at h
    obtain ⟨e, h2⟩ := tell_ok h ho
    exact ⟨by rw [h1, e], h2⟩

theorem evXList_ok {fl : Nat → Way} {draw : Bool} {ops : Array Oper} : ∀ (l : List Nat) {st st' : St} {t t' : Tr}, evXList c O fl draw ops l st t = some (st', t') → t'.ob → evList c O draw ops l st = some st' ∧ t.ob
  | [], st, st', t, t', h, ho => by
    simp only [evXList, Option.some.injEq, Prod.mk.injEq] at h
    obtain ⟨rfl, rfl⟩ := h
    exact ⟨rfl, ho⟩
  | i :: l, st, st', t, t', h, ho => by
    simp only [evXList] at h
    split at h
    · cases h
    rename_i r h1
    obtain ⟨g1, g2⟩ := evXList_ok l h ho
    obtain ⟨g3, g4⟩ := evXStep_ok (st' := r.1) (t' := r.2) h1 g2
    exact ⟨by simp only [evList, g3, Option.bind_some]; exact g1, g4⟩

theorem evXRegion_ok {fl : Nat → Nat → Way} {id : Nat} {ops : Array Oper} {draw : Bool} {st st' : St} {t t' : Tr} (h : evXRegion c O fl id ops draw st t = some (st', t')) (ho : t'.ob) : evRegion c O id ops draw st = some st' ∧ t.ob := by
  unfold evXRegion at h
  split at h
  · cases h
  · rename_i d r hne
    obtain ⟨g1, g2⟩ := evXList_ok _ h ho
    refine ⟨?_, g2⟩
    unfold evRegion
    split
    · rename_i x xs hr
      exact absurd hr (hne _ _ rfl)
    · exact g1

theorem evXCode_ok {fl : Nat → Nat → Way} : ∀ (n : Nat) (code : Code) {st st' : St} {t t' : Tr} {ex : Ex}, evXCode c O fl n code st t = some (ex, st', t') → t'.ob → evCode c O n code st = some (ex, st') ∧ t.ob := by
  intro n
  induction n with
  | zero => intro code st st' t t' ex h; simp [evXCode] at h
  | succ n ih =>
    intro code st st' t t' ex h ho
    cases code with
    | skip =>
      simp only [evXCode, Option.some.injEq, Prod.mk.injEq] at h
      obtain ⟨rfl, rfl, rfl⟩ := h
      exact ⟨rfl, ho⟩
    | region id ops draw =>
      simp only [evXCode, Option.map_eq_some_iff, Prod.mk.injEq] at h
      obtain ⟨⟨s1, t1⟩, h1, rfl, rfl, rfl⟩ := h
      obtain ⟨g1, g2⟩ := evXRegion_ok h1 ho
      exact ⟨by simp only [evCode, g1, Option.map_some], g2⟩
    | seq a b =>
      simp only [evXCode] at h
      split at h
      · rename_i s1 t1 h1
        obtain ⟨g1, g2⟩ := ih b h ho
        obtain ⟨g3, g4⟩ := ih a h1 g2
        exact ⟨by simp only [evCode, g3]; exact g1, g4⟩
      · rename_i hne
        obtain ⟨g1, g2⟩ := ih a h ho
        refine ⟨?_, g2⟩
        simp only [evCode, g1]
        cases ex with
        | normal => exact absurd h (hne st' t')
        | exit id => rfl
        | ret => rfl
    | cond x a b =>
      simp only [evXCode] at h
      split at h
      · rename_i z hz
        obtain ⟨g1, g2⟩ := ih _ h ho
        exact ⟨by simp only [evCode, hz]; exact g1, g2⟩
      · cases h
    | block id a =>
      simp only [evXCode] at h
      split at h
      · rename_i j s1 t1 h1
        split at h
        · rename_i e
          simp only [Option.some.injEq, Prod.mk.injEq] at h
          obtain ⟨rfl, rfl, rfl⟩ := h
          obtain ⟨g1, g2⟩ := ih a h1 ho
          exact ⟨by simp only [evCode, g1, if_pos e], g2⟩
        · rename_i e
          simp only [Option.some.injEq, Prod.mk.injEq] at h
          obtain ⟨rfl, rfl, rfl⟩ := h
          obtain ⟨g1, g2⟩ := ih a h1 ho
          exact ⟨by simp only [evCode, g1, if_neg e], g2⟩
      · rename_i hne
        obtain ⟨g1, g2⟩ := ih a h ho
        refine ⟨?_, g2⟩
        simp only [evCode, g1]
        cases ex with
        | normal => rfl
        | exit id => exact absurd h (hne id st' t')
        | ret => rfl
    | loop a =>
      simp only [evXCode] at h
      split at h
      · rename_i s1 t1 h1
        obtain ⟨g1, g2⟩ := ih _ h ho
        obtain ⟨g3, g4⟩ := ih a h1 g2
        exact ⟨by simp only [evCode, g3]; exact g1, g4⟩
      · rename_i hne
        obtain ⟨g1, g2⟩ := ih a h ho
        refine ⟨?_, g2⟩
        simp only [evCode, g1]
        cases ex with
        | normal => exact absurd h (hne st' t')
        | exit id => rfl
        | ret => rfl
    | exit id =>
      simp only [evXCode, Option.some.injEq, Prod.mk.injEq] at h
      obtain ⟨rfl, rfl, rfl⟩ := h
      exact ⟨rfl, ho⟩
    | ret =>
      simp only [evXCode, Option.some.injEq, Prod.mk.injEq] at h
      obtain ⟨rfl, rfl, rfl⟩ := h
      exact ⟨rfl, ho⟩
    | _ => simp [evXCode] at h

theorem evXBody_ok {fl : Nat → Nat → Way} {n : Nat} {path : List Nat} {f : FuncId} {args : List PV} {H H' : Heap} {t t' : Tr} {r : PV} (h : evXBody P pol O fl n path f args H t = some (r, H', t')) (ho : t'.ob) : evBody P pol O n path f args H = some (r, H') := by
  unfold evXBody at h
  split at h
  · cases h
  rename_i fn hf
  split at h
  · cases h
  rename_i body hb
  split at h
  rotate_left
  · cases h
  rename_i hc
  unfold evBody
  simp only [hf, hb, if_pos hc]
  split at h
  · rename_i st t1 he
    simp only [Option.map_eq_some_iff, Prod.mk.injEq] at h
    obtain ⟨x, hx, rfl, rfl, rfl⟩ := h
    simp only [(evXCode_ok n body he ho).1, hx, Option.map_some]
  · rename_i st t1 he
    simp only [Option.map_eq_some_iff, Prod.mk.injEq] at h
    obtain ⟨x, hx, rfl, rfl, rfl⟩ := h
    simp only [(evXCode_ok n body he ho).1, hx, Option.map_some]
  · cases h

theorem evXPure_ok {fl : Nat → Nat → Way} {n : Nat} {f : FuncId} {args : List PV} {tr : List Told} {r : PV} {ob : Prop} (h : evXPure P pol O fl n f args tr = some (r, ob)) (ho : ob) : evPure P pol O n f args = some r := by
  unfold evXPure at h
  split at h
  rotate_left
  · cases h
  rename_i hp
  split at h
  rotate_left
  · cases h
  rename_i x H t hb
  simp only [Option.map_eq_some_iff, Prod.mk.injEq] at h
  obtain ⟨y, hy, rfl, rfl⟩ := h
  unfold evPure
  simp only [if_pos hp, evXBody_ok hb ho, hy, Option.map_some]

/-- A function of which nothing was known. -/
theorem orc_pure {prim : FuncId → List PV → Option PV} {primI : FuncId → List PV → Heap → Option (PV × Heap)} {n : Nat} {f : FuncId} {args : List PV} {r : PV} (hn : prim f args = none) (h : evPure P pol (orc P pol prim primI n) n f args = some r) :
    (orc P pol prim primI (n + 1)).pure f args = some r := by
  simp only [orc, hn, h]
end Go.Proofs.YtigfgicjjhepoaaGreatDoor.VA
