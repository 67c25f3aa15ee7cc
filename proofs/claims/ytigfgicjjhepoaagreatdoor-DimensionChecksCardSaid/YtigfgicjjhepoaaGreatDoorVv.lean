/- A step of the evaluator is one of the machine's. -/
import Derived.Test.YtigfgicjjhepoaaGreatDoorVu
import Derived.CallsIn
set_option linter.unusedVariables false
set_option linter.unusedSimpArgs false
namespace Go.Proofs.YtigfgicjjhepoaaGreatDoor.VA
open Go Go.RowKit

/-- What f does at arguments: the same word for a function with a body and for one of the model's own. -/
def Does (P : Program) (f : FuncId) (vs : Array Value) (w : World) (R : Value → World → Prop) : Prop :=
  (∃ fn c, P.funcs[f]? = some fn ∧ fn.body = some c ∧ (fn.name == "runtime.NumGoroutine") = false ∧ Calls P f vs w (fun e w' => ∃ v, e = .returned v ∧ R v w')) ∨
    ∃ v w', (callFunc f vs).run P w = .ok (.value v) w' ∧ R v w'

/-- The package's variables are as they were laid. -/
def GOk (pol : Pol) (ng : Nat) (w : World) : Prop := ∀ x, (pol.glob x).pers = true ∧ Rep w (fun _ => none) (fun b => ng ≤ b) (pol.glob x) (.pointer (some ⟨x, 0, none⟩))

structure OrcOk (P : Program) (pol : Pol) (O : Orc) : Prop where
  pure : ∀ f args r, O.pure f args = some r → ∀ (ng : Nat) (w : World) (M : Nat → Prop) (vs : Array Value), GOk pol ng w → ng ≤ w.heap.size → (∀ b, M b → b < w.heap.size ∧ ng ≤ b) → Reps w (fun _ => none) M args vs.toList →
    Does P f vs w (fun v w' => Below w.heap.size w w' ∧ Rep w' (fun _ => none) M r v)
  inl : ∀ path f args H r H', O.inl path f args H = some (r, H') → ∀ (ng base : Nat) (Ext : Nat → Prop) (ρ : Key → Option Nat) (w : World) (vs : Array Value), GOk pol ng w → HRel ng base Ext ρ H w → Reps w ρ (Mut Ext ρ H) args vs.toList →
    Does P f vs w (fun v w' => ∃ ρ', Stepd ng base Ext ρ H w w' ρ' H' ∧ Rep w' ρ' (Mut Ext ρ' H') r v)

/-- A fence that keeps nothing out, in a round or in none. -/
def Fr (ro : Option Nat) : Fence := { Fence.wide with round := ro }

theorem calls_fr {ro : Option Nat} {n : Nat} {P : Program} {f : FuncId} {args : Array Value} {w : World} {R : Ending → World → Prop} (h : Calls P f args w R) : CallsIn (Fr ro) n P f args w R :=
  ⟨trivial, fun cs _ => let ⟨e, w', fr, r, s, x⟩ := h cs; ⟨e, w', fr, r, comesIn_wide.2 s, x⟩⟩

section
variable {ng base nt : Nat} {w0 : World} {Ext : Nat → Prop} {D : List Deferred} {ρ : Key → Option Nat} {st : St} {a : Act} {w w' : World} {H : Heap} {pol : Pol} {P : Program}

theorem mut_ng (h : HRel ng base Ext ρ H w) {b : Nat} (hm : Mut Ext ρ H b) : b < w.heap.size ∧ ng ≤ b := by
  rcases hm with hm | ⟨k, sz, els, _, hk⟩
  · have := (h.ext b hm); have := h.size; omega
  · have := h.dom k b hk; have := h.ngb; omega

theorem GOk.below (h : GOk pol ng w) (hb : ng ≤ base) (B : Below base w w') : GOk pol ng w' := fun x => by
  obtain ⟨h1, h2⟩ := h x
  refine ⟨h1, ?_⟩
  -- nothing of the room counts here: no key is bound
  have key : ∀ {x : PV} {v : Value}, Rep w (fun _ => none) (fun b => ng ≤ b) x v → Rep w' (fun _ => none) (fun b => ng ≤ b) x v := by
    intro x v h
    induction h with
    | bool b => exact .bool b
    | int k n => exact .int k n
    | str s => exact .str s
    | agg l cs hl h ih => exact .agg l cs hl ih
    | tup l cs hl h ih => exact .tup l cs hl ih
    | sl0 f a c hf => exact .sl0 f a c hf
    | sl f l b o c sz val hc hf hsz hpos hM h1 h2 ih => exact .sl f l b o c sz val hc hf hsz hpos hM (fun i v j x hi hj => (B.cell (show b < base by omega)).trans (h1 i v j x hi hj)) ih
    | ms0 k sz off a => exact .ms0 k sz off a
    | ms k sz off len b c hk hc hr => cases hk
    | ptr k sz i j b hk => cases hk
    | pp l off b o val hb hM h1 h2 ih => exact .pp l off b o val (Nat.lt_of_lt_of_le hb B.size) hM (fun j x hj => (B.cell (show b < base by omega)).trans (h1 j x hj)) ih
    | nilp => exact .nilp
    | fn f x y a b hx hy h1 h2 ih1 ih2 => exact .fn f x y a b hx hy ih1 ih2
    | nilfn => exact .nilfn
    | mapr k b hk => cases hk
    | nilm => exact .nilm
    | nilif => exact .nilif
    | yld k b hk => cases hk
    | junk v => exact .junk v
  exact key h2

theorem Rep.flat {M M' : Nat → Prop} {ρ' : Key → Option Nat} {x : PV} {v : Value} (h : Rep w ρ M x v) : x.flat = true → Rep w' ρ' M' x v := by
  have lst : ∀ {l : List PV}, PV.flatL l = true → ∀ (i : Nat) (c : PV), l[i]? = some c → c.flat = true := by
    intro l
    induction l with
    | nil => intro _ i c hc; simp at hc
    | cons x l ih =>
      intro hl i c hc
      simp only [PV.flatL, Bool.and_eq_true] at hl
      rcases i with _ | i
      · simp only [List.getElem?_cons_zero, Option.some.injEq] at hc; subst hc; exact hl.1
      · exact ih hl.2 i c (by simpa using hc)
  induction h with
  | bool b => exact fun _ => .bool b
  | int k n => exact fun _ => .int k n
  | str s => exact fun _ => .str s
  | agg l cs hl h ih => exact fun hp => .agg l cs hl (fun i c v hc hv => ih i c v hc hv (lst (by simpa [PV.flat] using hp) i c hc))
  | tup l cs hl h ih => exact fun hp => .tup l cs hl (fun i c v hc hv => ih i c v hc hv (lst (by simpa [PV.flat] using hp) i c hc))
  | sl0 f a c hf => exact fun _ => .sl0 f a c hf
  | sl f l b o c sz val hc hf hsz hpos hM h1 h2 ih =>
    intro hp
    cases l with
    | nil => exact .sl0 f _ c (fun h => by simpa using hf h)
    | cons x l => simp [PV.flat] at hp
  | nilp => exact fun _ => .nilp
  | nilfn => exact fun _ => .nilfn
  | nilm => exact fun _ => .nilm
  | nilif => exact fun _ => .nilif
  | _ => intro hp; simp [PV.flat] at hp

/-- A value is what its operand says. -/
theorem Rel.eval {c : Ctx} (hG : GOk c.pol ng w0) (h : Rel ng base nt w0 Ext D ρ st a w) (y : Operand) : Rep w ρ (Mut Ext ρ st.hp) (opv c.pol.glob st.tm y) (a.eval y) := by
  cases y with
  | tmp t => exact h.tmps t
  | const v => exact rep_ofVal 8 v
  | global x =>
    have hg := hG.below h.heap.ngb h.below x
    exact hg.2.pers (fun b hm => (mut_ng h.heap hm).2) hg.1
  | func f => exact .fn f [] [] #[] #[] rfl rfl (fun i c v h => by simp at h) (fun i c v h => by simp at h)

theorem upon_does {ro : Option Nat} {n : Nat} {o : Oper} {next : Act → World → Prop} {Q : Exit → Act → World → Prop} {f : FuncId} {vs : Array Value} {R : Value → World → Prop} (h : Does P f vs w R) (hn : ∀ v w', R v w' → next (a.put o.dst v) w') :
    o.uponIn (Fr ro) n P a next Q ((callFunc f vs).run P w) := by
  rcases h with ⟨fn, c, hf, hb, hname, hc⟩ | ⟨v, w', hr, hR⟩
  · have hrun : (callFunc f vs).run P w = .ok (.enter f vs) w := by
      have h1 : fn.name ≠ "runtime.NumGoroutine" := by simpa using hname
      simp [callFunc, hf, h1, hb]
    rw [hrun, Oper.uponIn_enter]
    refine ⟨fun h => by simp [Fr, Fence.wide] at h, (calls_fr hc).mono ?_⟩
    rintro e w' ⟨v, rfl, hR⟩
    exact hn v w' hR
  · rw [hr, Oper.uponIn_value]
    exact hn v w' hR
end
end Go.Proofs.YtigfgicjjhepoaaGreatDoor.VA
