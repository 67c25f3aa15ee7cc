/- All operations that make a value. -/
import Derived.Test.YtigfgicjjhepoaaGreatDoorVk
set_option linter.unusedVariables false
set_option linter.unusedSimpArgs false
namespace Go.Proofs.YtigfgicjjhepoaaGreatDoor.VA
open Go Go.RowKit
section
variable {w : World} {ρ ρ' : Key → Option Nat} {M M' : Nat → Prop} {P : Program} {pol : Pol}

def descOf : Option IntKind → TypeDesc
  | some k => .int k
  | none => .string

theorem keyT_inv {t : TypeId} {d : Option IntKind} {e : TypeId} (h : keyT P t = some (d, e)) : ∃ kt, P.underlying t = some (.map kt e) ∧ P.underlying kt = some (descOf d) := by
  unfold keyT at h
  split at h
  · rename_i kt e' hu
    split at h
    · rename_i k hk
      simp only [Option.some.injEq, Prod.mk.injEq] at h
      obtain ⟨rfl, rfl⟩ := h
      exact ⟨kt, hu, hk⟩
    · rename_i hk
      simp only [Option.some.injEq, Prod.mk.injEq] at h
      obtain ⟨rfl, rfl⟩ := h
      exact ⟨kt, hu, hk⟩
    · cases h
  · cases h

theorem key_isKey {d : Option IntKind} {x : PV} {v : Value} (h : isKeyV d x = true) (hr : Rep w ρ M x v) : MapKept.IsKey (descOf d) v := by
  cases d with
  | none => cases x <;> simp [isKeyV] at h; cases hr; trivial
  | some k => cases x <;> simp [isKeyV] at h; cases hr; exact h

theorem sameNow_eqS {d : Option IntKind} {x y : PV} {v u : Value} (hx : isKeyV d x = true) (hy : isKeyV d y = true) (hv : Rep w ρ M x v) (hu : Rep w ρ M y u) : Instr.sameNow (descOf d) v u = some (eqS x y) := by
  cases d with
  | none =>
    cases x <;> simp [isKeyV] at hx; cases y <;> simp [isKeyV] at hy
    cases hv; cases hu
    simp [descOf, Instr.sameNow, eqS]
    rw [Bool.eq_iff_iff, MapKept.bytes_beq]; simp
  | some k =>
    cases x <;> simp [isKeyV] at hx; cases y <;> simp [isKeyV] at hy
    cases hv; cases hu
    subst hx hy
    simp [descOf, Instr.sameNow, eqS]
    rw [Bool.eq_iff_iff]; simp

/-- The machine's search finds what the evaluator's does. -/
theorem findNow_pos {d : Option IntKind} {i : PV} {vi : Value} (hi : isKeyV d i = true) (hvi : Rep w ρ M i vi) : ∀ (es : List (PV × PV)) (l : List MapEntry) (n : Nat), l.length = es.length →
    (∀ (j : Nat) (k v : PV) (e : MapEntry), es[j]? = some (k, v) → l[j]? = some e → Rep w ρ M k e.key ∧ isKeyV d k = true) →
    Instr.findNow (descOf d) vi l n = some ((posV i es).bind fun j => (l[j]?).map fun e => (n + j, e.val))
  | [], [], n, _, _ => rfl
  | (k, v) :: es, e :: l, n, hl, h => by
    obtain ⟨h1, h2⟩ := h 0 k v e rfl rfl
    have hs := sameNow_eqS hi h2 hvi h1
    simp only [Instr.findNow, hs, posV]
    cases hq : eqS i k with
    | true => simp
    | false =>
      simp only [Bool.false_eq_true, if_false]
      rw [findNow_pos hi hvi es l (n + 1) (by simpa using hl) (fun j k v e hj he => h (j + 1) k v e (by simpa using hj) (by simpa using he))]
      cases posV i es with
      | none => rfl
      | some j =>
        simp only [Option.map_some, Option.bind_some, List.getElem?_cons_succ]
        congr 2; funext e; congr 1; omega
  | [], _ :: _, _, hl, _ => by simp at hl
  | _ :: _, [], _, hl, _ => by simp at hl

theorem posV_lt {i : PV} : ∀ {es : List (PV × PV)} {j : Nat}, posV i es = some j → j < es.length
  | e :: es, j, h => by
    simp only [posV] at h
    split at h
    · simp only [Option.some.injEq] at h; subst h; simp
    · simp only [Option.map_eq_some_iff] at h
      obtain ⟨k, hk, rfl⟩ := h
      have := posV_lt hk
      simp; omega
  | [], j, h => by simp [posV] at h

theorem rep_zeroV (hP : POk P pol) {t : TypeId} {z : List PV} {g : Bool} (hz : zeroT P t = some z) (hg : aggT P t = some g) : ∃ zv, (zeroValue t).run P w = .ok zv w ∧ Rep w ρ M (if g then .agg z else z.headD .junk) zv := by
  obtain ⟨i, zv, hi, hzv, hr⟩ := rep_zero (w := w) (ρ := ρ) (M := M) hz
  refine ⟨zv, by simp [zeroValue, typeInfo, hi, hzv], ?_⟩
  cases g with
  | true =>
    obtain ⟨cs, rfl⟩ := hP.zagg t i zv (zero_okT hz) hi hzv hg
    simp only [if_true]
    exact .agg _ _ (by simpa [Value.cells] using hr.1) (fun i c v hc hv => hr.2 i c v hc (by simpa [Value.cells] using hv))
  | false =>
    have h1 := hP.zone t i zv (zero_okT hz) hi hzv hg
    have hc : zv.cells = #[zv] := by cases zv <;> simp [Value.oneCell'] at h1 <;> rfl
    rw [hc] at hr
    simp only [Bool.false_eq_true, if_false]
    cases z with
    | nil => exact .junk _
    | cons c z => exact hr.2 0 c zv rfl rfl

theorem lookup_ok (hP : POk P pol) {H : Heap} {t : TypeId} {m i x : PV} {ok : Bool} {vm vi : Value}
    (hmap : ∀ k d es b, H.blk k = some (.map d es) → ρ k = some b → BlkRel w ρ M b (.map d es))
    (h : (match keyT P t, m with
    | some (d, e), .mapr k => match H.blk k, zeroT P e, aggT P e with
      | some (.map d' es), some z, some g =>
        if d = d' ∧ isKeyV d i = true then
          let zero : PV := if g then .agg z else z.headD .junk
          some (if ok then .tup [(lookV es i).getD zero, .bool (lookV es i).isSome] else (lookV es i).getD zero)
        else none
      | _, _, _ => none
    | _, _ => none) = some x) (hm : Rep w ρ M m vm) (hi : Rep w ρ M i vi) :
    ∃ v, (Instr.lookup t vm vi ok).run P w = .ok v w ∧ Rep w ρ M x v := by
  split at h
  rotate_left
  · cases h
  rename_i d e k hk
  obtain ⟨kt, hu, hkt⟩ := keyT_inv hk
  cases hbk : H.blk k with
  | none => simp [hbk] at h
  | some B =>
    cases B with
    | map d' es =>
      cases hz : zeroT P e with
      | none => simp [hbk, hz] at h
      | some z =>
        cases hg : aggT P e with
        | none => simp [hbk, hz, hg] at h
        | some g =>
          simp only [hbk, hz, hg] at h
          split at h
          rotate_left
          · cases h
          rename_i hc
          obtain ⟨rfl, hik⟩ := hc
          simp only [Option.some.injEq] at h
          subst h
          cases hm with
          | mapr k b hb =>
            obtain ⟨en, e1, e2, e3⟩ := hmap k d es b hbk hb
            obtain ⟨zv, hzr, hzrep⟩ := rep_zeroV (w := w) (ρ := ρ) (M := M) hP hz hg
            have hfind := findNow_pos hik hi es en.toList 0 (by simpa using e2) (fun j k v e hj he => by
              obtain ⟨q1, q2, q3, q4⟩ := e3 j k v e hj (by simpa using he); exact ⟨q1, q4⟩)
            have hkey := MapKept.run_checkKey (P := P) (w := w) hkt (key_isKey hik hi) en.isEmpty 9999
            have hfk := MapKept.run_findKey (P := P) (w := w) hkt hfind
            cases hp : posV i es with
            | none =>
              rw [hp] at hfk
              simp only [Option.bind_none] at hfk
              have hl : lookV es i = none := by simp [lookV, hp]
              rw [hl]
              simp only [Option.getD_none, Option.isSome_none]
              refine ⟨if ok then .tuple #[zv, .bool false] else zv, ?_, ?_⟩
              · simp only [Instr.lookup, Sem.run_bind, run_underlying hu, Result.andThen_ok, MapKept.run_getObj_map e1, Sem.run_pure, hkey, hfk, hzr]
              · cases ok
                · exact hzrep
                · have := Reps.cons hzrep (Reps.cons (Rep.bool (w := w) (ρ := ρ) (M := M) false) Reps.nil)
                  exact .tup _ _ rfl (fun i c v hc hv => this.2 i c v hc (by simpa using hv))
            | some j =>
              have hlt := posV_lt hp
              have hje : es[j]? = some es[j] := List.getElem?_eq_getElem hlt
              have hjn : en.toList[j]? = some (en[j]'(by omega)) := by simp [show j < en.size by omega]
              rw [hp] at hfk
              simp only [Option.bind_some, hjn, Option.map_some] at hfk
              have hl : lookV es i = some es[j].2 := by simp [lookV, hp, hje]
              rw [hl]
              simp only [Option.getD_some, Option.isSome_some]
              obtain ⟨q1, q2, q3, q4⟩ := e3 j es[j].1 es[j].2 (en[j]'(by omega)) hje (Array.getElem?_eq_getElem (by omega))
              refine ⟨if ok then .tuple #[(en[j]'(by omega)).val, .bool true] else (en[j]'(by omega)).val, ?_, ?_⟩
              · simp only [Instr.lookup, Sem.run_bind, run_underlying hu, Result.andThen_ok, MapKept.run_getObj_map e1, Sem.run_pure, hkey, hfk, hzr]
              · cases ok
                · exact q2
                · have := Reps.cons q2 (Reps.cons (Rep.bool (w := w) (ρ := ρ) (M := M) true) Reps.nil)
                  exact .tup _ _ rfl (fun i c v hc hv => this.2 i c v hc (by simpa using hv))
    | row z els fz => simp [hbk] at h
    | iter s p => simp [hbk] at h
    | loop => simp [hbk] at h
end
end Go.Proofs.YtigfgicjjhepoaaGreatDoor.VA
