/- All operations that make a value: one theorem. -/
import Derived.Test.YtigfgicjjhepoaaGreatDoorVl
set_option linter.unusedVariables false
set_option linter.unusedSimpArgs false
namespace Go.Proofs.YtigfgicjjhepoaaGreatDoor.VA
open Go Go.RowKit
section
variable {w : World} {ρ ρ' : Key → Option Nat} {M M' : Nat → Prop}

theorem run_v {P : Program} {s : Sem Value} {v : Value} {w w' : World} (h : s.run P w = .ok v w') : (do pure (.value (← s)) : Sem Next).run P w = .ok (.value v) w' := by
  simp [h]

theorem parts_rep {f : Operand → PV} {g : Operand → Value} (hv : ∀ y, Rep w ρ M (f y) (g y)) (parts : Array (Nat × Operand)) :
    (parts.toList.map fun p => (p.1, f p.2)).length = (parts.map fun (i, y) => (i, g y)).size ∧
    ∀ (i : Nat) (p : Nat × PV) (q : Nat × Value), (parts.toList.map fun p => (p.1, f p.2))[i]? = some p → (parts.map fun (i, y) => (i, g y))[i]? = some q → p.1 = q.1 ∧ Rep w ρ M p.2 q.2 := by
  refine ⟨by simp, fun i p q hp hq => ?_⟩
  simp only [List.getElem?_map, Option.map_eq_some_iff] at hp
  simp only [Array.getElem?_map, Option.map_eq_some_iff] at hq
  obtain ⟨a, ha, rfl⟩ := hp
  obtain ⟨b, hb, rfl⟩ := hq
  rw [Array.getElem?_toList, hb] at ha
  cases ha
  exact ⟨rfl, hv _⟩

theorem opt_rep {f : Operand → PV} {g : Operand → Value} (hv : ∀ y, Rep w ρ M (f y) (g y)) (o : Option Operand) :
    (∀ x, o.map f = some x → ∃ v, o.map g = some v ∧ Rep w ρ M x v) ∧ (o.map f = none → o.map g = none) := by
  cases o with
  | none => exact ⟨fun x h => by simp at h, fun _ => rfl⟩
  | some y => exact ⟨fun x h => by simp only [Option.map_some, Option.some.injEq] at h; subst h; exact ⟨_, rfl, hv y⟩, fun h => by simp at h⟩

theorem arr_rep {f : Operand → PV} {g : Operand → Value} (hv : ∀ y, Rep w ρ M (f y) (g y)) (xs : Array Operand) : Reps w ρ M (xs.toList.map f) (xs.map g).toList := by
  rw [Array.toList_map]
  exact Reps.map hv xs.toList

theorem stepV_ok {c : Ctx} (hP : POk c.P c.pol) {H : Heap} (hR : Rows w ρ M H) (hmap : ∀ k d es b, H.blk k = some (.map d es) → ρ k = some b → BlkRel w ρ M b (.map d es)) (hM : ∀ b, M b → b < w.heap.size)
    {f : Operand → PV} {g : Operand → Value} (hv : ∀ y, Rep w ρ M (f y) (g y)) {o : Oper} {x : PV} (h : stepV c o.op f H = some x) :
    ∃ v w', (execOp g o).run c.P w = .ok (.value v) w' ∧ Below w.heap.size w w' ∧ Rep w' ρ M x v := by
  have same : ∀ {s : Sem Value}, (∃ v, s.run c.P w = .ok v w ∧ Rep w ρ M x v) → ∃ v w', (do pure (.value (← s)) : Sem Next).run c.P w = .ok (.value v) w' ∧ Below w.heap.size w w' ∧ Rep w' ρ M x v :=
    fun ⟨v, h1, h2⟩ => ⟨v, w, run_v h1, Below.refl _ _, h2⟩
  obtain ⟨dst, op, ty, pos, after, guard⟩ := o
  simp only at h
  cases op with
  | move y => simp only [stepV, Option.some.injEq] at h; subst h; exact ⟨_, w, rfl, Below.refl _ _, hv y⟩
  | assign y => simp only [stepV, Option.some.injEq] at h; subst h; exact ⟨_, w, rfl, Below.refl _ _, hv y⟩
  | pick b y z =>
    simp only [stepV] at h
    split at h
    · rename_i t ht
      simp only [Option.some.injEq] at h; subst h
      have hb := hv b
      rw [ht] at hb
      refine ⟨if t then g y else g z, w, ?_, Below.refl _ _, by cases t <;> simp <;> exact hv _⟩
      simp only [execOp, hb.bool_inv, asBool, Sem.run_bind, Sem.run_pure, Result.andThen_ok]
    · cases h
  | build t parts =>
    simp only [stepV] at h
    split at h
    · rename_i hs
      cases hz : zeroT c.P t with
      | none => simp [hz] at h
      | some z =>
        simp only [hz, Option.bind_some, Option.map_eq_some_iff] at h
        obtain ⟨out, ho, rfl⟩ := h
        obtain ⟨p1, p2⟩ := parts_rep hv parts
        exact same (build_ok hP hs hz ho p1 p2)
    · cases h
  | buildSlice t len parts =>
    simp only [stepV] at h
    split at h
    rotate_left
    · cases h
    rename_i e he
    split at h
    rotate_left
    · cases h
    rename_i n vs hn hp
    split at h
    rotate_left
    · cases h
    rename_i hc
    obtain ⟨c1, c2, c3, c4⟩ := hc
    simp only [Option.some.injEq] at h; subst h
    obtain ⟨p1, p2⟩ := parts_rep hv parts
    obtain ⟨i, hi, _⟩ := sizeT hn
    obtain ⟨z, hz⟩ := hP.hasZero e i (size_ok hn) hi
    obtain ⟨v, w', r1, r2, r3⟩ := buildSlice_ok (pol := c.pol) he hn hp c1 c2 c3 c4 hP p1 p2 hM ⟨i, z, hi, hz⟩
    exact ⟨v, w', run_v r1, r2, r3⟩
  | nilCheck y =>
    simp only [stepV] at h
    have hy := hv y
    split at h
    · rename_i k s i j e
      simp only [Option.some.injEq] at h; subst h
      rw [e] at hy
      generalize hgy : g y = u at hy
      cases hy with
      | ptr k s i j b hk => exact ⟨_, w, by simp only [execOp, hgy]; rfl, Below.refl _ _, .ptr k s i j b hk⟩
    · rename_i l q e
      simp only [Option.some.injEq] at h; subst h
      rw [e] at hy
      generalize hgy : g y = u at hy
      cases hy with
      | pp l q b o val hb hM0 g1 g2 => exact ⟨_, w, by simp only [execOp, hgy]; rfl, Below.refl _ _, .pp l q b o val hb hM0 g1 g2⟩
    · rename_i q a b e
      simp only [Option.some.injEq] at h; subst h
      rw [e] at hy
      generalize hgy : g y = u at hy
      cases hy with
      | fn q a b c d h1 h2 h3 h4 => exact ⟨_, w, by simp only [execOp, hgy]; rfl, Below.refl _ _, .fn q a b c d h1 h2 h3 h4⟩
    · cases h
  | fieldAddr t y q => exact same (fieldAddr_ok h (hv y))
  | field t y q => exact same (field_ok h (hv y))
  | indexAddr t y i => exact same (indexAddr_ok h (hv y) (hv i))
  | index t y i => exact same (index_ok h (hv y) (hv i))
  | slice t y lo hi mx =>
    have h1 := opt_rep hv lo
    have h2 := opt_rep hv hi
    have h3 := opt_rep hv mx
    exact same (slice_ok h (hv y) h1.1 h1.2 h2.1 h2.2 h3.1 h3.2)
  | binOp op t y z u =>
    simp only [stepV] at h
    have hy := hv y
    have hz := hv z
    split at h
    · rename_i a b e1 e2
      rw [e1] at hy; rw [e2] at hz
      have := bool_eq_ok (w := w) (ρ := ρ) (M := M) (ox := y) (oy := z) h
      simp only [execOp, hy.bool_inv, hz.bool_inv]
      exact same this
    · rename_i a b e1 e2
      rw [e1] at hy; rw [e2] at hz
      exact same (agg_eq_ok hP h hy hz)
    · rename_i e1 e2
      rw [e1] at hy; rw [e2] at hz
      have e3 : g y = .nilIface := by generalize g y = u1 at hy; cases hy; rfl
      have e4 : g z = .nilIface := by generalize g z = u1 at hz; cases hz; rfl
      split at h
      · rename_i hc
        have hgd : ∀ o : BinOp, (eqGuard o t y z .nilIface .nilIface).run c.P w = .ok () w := fun o => by
          cases y <;> cases z <;> first | (cases o <;> rfl) | (simp [isConstO] at hc)
        have heq : ∀ ms, c.P.underlying t = some (.interface ms) → (Op.equal t .nilIface .nilIface).run c.P w = .ok true w := fun ms hu => by
          have hg : ∀ d, (Op.equalIn (d + 1) t .nilIface .nilIface).run c.P w = .ok true w := fun d => by
            simp [Op.equalIn, run_underlying hu]
          exact hg 9999
        split at h
        · rename_i ms hu
          simp only [Option.some.injEq] at h
          subst h
          exact same ⟨.bool true, by simp only [e3, e4, Sem.run_bind, hgd, Result.andThen_ok, binOp, heq ms hu, Sem.run_pure], .bool _⟩
        · rename_i ms hu
          simp only [Option.some.injEq] at h
          subst h
          exact same ⟨.bool false, by simp only [e3, e4, Sem.run_bind, hgd, Result.andThen_ok, binOp, heq ms hu, Sem.run_pure]; rfl, .bool _⟩
        · cases h
      · cases h
    · exact same (binV_ok h hy hz)
  | unOp op t y => exact same (unV_ok h (hv y))
  | makeFunc q first cap =>
    cases q with
    | func q =>
      simp only [stepV, Option.some.injEq] at h; subst h
      have h1 := arr_rep hv first
      have h2 := arr_rep hv cap
      refine ⟨.func (.func q) (first.map g) (cap.map g), w, rfl, Below.refl _ _, .fn _ _ _ _ _ (by simp) (by simp) (fun i c v hc hv => h1.2 i c v hc (by simpa using hv)) (fun i c v hc hv => h2.2 i c v hc (by simpa using hv))⟩
    | _ => simp [stepV] at h
  | extract y i =>
    simp only [stepV] at h
    have hy := hv y
    split at h
    · rename_i l e
      rw [e] at hy
      refine same ?_
      generalize g y = u at hy
      cases hy with
      | tup l cs hl hr =>
        have hlt := (List.getElem?_eq_some_iff.1 h).1
        refine ⟨cs[i]'(by omega), by simp [Instr.extract, show i < cs.size by omega], hr i x _ h (by simp [show i < cs.size by omega])⟩
    · cases h
  | load t y => exact same (loadV_ok hR h (hv y))
  | convert s d y =>
    obtain ⟨v, w', r1, r2, r3⟩ := convert_ok hR hM h (hv y)
    exact ⟨v, w', run_v r1, r2, r3⟩
  | lookup t m i ok => exact same (lookup_ok hP hmap h (hv m) (hv i))
  | call q =>
    obtain ⟨cal, args, argTypes⟩ := q
    cases cal with
    | builtin b =>
      cases b with
      | len =>
        simp only [stepV] at h
        split at h
        rotate_left
        · cases h
        rename_i y t hargs hty
        have hy := hv y
        have hga : args.map g = #[g y] := by apply Array.ext'; rw [Array.toList_map, hargs]; rfl
        have hrun : ∀ v, (Builtin.len_ argTypes ty #[g y]).run c.P w = .ok v w → Rep w ρ M x v → ∃ v w', (execOp g ⟨dst, .call ⟨.builtin .len, args, argTypes⟩, ty, pos, after, guard⟩).run c.P w = .ok (.value v) w' ∧ Below w.heap.size w w' ∧ Rep w' ρ M x v := fun v h1 h2 =>
          ⟨v, w, by simp [execOp, resolve, invoke, builtin, hga, h1], Below.refl _ _, h2⟩
        split at h
        · rename_i s e
          rw [e] at hy
          split at h
          · rename_i hs
            simp only [Option.some.injEq] at h; subst h
            have hu : c.P.underlying t = some .string := by
              unfold isStrT at hs
              split at hs
              · assumption
              · cases hs
            exact hrun _ (by simp [Builtin.len_, hty, run_underlying hu, hy.str_inv, goInt]) (.int _ _)
          · cases h
        · rename_i f l e
          rw [e] at hy
          simp only [Option.map_eq_some_iff] at h
          obtain ⟨e', he', rfl⟩ := h
          have hu : c.P.underlying t = some (.slice e') := by
            unfold elemT at he'
            cases hu : c.P.underlying t with
            | none => simp [hu] at he'
            | some d => cases d <;> simp [hu] at he'; subst he'; rfl
          refine hrun (.int .i64 l.length) ?_ (.int _ _)
          generalize g y = u at hy
          cases hy <;> simp [Builtin.len_, hty, run_underlying hu, goInt]
        · rename_i k s q n e
          rw [e] at hy
          simp only [Option.map_eq_some_iff] at h
          obtain ⟨e', he', rfl⟩ := h
          have hu : c.P.underlying t = some (.slice e') := by
            unfold elemT at he'
            cases hu : c.P.underlying t with
            | none => simp [hu] at he'
            | some d => cases d <;> simp [hu] at he'; subst he'; rfl
          refine hrun (.int .i64 n) ?_ (.int _ _)
          generalize g y = u at hy
          cases hy <;> simp [Builtin.len_, hty, run_underlying hu, goInt]
        · cases h
      | min =>
        simp only [stepV] at h
        split at h
        rotate_left
        · cases h
        rename_i y z hargs
        have hy := hv y
        have hz := hv z
        have hga : args.map g = #[g y, g z] := by apply Array.ext'; rw [Array.toList_map, hargs]; rfl
        split at h
        rotate_left
        · cases h
        rename_i k a k' b e1 e2
        rw [e1] at hy; rw [e2] at hz
        simp only [Option.some.injEq] at h; subst h
        exact ⟨.int k (if b < a then b else a), w, by simp [execOp, resolve, invoke, builtin, hga, hy.int_inv, hz.int_inv, Builtin.min_, Builtin.min2], Below.refl _ _, .int _ _⟩
      | max =>
        simp only [stepV] at h
        split at h
        rotate_left
        · cases h
        rename_i y z hargs
        have hy := hv y
        have hz := hv z
        have hga : args.map g = #[g y, g z] := by apply Array.ext'; rw [Array.toList_map, hargs]; rfl
        split at h
        rotate_left
        · cases h
        rename_i k a k' b e1 e2
        rw [e1] at hy; rw [e2] at hz
        simp only [Option.some.injEq] at h; subst h
        exact ⟨.int k (if b > a then b else a), w, by simp [execOp, resolve, invoke, builtin, hga, hy.int_inv, hz.int_inv, Builtin.max_, Builtin.max2], Below.refl _ _, .int _ _⟩
      | _ => simp [stepV] at h
    | _ => simp [stepV] at h
  | _ => simp [stepV] at h
end
end Go.Proofs.YtigfgicjjhepoaaGreatDoor.VA
