/- Each operation that makes a value, fourth part: whole numbers, strings, bools, structs that are compared. -/
import Derived.Test.YtigfgicjjhepoaaGreatDoorVg
import Derived.Laws.Strings
set_option linter.unusedVariables false
set_option linter.unusedSimpArgs false
namespace Go.Proofs.YtigfgicjjhepoaaGreatDoor.VA
open Go Go.RowKit
section
variable {w : World} {ρ : Key → Option Nat} {M : Nat → Prop} {P : Program} {pol : Pol}

theorem toList_inj {s u : ByteArray} (h : s.toList = u.toList) : s = u := by
  rw [ByteArray.toList_eq, ByteArray.toList_eq] at h
  cases s; cases u
  simp only at h
  rw [Array.ext' h]

theorem binV_ok {op : BinOp} {t : TypeId} {ox oy : Operand} {a b x : PV} {va vb : Value} (h : binV pol op t a b = some x) (ha : Rep w ρ M a va) (hb : Rep w ρ M b vb) :
    ∃ v, (do eqGuard op t ox oy va vb; binOp op t va vb : Sem Value).run P w = .ok v w ∧ Rep w ρ M x v := by
  unfold binV at h
  split at h
  · rename_i k n k' m
    rw [ha.int_inv, hb.int_inv]
    split at h
    · cases h
    · rename_i hm
      simp only [Option.some.injEq] at h
      subst h
      exact ⟨_, by simp [eqGuard_at_int, binOp_shl, Op.shift, hm], .int _ _⟩
  · rename_i k n k' m
    rw [ha.int_inv, hb.int_inv]
    split at h
    · cases h
    · rename_i hm
      simp only [Option.some.injEq] at h
      subst h
      exact ⟨_, by simp [eqGuard_at_int, binOp_shr, Op.shift, hm], .int _ _⟩
  · rename_i k n k' m h1 h2
    rw [ha.int_inv, hb.int_inv]
    split at h
    · cases h
    · rename_i hk
      have hk : k = k' := by simpa using hk
      subst hk
      cases op with
      | add => simp only [Option.some.injEq] at h; subst h; exact ⟨_, by simp [eqGuard_at_int, binOp_add, Op.intArith], .int _ _⟩
      | sub => simp only [Option.some.injEq] at h; subst h; exact ⟨_, by simp [eqGuard_at_int, binOp_sub, Op.intArith], .int _ _⟩
      | mul => simp only [Option.some.injEq] at h; subst h; exact ⟨_, by simp [eqGuard_at_int, binOp_mul, Op.intArith], .int _ _⟩
      | quo =>
        simp only at h
        split at h
        · cases h
        · rename_i hz
          simp only [Option.some.injEq] at h; subst h; exact ⟨_, by simp [eqGuard_at_int, binOp_quo, Op.intDiv, hz], .int _ _⟩
      | rem =>
        simp only at h
        split at h
        · cases h
        · rename_i hz
          simp only [Option.some.injEq] at h; subst h; exact ⟨_, by simp [eqGuard_at_int, binOp_rem, Op.intDiv, hz], .int _ _⟩
      | and => simp only [Option.some.injEq] at h; subst h; exact ⟨_, by simp [eqGuard_at_int, binOp_and, Op.intBits], .int _ _⟩
      | or => simp only [Option.some.injEq] at h; subst h; exact ⟨_, by simp [eqGuard_at_int, binOp_or, Op.intBits], .int _ _⟩
      | xor => simp only [Option.some.injEq] at h; subst h; exact ⟨_, by simp [eqGuard_at_int, binOp_xor, Op.intBits], .int _ _⟩
      | andNot => simp only [Option.some.injEq] at h; subst h; exact ⟨_, by simp [eqGuard_at_int, binOp_andNot, Op.intBits], .int _ _⟩
      | eql => simp only [Option.some.injEq] at h; subst h; exact ⟨.bool (n == m), by simp [eqGuard_at_int, binOp_eql], by rw [show (n == m) = decide (n = m) from by rw [Bool.eq_iff_iff]; simp]; exact .bool _⟩
      | neq => simp only [Option.some.injEq] at h; subst h; exact ⟨.bool (n != m), by simp [eqGuard_at_int, binOp_neq], by rw [show (n != m) = !decide (n = m) from by rw [Bool.eq_iff_iff]; simp]; exact .bool _⟩
      | lss => simp only [Option.some.injEq] at h; subst h; exact ⟨.bool (decide (n < m)), by simp [eqGuard_at_int, binOp_lss], .bool _⟩
      | leq => simp only [Option.some.injEq] at h; subst h; exact ⟨.bool (decide (n ≤ m)), by simp [eqGuard_at_int, binOp_leq], .bool _⟩
      | gtr => simp only [Option.some.injEq] at h; subst h; exact ⟨.bool (decide (n > m)), by simp [eqGuard_at_int, binOp_gtr], .bool _⟩
      | geq => simp only [Option.some.injEq] at h; subst h; exact ⟨.bool (decide (n ≥ m)), by simp [eqGuard_at_int, binOp_geq], .bool _⟩
      | shl => simp at h
      | shr => simp at h
  · rename_i s u
    rw [ha.str_inv, hb.str_inv]
    split at h
    · rename_i hc
      simp only [Option.some.injEq] at h; subst h
      refine ⟨.string (s ++ u), ?_, .str _⟩
      have hc' : ¬ ((s.size + u.size : Nat) : Int) > IntKind.i64.max := by rw [IntKind.max_i64]; omega
      simp only [eqGuard_at_string, binOp, Op.stringOp, Sem.run_bind, Sem.run_pure, Result.andThen_ok, if_neg hc']
    · cases h
  · rename_i s u
    rw [ha.str_inv, hb.str_inv]
    simp only [Option.some.injEq] at h; subst h
    refine ⟨.bool (s.toList == u.toList), by simp [eqGuard_at_string, binOp, Op.stringOp], ?_⟩
    rw [show (s.toList == u.toList) = decide (s = u) from by
      rw [Bool.eq_iff_iff]; simp only [beq_iff_eq, decide_eq_true_eq]
      exact ⟨fun h => toList_inj h, fun h => by rw [h]⟩]
    exact .bool _
  · rename_i s u
    rw [ha.str_inv, hb.str_inv]
    simp only [Option.some.injEq] at h; subst h
    refine ⟨.bool (!(s.toList == u.toList)), by simp [eqGuard_at_string, binOp, Op.stringOp], ?_⟩
    rw [show (s.toList == u.toList) = decide (s = u) from by
      rw [Bool.eq_iff_iff]; simp only [beq_iff_eq, decide_eq_true_eq]
      exact ⟨fun h => toList_inj h, fun h => by rw [h]⟩]
    exact .bool _
  · cases h

theorem unV_ok {op : UnOp} {a x : PV} {va : Value} (h : unV op a = some x) (ha : Rep w ρ M a va) : ∃ v, (Op.unary op va).run P w = .ok v w ∧ Rep w ρ M x v := by
  unfold unV at h
  split at h
  · rw [ha.bool_inv]; simp only [Option.some.injEq] at h; subst h
    exact ⟨_, by simp [Op.unary], .bool _⟩
  · rw [ha.int_inv]; simp only [Option.some.injEq] at h; subst h
    exact ⟨_, by simp [Op.unary, Op.intArith], .int _ _⟩
  · cases h

theorem eqS_iff {a b : PV} {va vb : Value} (sa : scal a = true) (sb : scal b = true) (ha : Rep w ρ M a va) (hb : Rep w ρ M b vb) : eqS a b = true ↔ va = vb := by
  cases a <;> simp [scal] at sa <;> cases b <;> simp [scal] at sb <;> cases ha <;> cases hb <;> simp [eqS]

theorem eqL_iff : ∀ {l m : List PV} {xs ys : List Value}, l.all scal = true → m.all scal = true → l.length = xs.length → m.length = ys.length →
    (∀ (i : Nat) (c : PV) (v : Value), l[i]? = some c → xs[i]? = some v → Rep w ρ M c v) → (∀ (i : Nat) (c : PV) (v : Value), m[i]? = some c → ys[i]? = some v → Rep w ρ M c v) →
    (eqL l m = true ↔ xs = ys)
  | [], [], [], [], _, _, _, _, _, _ => by simp [eqL]
  | [], b :: m, [], y :: ys, _, _, _, _, _, _ => by simp [eqL]
  | a :: l, [], x :: xs, [], _, _, _, _, _, _ => by simp [eqL]
  | a :: l, b :: m, x :: xs, y :: ys, h1, h2, h3, h4, h5, h6 => by
    simp only [List.all_cons, Bool.and_eq_true] at h1 h2
    have ih := eqL_iff (l := l) (m := m) (xs := xs) (ys := ys) h1.2 h2.2 (by simpa using h3) (by simpa using h4) (fun i c v hc hv => h5 (i + 1) c v (by simpa using hc) (by simpa using hv)) (fun i c v hc hv => h6 (i + 1) c v (by simpa using hc) (by simpa using hv))
    have h0 := eqS_iff h1.1 h2.1 (h5 0 a x rfl rfl) (h6 0 b y rfl rfl)
    simp only [eqL, Bool.and_eq_true, h0, ih, List.cons.injEq]
  | [], _, _ :: _, _, _, _, h, _, _, _ => by simp at h
  | _ :: _, _, [], _, _, _, h, _, _, _ => by simp at h
  | _, [], _, _ :: _, _, _, _, h, _, _ => by simp at h
  | _, _ :: _, _, [], _, _, _, h, _, _ => by simp at h

theorem scal_val {a : PV} {v : Value} (h : scal a = true) (ha : Rep w ρ M a v) : (∃ k n, v = .int k n) ∨ (∃ s, v = .string s) ∨ ∃ b, v = .bool b := by
  cases a <;> simp [scal] at h <;> cases ha
  · exact .inr (.inr ⟨_, rfl⟩)
  · exact .inl ⟨_, _, rfl⟩
  · exact .inr (.inl ⟨_, rfl⟩)

theorem run_equalIn_bools {t : TypeId} {a b : Bool} (d : Nat) (hu : P.underlying t = some .bool) : (Op.equalIn (d + 1) t (.bool a) (.bool b)).run P w = .ok (a == b) w := by
  simp [Op.equalIn, run_underlying hu]

theorem bool_eq_ok {op : BinOp} {t : TypeId} {ox oy : Operand} {a b : Bool} {x : PV} (h : (match P.underlying t, op with
      | some .bool, .eql => some (.bool (a == b))
      | some .bool, .neq => some (.bool (a != b))
      | _, _ => none) = some x) :
    ∃ v, (do eqGuard op t ox oy (.bool a) (.bool b); binOp op t (.bool a) (.bool b) : Sem Value).run P w = .ok v w ∧ Rep w ρ M x v := by
  split at h
  · rename_i hu
    simp only [Option.some.injEq] at h; subst h
    refine ⟨.bool (a == b), ?_, .bool _⟩
    have : (Op.equal t (.bool a) (.bool b)).run P w = .ok (a == b) w := run_equalIn_bools 9999 hu
    simp [eqGuard_at_bool, binOp, this]
  · rename_i hu
    simp only [Option.some.injEq] at h; subst h
    refine ⟨.bool (a != b), ?_, .bool _⟩
    have : (Op.equal t (.bool a) (.bool b)).run P w = .ok (a == b) w := run_equalIn_bools 9999 hu
    simp [eqGuard_at_bool, binOp, this, bne]
  · cases h

theorem agg_eq_ok (hP : POk P pol) {op : BinOp} {t : TypeId} {ox oy : Operand} {a b : List PV} {x : PV} {va vb : Value}
    (h : (if pol.eqt t = true ∧ a.all scal = true ∧ b.all scal = true ∧ a.length = b.length then match op with
        | .eql => some (.bool (eqL a b))
        | .neq => some (.bool (!eqL a b))
        | _ => none
      else none) = some x) (ha : Rep w ρ M (.agg a) va) (hb : Rep w ρ M (.agg b) vb) :
    ∃ v, (do eqGuard op t ox oy va vb; binOp op t va vb : Sem Value).run P w = .ok v w ∧ Rep w ρ M x v := by
  split at h
  rotate_left
  · cases h
  rename_i hc
  obtain ⟨c1, c2, c3, c4⟩ := hc
  cases ha with
  | agg l cs hl hr =>
    cases hb with
    | agg m ds hm hs =>
      have hsc : ∀ v ∈ cs.toList ++ ds.toList, (∃ k n, v = .int k n) ∨ (∃ s, v = .string s) ∨ ∃ b, v = .bool b := by
        intro v hv
        rcases List.mem_append.1 hv with hv | hv
        · obtain ⟨i, hi, rfl⟩ := List.getElem_of_mem hv
          have hi' : i < a.length := by simp at hi; omega
          exact scal_val (List.all_eq_true.1 c2 _ (List.getElem_mem hi')) (hr i a[i] _ (List.getElem?_eq_getElem hi') (by simp at hi; simp [hi]))
        · obtain ⟨i, hi, rfl⟩ := List.getElem_of_mem hv
          have hi' : i < b.length := by simp at hi; omega
          exact scal_val (List.all_eq_true.1 c3 _ (List.getElem_mem hi')) (hs i b[i] _ (List.getElem?_eq_getElem hi') (by simp at hi; simp [hi]))
      obtain ⟨r, hr1, hr2⟩ := hP.eqt t c1 cs ds w hsc (by omega)
      have heq : eqL a b = true ↔ cs.toList = ds.toList := eqL_iff c2 c3 (by simpa using hl) (by simpa using hm) (fun i c v hc hv => hr i c v hc (by simpa using hv)) (fun i c v hc hv => hs i c v hc (by simpa using hv))
      have hre : r = eqL a b := by
        rw [Bool.eq_iff_iff, hr2, heq]
        exact ⟨fun h => by rw [h], fun h => Array.ext' h⟩
      subst hre
      have hg : ∀ op', (eqGuard op' t ox oy (.agg cs) (.agg ds)).run P w = .ok () w := by
        intro op'
        unfold eqGuard
        cases op' <;> simp [hP.eqg t c1]
      cases op with
      | eql => simp only [Option.some.injEq] at h; subst h; exact ⟨_, by simp [hg, binOp, hr1], .bool _⟩
      | neq => simp only [Option.some.injEq] at h; subst h; exact ⟨_, by simp [hg, binOp, hr1], .bool _⟩
      | _ => simp at h
end
end Go.Proofs.YtigfgicjjhepoaaGreatDoor.VA
