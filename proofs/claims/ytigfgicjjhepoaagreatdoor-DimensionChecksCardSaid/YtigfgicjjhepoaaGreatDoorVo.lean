/- Operations that lay a block. -/
import Derived.Test.YtigfgicjjhepoaaGreatDoorVn
set_option linter.unusedVariables false
set_option linter.unusedSimpArgs false
namespace Go.Proofs.YtigfgicjjhepoaaGreatDoor.VA
open Go Go.RowKit
section
variable {ng base : Nat} {w : World} {Ext : Nat → Prop} {ρ : Key → Option Nat} {H : Heap}

theorem elemOf_cells {l : List PV} (h : elemOk l = true) : (elemOf l).cells = l ∧ 0 < l.length := by
  match l, h with
  | [v], h => cases v <;> simp [elemOk, oneV] at h <;> exact ⟨rfl, by simp⟩
  | a :: b :: l, _ => exact ⟨rfl, by simp⟩

theorem wrap_i64 {a : Int} (h0 : 0 ≤ a) (h1 : a < 2 ^ 63) : IntKind.i64.wrap a = a := by
  simp only [IntKind.wrap, IntKind.bits, IntKind.signed]
  have : a % 2 ^ 64 = a := Int.emod_eq_of_lt h0 (by omega)
  simp [this]
  omega

/-- What laying a block gives. -/
structure Laid (ng base : Nat) (Ext : Nat → Prop) (ρ : Key → Option Nat) (H : Heap) (w w' : World) (p : List Nat) (d : Nat) (blk : Blk) (x : PV) (v : Value) : Prop where
  below : Below w.heap.size w w'
  heap : HRel ng base Ext (bind ρ (H.next p d) w.heap.size) (H.alloc p d blk) w'
  evo : Evo w ρ (Mut Ext ρ H) w' (bind ρ (H.next p d) w.heap.size) (Mut Ext (bind ρ (H.next p d) w.heap.size) (H.alloc p d blk))
  rep : Rep w' (bind ρ (H.next p d) w.heap.size) (Mut Ext (bind ρ (H.next p d) w.heap.size) (H.alloc p d blk)) x v

theorem bind_self (ρ : Key → Option Nat) (k : Key) (b : Nat) : bind ρ k b k = some b := by simp [bind]

/-- A new object, of whatever kind. -/
theorem laid_of (h : HRel ng base Ext ρ H w) (p : List Nat) (d : Nat) (blk : Blk) (o : Obj) (x : PV) (v : Value)
    (hrel : ∀ (E : Evo w ρ (Mut Ext ρ H) (w.alloc o) ρ (Mut Ext ρ H)), ∀ ρ' M', Evo w ρ (Mut Ext ρ H) (w.alloc o) ρ' M' → BlkRel (w.alloc o) ρ' M' w.heap.size blk)
    (hrep : ∀ ρ' M', ρ' (H.next p d) = some w.heap.size → Rep (w.alloc o) ρ' M' x v) : Laid ng base Ext ρ H w (w.alloc o) p d blk x v := by
  have hB := below_alloc w o
  have hnk : ∀ k, H.blk k ≠ none → ρ k ≠ some w.heap.size := fun k _ e => by have := (h.dom k _ e).2; omega
  -- the relation for the new block, at the new keys
  have hE0 : Evo w ρ (Mut Ext ρ H) (w.alloc o) (bind ρ (H.next p d) w.heap.size) (Mut Ext (bind ρ (H.next p d) w.heap.size) (H.alloc p d blk)) := by
    have hfr := h.fresh p d (H.cnt p d) (Nat.le_refl _)
    refine ⟨fun k c hk => ?_, (evo_ext (ρ := ρ) (M := Mut Ext ρ H) hB).cell, (evo_ext (ρ := ρ) (M := Mut Ext ρ H) hB).rooms, fun c hc hm => ?_, hB.size, fun b x hb => (hB.block b (Array.getElem?_eq_some_iff.1 hb).1).trans hb⟩
    · unfold bind
      rw [if_neg (fun e => by rw [e] at hk; unfold Heap.next at hk; rw [hfr.1] at hk; cases hk)]
      exact hk
    · rcases hm with hm | ⟨k, sz, els, hk, hbk⟩
      · exact .inl hm
      · simp only [Heap.alloc] at hk
        unfold bind at hbk
        by_cases e : k = H.next p d
        · rw [if_pos e] at hbk; simp only [Option.some.injEq] at hbk; omega
        · rw [if_neg e] at hk hbk; exact .inr ⟨k, sz, els, hk, hbk⟩
  obtain ⟨g1, g2⟩ := h.rebind (w' := w.alloc o) (H1 := H) (fun _ _ h => h) rfl (p := p) (d := d) (b := w.heap.size) (blk := blk) (fun hlt => by omega) (fun j _ hj => hB.block j hj) hB.size (by simp) h.size hnk
    (fun n hr => (evo_ext (ρ := ρ) (M := Mut Ext ρ H) hB).rooms _ n hr) (hrel (evo_ext hB) _ _ hE0)
  exact ⟨hB, g1, g2, hrep _ _ (bind_self _ _ _)⟩

theorem heap_new (w : World) (o : Obj) : (w.alloc o).heap[w.heap.size]? = some o := (MapKept.heap_alloc w o).1

/-- A row of one element. -/
theorem blk_one {cs : List PV} {vs : Array Value} {e : TypeId} {M' : Nat → Prop} {ρ' : Key → Option Nat} {w' : World} {b : Nat} (hok : elemOk cs = true) (hr : Reps w' ρ' M' cs vs.toList) (hb : w'.heap[b]? = some (.cells vs e (0, 0))) :
    BlkRel w' ρ' M' b (.row cs.length [elemOf cs] false) := by
  obtain ⟨e1, e2⟩ := elemOf_cells hok
  refine ⟨vs, e, hb, by have := hr.1; simp at this ⊢; omega, e2, fun x hx => by simp at hx; rw [hx, e1], fun i x j c v hi hc hv => ?_⟩
  rcases i with _ | i
  · simp only [List.getElem?_cons_zero, Option.some.injEq] at hi
    subst hi
    rw [e1] at hc
    exact hr.2 j c v hc (by simpa using hv)
  · simp at hi

theorem stepN_ok {c : Ctx} (hP : POk c.P c.pol) (h : HRel ng base Ext ρ H w) {f : Operand → PV} {g : Operand → Value} (hv : ∀ y, Rep w ρ (Mut Ext ρ H) (f y) (g y)) {o : Oper} {blk : Blk} {mk : Key → PV}
    (hs : stepN c o.op f = some (blk, mk)) (p : List Nat) (d : Nat) :
    ∃ v w', (execOp g o).run c.P w = .ok (.value v) w' ∧ Laid ng base Ext ρ H w w' p d blk (mk (H.next p d)) v := by
  obtain ⟨dst, op, ty, pos, after, guard⟩ := o
  simp only at hs
  cases op with
  | alloc t =>
    simp only [stepN] at hs
    cases hz : zeroT c.P t with
    | none => simp [hz] at hs
    | some z =>
      simp only [hz] at hs
      split at hs
      rotate_left
      · cases hs
      rename_i hok
      simp only [Option.some.injEq, Prod.mk.injEq] at hs
      obtain ⟨rfl, rfl⟩ := hs
      obtain ⟨i, zv, hi, hzv, hr⟩ := rep_zero (w := w) (ρ := ρ) (M := Mut Ext ρ H) hz
      refine ⟨.pointer (some ⟨w.heap.size, 0, none⟩), w.alloc (.cells zv.cells t), ?_, ?_⟩
      · simp [execOp, Instr.alloc, zeroValue, typeInfo, hi, hzv, newVar, newRow]
      · refine laid_of h p d _ _ _ _ (fun _ ρ' M' E => blk_one hok (hr.evo E) (heap_new w _)) (fun ρ' M' hk => ?_)
        simpa using Rep.ptr (w := w.alloc (.cells zv.cells t)) (ρ := ρ') (M := M') (H.next p d) z.length 0 0 w.heap.size hk
  | box t x =>
    simp only [stepN] at hs
    have hx := hv x
    have hrun : (execOp g ⟨dst, .box t x, ty, pos, after, guard⟩).run c.P w = .ok (.value (.pointer (some ⟨w.heap.size, 0, none⟩))) (w.alloc (.cells (g x).cells t)) := by
      simp [execOp, Instr.box, newVar, newRow]
    split at hs
    · rename_i hok
      simp only [Option.some.injEq, Prod.mk.injEq] at hs
      obtain ⟨rfl, rfl⟩ := hs
      refine ⟨_, _, hrun, laid_of h p d _ _ _ _ (fun _ ρ' M' E => blk_one hok ((reps_cells hx (junk_of rfl (elemOf_cells hok).2)).evo E) (heap_new w _)) (fun ρ' M' hk => ?_)⟩
      simpa using Rep.ptr (w := w.alloc (.cells (g x).cells t)) (ρ := ρ') (M := M') (H.next p d) (f x).cells.length 0 0 w.heap.size hk
    · simp only [Option.some.injEq, Prod.mk.injEq] at hs
      obtain ⟨rfl, rfl⟩ := hs
      refine ⟨_, _, hrun, laid_of h p d _ _ _ _ (fun _ ρ' M' E => ⟨_, _, heap_new w _, by simp, by omega, by simp, fun i x j c v hi => by simp at hi⟩) (fun ρ' M' hk => ?_)⟩
      simpa using Rep.ptr (w := w.alloc (.cells (g x).cells t)) (ρ := ρ') (M := M') (H.next p d) 1 0 0 w.heap.size hk
  | makeSlice t l m =>
    simp only [stepN] at hs
    split at hs
    rotate_left
    · cases hs
    rename_i e he
    split at hs
    rotate_left
    · cases hs
    rename_i n by_ z a b hn hby hz hl hm
    split at hs
    rotate_left
    · cases hs
    rename_i hc
    obtain ⟨rfl, c0, c1, c2, c3, c4⟩ := hc
    simp only [Option.some.injEq, Prod.mk.injEq] at hs
    obtain ⟨rfl, rfl⟩ := hs
    have hlv := hv l
    have hmv := hv m
    rw [hl] at hlv; rw [hm] at hmv
    obtain ⟨e1, e2⟩ := elemOf_cells c3
    have hu : c.P.underlying t = some (.slice e) := by
      unfold elemT at he
      cases hu : c.P.underlying t with
      | none => simp [hu] at he
      | some d => cases d <;> simp [hu] at he; subst he; rfl
    obtain ⟨i, zv, hi, hzv, hr⟩ := rep_zero (w := w) (ρ := ρ) (M := Mut Ext ρ H) hz
    have hisz : i.size = n := by obtain ⟨i', hi', hs'⟩ := sizeT hn; rw [hi] at hi'; cases hi'; exact hs'
    have hib : i.bytes = by_ := by simpa [byT, hi] using hby
    have hzs : zv.cells.size = n := by have := hr.1; simp at this; omega
    have hwrap : IntKind.i64.wrap a = a := wrap_i64 c0 (by omega)
    obtain ⟨k, rfl⟩ := Int.eq_ofNat_of_zero_le c0
    have hnpos : 0 < n := by omega
    let cells : Array Value := (Array.range (k * n)).map ((if k * n = 0 then #[] else zv.cells)[· % (if k * n = 0 then (#[] : Array Value) else zv.cells).size]!)
    have hget : ∀ i j, i < k → j < n → cells[i * n + j]? = zv.cells[j]? := fun i j hi hj => by
      have hlt := mul_lt_of hi hj
      have hk0 : k * n ≠ 0 := by omega
      simp only [cells, Array.getElem?_map, Array.getElem?_range, hlt, if_true, Option.map_some, if_neg hk0]
      have hmod : (i * n + j) % zv.cells.size = j := by rw [hzs, Nat.mul_comm, Nat.mul_add_mod, Nat.mod_eq_of_lt hj]
      rw [hmod, getElem!_pos zv.cells j (by omega)]
      simp [show j < zv.cells.size by omega]
    refine ⟨.slice (some ⟨w.heap.size, 0, none⟩) k k, w.alloc (.cells cells e), ?_, ?_⟩
    · have h1 : ¬ ((k : Int) < 0 ∨ (by_ : Int) * k > 2 ^ 48) := by omega
      have hnz : ¬ (2 ^ 48 < (by_ : Int) * k) := by omega
      have hneg : ¬ ((k : Int) < 0) := by omega
      simp only [execOp, hlv.int_inv, hmv.int_inv, Instr.makeSlice, Sem.run_bind, run_underlying hu, Result.andThen_ok, asInt, asIntOf, Sem.run_pure, typeInfo, run_program, hi, hwrap, hib]
      rw [if_neg (by simp [hnz, hneg, c1])]
      simp only [Sem.run_bind, Result.andThen_ok, Int.toNat_natCast, run_sizeOf hn, run_askRoom, zeroValue, typeInfo, run_program, hi, hzv, Sem.run_pure]
      by_cases hk0 : k * n = 0
      · simp [hk0, newRow, cells, hi, hzv]
      · simp [hk0, newRow, cells, hi, hzv]
    · refine laid_of h p d _ _ _ _ (fun _ ρ' M' E => ?_) (fun ρ' M' hk => ?_)
      · refine ⟨cells, e, heap_new w _, by simp [cells], hnpos, fun x hx => by rw [List.mem_replicate] at hx; rw [hx.2, e1, c4], fun i x j c v hi' hc hv' => ?_⟩
        have hik : i < k := by have := (List.getElem?_eq_some_iff.1 hi').1; simpa using this
        have hx : x = elemOf z := by
          rw [List.getElem?_replicate] at hi'
          simp only [Int.toNat_natCast, if_pos hik, Option.some.injEq] at hi'
          exact hi'.symm
        subst hx
        rw [e1] at hc
        have hjn : j < n := by have := (List.getElem?_eq_some_iff.1 hc).1; omega
        rw [hget i j hik hjn] at hv'
        exact (hr.2 j c v hc (by simpa using hv')).evo E
      · have := Rep.ms (w := w.alloc (.cells cells e)) (ρ := ρ') (M := M') (H.next p d) n 0 k w.heap.size k hk (Nat.le_refl _) ⟨cells, e, heap_new w _, by simp [cells]⟩
        simpa using this
  | makeMap t r =>
    cases r with
    | none =>
      simp only [stepN, Option.map_eq_some_iff, Prod.mk.injEq] at hs
      obtain ⟨q, hq, rfl, rfl⟩ := hs
      refine ⟨.map (some w.heap.size), w.alloc (.map #[] 0), by simp [execOp, Instr.makeMap], laid_of h p d _ _ _ _ (fun _ ρ' M' E => ⟨#[], by rw [heap_new]; rfl, rfl, fun i k v e hi => by simp at hi⟩) (fun ρ' M' hk => .mapr _ _ hk)⟩
    | some r => simp [stepN] at hs
  | range t x =>
    simp only [stepN] at hs
    split at hs
    rotate_left
    · cases hs
    rename_i s hu hx
    simp only [Option.some.injEq, Prod.mk.injEq] at hs
    obtain ⟨rfl, rfl⟩ := hs
    have hxv := hv x
    rw [hx] at hxv
    refine ⟨.pointer (some ⟨w.heap.size, 0, none⟩), w.alloc (.stringIter s 0), by simp [execOp, hxv.str_inv, Instr.range, run_underlying hu], laid_of h p d _ _ _ _ (fun _ ρ' M' E => heap_new w _) (fun ρ' M' hk => ?_)⟩
    simpa using Rep.ptr (w := w.alloc (.stringIter s 0)) (ρ := ρ') (M := M') (H.next p d) 1 0 0 w.heap.size hk
  | _ => simp [stepN] at hs
end
end Go.Proofs.YtigfgicjjhepoaaGreatDoor.VA
