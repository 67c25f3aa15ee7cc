/- Operations that change the heap: stores, maps, iterators. -/
import Derived.Test.YtigfgicjjhepoaaGreatDoorVo
import Derived.Laws.CopyOwn
set_option linter.unusedVariables false
set_option linter.unusedSimpArgs false
namespace Go.Proofs.YtigfgicjjhepoaaGreatDoor.VA
open Go Go.RowKit
section
variable {ng base : Nat} {w : World} {Ext : Nat → Prop} {ρ : Key → Option Nat} {H : Heap}

/-- What a step that changes the heap gives. -/
structure Stepd (ng base : Nat) (Ext : Nat → Prop) (ρ : Key → Option Nat) (H : Heap) (w w' : World) (ρ' : Key → Option Nat) (H' : Heap) : Prop where
  below : Below base w w'
  heap : HRel ng base Ext ρ' H' w'
  evo : Evo w ρ (Mut Ext ρ H) w' ρ' (Mut Ext ρ' H')

theorem Stepd.refl (h : HRel ng base Ext ρ H w) : Stepd ng base Ext ρ H w w ρ H := ⟨Below.refl _ _, h, Evo.refl _ _ _⟩

theorem oneV_one {M : Nat → Prop} {x : PV} {v : Value} (h : oneV x = true) (hr : Rep w ρ M x v) : v.oneCell' = true := by
  cases hr <;> simp [oneV] at h <;> rfl

theorem reps_one {M : Nat → Prop} {l : List PV} {vs : List Value} (h : l.all oneV = true) (hr : Reps w ρ M l vs) : ∀ v ∈ vs, v.oneCell' = true := by
  intro v hv
  obtain ⟨i, hi, rfl⟩ := List.getElem_of_mem hv
  have hl : i < l.length := by rw [hr.1]; exact hi
  exact oneV_one (List.all_eq_true.1 h _ (List.getElem_mem hl)) (hr.2 i _ _ (List.getElem?_eq_getElem hl) (List.getElem?_eq_getElem hi))

theorem below_heap (w : World) (b : Nat) (o : Obj) (hb : base ≤ b) : Below base w { w with heap := w.heap.setIfInBounds b o } :=
  ⟨rfl, rfl, rfl, by simp, fun k hk => by simp [show b ≠ k by omega]⟩

theorem putCells_get {cs vs : List PV} {j n : Nat} (hn : vs.length = n) (hj : j + n ≤ cs.length) (q : Nat) : (putCells cs j vs)[q]? = if q < j then cs[q]? else if q < j + n then vs[q - j]? else cs[q]? := by
  unfold putCells
  have h1 : (cs.take j).length = j := by simp; omega
  by_cases a : q < j
  · rw [if_pos a, List.getElem?_append_left (by simp; omega), List.getElem?_append_left (by omega), List.getElem?_take, if_pos a]
  · rw [if_neg a]
    by_cases b : q < j + n
    · rw [if_pos b, List.getElem?_append_left (by simp; omega), List.getElem?_append_right (by omega), h1]
    · rw [if_neg b, List.getElem?_append_right (by simp; omega), List.getElem?_drop]
      congr 1
      simp
      omega
theorem putCells_length {cs vs : List PV} {j n : Nat} (hn : vs.length = n) (hj : j + n ≤ cs.length) : (putCells cs j vs).length = cs.length := by
  unfold putCells; simp; omega

theorem seg_get {arr : Array Value} {vs : List Value} {o n : Nat} (hn : vs.length = n) (ho : o + n ≤ arr.size) (q : Nat) :
    (arr.toList.take o ++ vs ++ arr.toList.drop (o + n)).toArray[q]? = if q < o then arr[q]? else if q < o + n then vs[q - o]? else arr[q]? := by
  rw [List.getElem?_toArray]
  have h1 : (arr.toList.take o).length = o := by simp; omega
  by_cases a : q < o
  · rw [if_pos a, List.getElem?_append_left (by simp; omega), List.getElem?_append_left (by omega), List.getElem?_take, if_pos a, Array.getElem?_toList]
  · rw [if_neg a]
    by_cases b : q < o + n
    · rw [if_pos b, List.getElem?_append_left (by simp; omega), List.getElem?_append_right (by omega), h1]
    · rw [if_neg b, List.getElem?_append_right (by simp; omega), List.getElem?_drop, Array.getElem?_toList]
      congr 1
      simp
      omega

theorem blk_row (h : HRel ng base Ext ρ H w) {k : Key} {sz : Nat} {els : List PV} {fz : Bool} {b : Nat} (hk : H.blk k = some (.row sz els fz)) (hb : ρ k = some b) : BlkRel w ρ (Mut Ext ρ H) b (.row sz els fz) :=
  h.rows k sz els fz b hk hb

theorem storeV_ok {c : Ctx} (h : HRel ng base Ext ρ H w) {t : TypeId} {a v : PV} {va vv : Value} (ha : Rep w ρ (Mut Ext ρ H) a va) (hv : Rep w ρ (Mut Ext ρ H) v vv) {H' : Heap} (hs : storeV c t a v H = some H') :
    ∃ w', (Instr.storeAt t va vv).run c.P w = .ok () w' ∧ Stepd ng base Ext ρ H w w' ρ H' := by
  unfold storeV at hs
  split at hs
  rotate_left
  · cases hs
  rename_i k sz i j
  split at hs
  rotate_left
  · cases hs
  rename_i z els n hbk hn
  split at hs
  rotate_left
  · cases hs
  rename_i hc
  obtain ⟨rfl, c1, c2, c3⟩ := hc
  split at hs
  rotate_left
  · cases hs
  rename_i e he
  split at hs
  rotate_left
  · cases hs
  rename_i hc
  obtain ⟨d1, d2⟩ := hc
  simp only [Option.some.injEq] at hs
  subst hs
  cases ha with
  | ptr _ _ _ _ b hk =>
  obtain ⟨arr, ty, h1, h2, h3, h4, h5⟩ := blk_row h hbk hk
  have hcells := reps_cells hv (junk_of rfl (by omega))
  have hvl : vv.cells.size = n := by have := hcells.1; simp at this; omega
  have hesz := h4 e (List.mem_of_getElem? he)
  have hi : i < els.length := (List.getElem?_eq_some_iff.1 he).1
  have hfit : i * z + z ≤ arr.size := by
    have : (i + 1) * z ≤ els.length * z := Nat.mul_le_mul_right z hi
    rw [Nat.succ_mul] at this
    omega
  have hrun : (Instr.storeAt t (.pointer (some ⟨b, i * z + j, none⟩)) vv).run c.P w = .ok () (w.setRow b (arr.toList.take (i * z + j) ++ vv.cells.toList ++ arr.toList.drop (i * z + j + n)).toArray) := by
    have := run_storeCells_at c.P b (i * z + j) ty vv.cells.toList 0 arr w h1 (by simp; omega) (reps_one c3 hcells)
    simp only [Nat.add_zero, Array.length_toList, hvl] at this
    simp [Instr.storeAt, Instr.sureAddr, storeVar, run_sizeOf hn, hvl, this]
  have hlen : vv.cells.toList.length = n := by simp [hvl]
  have hsize : (arr.toList.take (i * z + j) ++ vv.cells.toList ++ arr.toList.drop (i * z + j + n)).toArray.size = arr.size := by simp; omega
  have hblt : b < w.heap.size := (Array.getElem?_eq_some_iff.1 h1).1
  have hother : ∀ q, q ≠ b → (w.setRow b (arr.toList.take (i * z + j) ++ vv.cells.toList ++ arr.toList.drop (i * z + j + n)).toArray).heap[q]? = w.heap[q]? := fun q hq => setRow_other w b q _ hq
  have hnew := setRow_heap w b arr (arr.toList.take (i * z + j) ++ vv.cells.toList ++ arr.toList.drop (i * z + j + n)).toArray ty (0, 0) h1
  have hroom : ∀ q, room w b q → room (w.setRow b (arr.toList.take (i * z + j) ++ vv.cells.toList ++ arr.toList.drop (i * z + j + n)).toArray) b q := fun q hq => by
    obtain ⟨arr', e', g1, g2⟩ := hq
    rw [h1] at g1; cases g1
    exact ⟨_, _, hnew, by rw [hsize]; exact g2⟩
  have hpl := putCells_length c1 d1
  obtain ⟨e1, e2⟩ := elemOf_cells d2
  have E := h.updateEvo (new := .row z (els.set i (elemOf (putCells e.cells j v.cells))) false) hbk hk (.inl ⟨_, _, rfl⟩) (fun _ => ⟨_, _, rfl⟩) hother (setRow_size _ _ _) hroom
  refine ⟨_, hrun, below_setRow (Below.refl _ _) (h.dom k b hk).1 _, ?_, E⟩
  refine (h.update (new := .row z (els.set i (elemOf (putCells e.cells j v.cells))) false) hbk hk (.inl ⟨_, _, rfl⟩) (fun _ => ⟨_, _, rfl⟩) hother (setRow_size _ _ _) hroom ?_).1
  refine ⟨_, ty, hnew, by rw [hsize]; simpa using h2, h3, fun x hx => ?_, fun i' x j' y u hx hy hu => ?_⟩
  · rcases List.mem_or_eq_of_mem_set hx with hx | rfl
    · exact h4 x hx
    · rw [e1, hpl, hesz]
  · rw [seg_get hlen (by omega)] at hu
    have hi' : i' < els.length := by have := (List.getElem?_eq_some_iff.1 hx).1; simpa using this
    by_cases hii : i' = i
    · subst hii
      rw [List.getElem?_set_self hi'] at hx
      simp only [Option.some.injEq] at hx
      subst hx
      rw [e1, putCells_get c1 d1] at hy
      have hj' : j' < z := by
        rcases Nat.lt_or_ge j' z with q | q
        · exact q
        · rw [if_neg (by omega), if_neg (by omega), List.getElem?_eq_none (by omega)] at hy; cases hy
      by_cases a1 : j' < j
      · rw [if_pos a1] at hy
        rw [if_pos (by omega)] at hu
        exact (h5 i' e j' y u he hy hu).evo E
      · rw [if_neg a1] at hy
        rw [if_neg (by omega)] at hu
        by_cases a2 : j' < j + n
        · rw [if_pos a2] at hy
          rw [if_pos (by omega)] at hu
          rw [show i' * z + j' - (i' * z + j) = j' - j by omega] at hu
          exact (hcells.2 _ y u hy hu).evo E
        · rw [if_neg a2] at hy
          rw [if_neg (by omega)] at hu
          exact (h5 i' e j' y u he hy hu).evo E
    · rw [List.getElem?_set_ne (fun q => hii q.symm)] at hx
      have hj' : j' < z := by have := (List.getElem?_eq_some_iff.1 hy).1; have := h4 x (List.mem_of_getElem? hx); omega
      have hu' : arr[i' * z + j']? = some u := by
        rcases Nat.lt_or_ge i' i with q | q
        · have : (i' + 1) * z ≤ i * z := Nat.mul_le_mul_right z q
          rw [Nat.succ_mul] at this
          rw [if_pos (by omega)] at hu; exact hu
        · have : (i + 1) * z ≤ i' * z := Nat.mul_le_mul_right z (by omega)
          rw [Nat.succ_mul] at this
          rw [if_neg (by omega), if_neg (by omega)] at hu; exact hu
      exact (h5 i' x j' y u hx hy hu').evo E

theorem posV_eq {i : PV} : ∀ {es : List (PV × PV)} {j : Nat}, posV i es = some j → ∀ {e : PV × PV}, es[j]? = some e → eqS i e.1 = true
  | e :: es, j, h, e', he => by
    simp only [posV] at h
    split at h
    · rename_i hq
      simp only [Option.some.injEq] at h; subst h
      simp at he; subst he; exact hq
    · simp only [Option.map_eq_some_iff] at h
      obtain ⟨k, hk, rfl⟩ := h
      exact posV_eq hk (by simpa using he)
  | [], j, h, e', he => by simp [posV] at h

theorem rep_key_eq {M : Nat → Prop} {d : Option IntKind} {x y : PV} {v u : Value} (hx : isKeyV d x = true) (hy : isKeyV d y = true) (he : eqS x y = true) (hv : Rep w ρ M x v) (hu : Rep w ρ M y u) : u = v := by
  cases d with
  | none =>
    cases x <;> simp [isKeyV] at hx; cases y <;> simp [isKeyV] at hy
    cases hv; cases hu
    simp [eqS] at he; rw [he]
  | some k =>
    cases x <;> simp [isKeyV] at hx; cases y <;> simp [isKeyV] at hy
    cases hv; cases hu
    simp [eqS] at he; rw [he.1, he.2]

theorem map_ok {c : Ctx} (h : HRel ng base Ext ρ H w) {t e : TypeId} {d : Option IntKind} {k : Key} {es : List (PV × PV)} {i v : PV} {vm vi vv : Value} (hk : keyT c.P t = some (d, e)) (hbk : H.blk k = some (.map d es)) (hik : isKeyV d i = true)
    (hm : Rep w ρ (Mut Ext ρ H) (.mapr k) vm) (hi : Rep w ρ (Mut Ext ρ H) i vi) (hv : Rep w ρ (Mut Ext ρ H) v vv) :
    ∃ w', (Instr.mapUpdate t vm vi vv).run c.P w = .ok () w' ∧ Stepd ng base Ext ρ H w w' ρ (H.set k (.map d (updV es i v))) := by
  obtain ⟨kt, hu, hkt⟩ := keyT_inv hk
  cases hm with
  | mapr _ b hb =>
  have hbr : BlkRel w ρ (Mut Ext ρ H) b (.map d es) := by
    rcases h.blk k _ hbk with ⟨sz', fz', h0, hn⟩ | ⟨b', hb', hr⟩
    · cases h0
    · rw [hb'] at hb; cases hb; exact hr
  obtain ⟨en, e1, e2, e3⟩ := hbr
  have hfind := findNow_pos hik hi es en.toList 0 (by simpa using e2) (fun j k v e hj he => by
    obtain ⟨q1, q2, q3, q4⟩ := e3 j k v e hj (by simpa using he); exact ⟨q1, q4⟩)
  have hkey := MapKept.run_checkKey (P := c.P) (w := w) hkt (key_isKey hik hi) false 9999
  have hfk := MapKept.run_findKey (P := c.P) (w := w) hkt hfind
  have hblt : b < w.heap.size := (Array.getElem?_eq_some_iff.1 e1).1
  have hnr : ¬ ∃ arr e f, w.heap[b]? = some (.cells arr e f) := by
    rintro ⟨arr, e, f, hh⟩
    rw [e1] at hh; cases hh
  have main : ∀ (o : Obj), (∀ ρ' M', Evo w ρ (Mut Ext ρ H) { w with heap := w.heap.setIfInBounds b o } ρ' M' → BlkRel { w with heap := w.heap.setIfInBounds b o } ρ' M' b (.map d (updV es i v))) →
      Stepd ng base Ext ρ H w { w with heap := w.heap.setIfInBounds b o } ρ (H.set k (.map d (updV es i v))) := fun o ho => by
    have hother := (MapKept.heap_set (o' := o) e1).2
    have hroom : ∀ q, room w b q → room { w with heap := w.heap.setIfInBounds b o } b q := fun q ⟨arr, e, g1, g2⟩ => absurd ⟨arr, e, _, g1⟩ hnr
    have E := h.updateEvo (w' := { w with heap := w.heap.setIfInBounds b o }) (new := .map d (updV es i v)) hbk hb (.inr hnr) (fun ⟨_, _, q⟩ => by cases q) hother (by simp) hroom
    exact ⟨below_heap w b o (h.dom k b hb).1, (h.update (new := .map d (updV es i v)) hbk hb (.inr hnr) (fun ⟨_, _, q⟩ => by cases q) hother (by simp) hroom (ho _ _ E)).1, E⟩
  cases hp : posV i es with
  | none =>
    rw [hp] at hfk
    simp only [Option.bind_none] at hfk
    refine ⟨{ w with heap := w.heap.setIfInBounds b (.map (en.push { key := vi, val := vv, born := en.size }) (en.size + 1)) }, ?_, main _ (fun ρ' M' E => ?_)⟩
    · simp only [Instr.mapUpdate, Sem.run_bind, run_underlying hu, Result.andThen_ok, MapKept.run_getObj_map e1, hkey, hfk, MapKept.run_setObj_map _ e1]
    · refine ⟨en.push { key := vi, val := vv, born := en.size }, by simp [hblt], by simp [updV, hp, e2], fun q k' v' e' hq he' => ?_⟩
      simp only [updV, hp] at hq
      rcases Nat.lt_trichotomy q es.length with g | g | g
      · rw [List.getElem?_append_left g] at hq
        rw [Array.getElem?_push, if_neg (by omega)] at he'
        obtain ⟨q1, q2, q3, q4⟩ := e3 q k' v' e' hq he'
        exact ⟨q1.evo E, q2.evo E, q3, q4⟩
      · subst g
        simp at hq
        obtain ⟨rfl, rfl⟩ := hq
        rw [Array.getElem?_push, if_pos e2.symm] at he'
        cases he'
        exact ⟨hi.evo E, hv.evo E, e2, hik⟩
      · rw [List.getElem?_eq_none (by simp; omega)] at hq; cases hq
  | some j =>
    have hlt := posV_lt hp
    have hjn : en[j]? = some (en[j]'(by omega)) := Array.getElem?_eq_getElem (by omega)
    rw [hp] at hfk
    simp only [Option.bind_some, Array.getElem?_toList, hjn, Option.map_some] at hfk
    have hsame : (en[j]'(by omega)).key = vi := by
      have hje : es[j]? = some es[j] := List.getElem?_eq_getElem hlt
      obtain ⟨q1, q2, q3, q4⟩ := e3 j es[j].1 es[j].2 _ hje hjn
      exact rep_key_eq hik q4 (posV_eq hp hje) hi q1
    refine ⟨{ w with heap := w.heap.setIfInBounds b (.map (en.modify (0 + j) fun e => { e with key := vi, val := vv }) en.size) }, ?_, main _ (fun ρ' M' E => ?_)⟩
    · have hjn' : en[0 + j]? = some (en[j]'(by omega)) := by rw [Nat.zero_add]; exact hjn
      simp only [Instr.mapUpdate, Sem.run_bind, run_underlying hu, Result.andThen_ok, MapKept.run_getObj_map e1, hkey, hfk, hjn', Option.map_some, Option.getD_some, hsame, MapKept.run_keyThatStays (key_isKey hik hi), MapKept.run_setObj_map _ e1]
    · refine ⟨en.modify (0 + j) fun e => { e with key := vi, val := vv }, by simp [hblt], by simp [updV, hp, e2], fun q k' v' e' hq he' => ?_⟩
      simp only [updV, hp] at hq
      rw [Nat.zero_add, Array.getElem?_modify] at he'
      by_cases g : q = j
      · subst g
        rw [List.getElem?_set_self hlt] at hq
        simp only [Option.some.injEq, Prod.mk.injEq] at hq
        obtain ⟨rfl, rfl⟩ := hq
        rw [if_pos rfl, hjn] at he'
        simp only [Option.map_some, Option.some.injEq] at he'
        subst he'
        have hje : es[q]? = some es[q] := List.getElem?_eq_getElem hlt
        obtain ⟨q1, q2, q3, q4⟩ := e3 q es[q].1 es[q].2 _ hje hjn
        exact ⟨hi.evo E, hv.evo E, q3, hik⟩
      · rw [List.getElem?_set_ne (fun q' => g q'.symm)] at hq
        rw [if_neg (fun q' => g q'.symm)] at he'
        obtain ⟨q1, q2, q3, q4⟩ := e3 q k' v' e' hq he'
        exact ⟨q1.evo E, q2.evo E, q3, q4⟩

theorem next_ok {c : Ctx} {ty : TypeId} (h : HRel ng base Ext ρ H w) {k : Key} {s : ByteArray} {pos : Nat} {vi : Value} (hbk : H.blk k = some (.iter s pos)) (hi : Rep w ρ (Mut Ext ρ H) (.ptr k 1 0 0) vi) :
    ∃ v w', (Instr.next vi true ty).run c.P w = .ok v w' ∧
      if pos < s.size then Stepd ng base Ext ρ H w w' ρ (H.set k (.iter s (pos + (Utf8.decode s pos).2))) ∧ v = .tuple #[.bool true, .int .i64 pos, .int .i32 (Utf8.decode s pos).1]
      else w' = w ∧ v = .tuple #[.bool false] := by
  cases hi with
  | ptr _ _ _ _ b hb =>
  have hbr : w.heap[b]? = some (.stringIter s pos) := by
    rcases h.blk k _ hbk with ⟨sz', fz', h0, hn⟩ | ⟨b', hb', hr⟩
    · cases h0
    · rw [hb'] at hb; cases hb; exact hr
  have hblt : b < w.heap.size := (Array.getElem?_eq_some_iff.1 hbr).1
  have hget : (getObj b).run c.P w = .ok (.stringIter s pos) w := by simp [getObj, Sem.run, hbr]
  by_cases hp : pos < s.size
  · simp only [if_pos hp]
    have hset : (setObj b (.stringIter s (pos + (Utf8.decode s pos).2))).run c.P w = .ok () { w with heap := w.heap.setIfInBounds b (.stringIter s (pos + (Utf8.decode s pos).2)) } := by simp [setObj, Sem.run, hbr]
    refine ⟨_, { w with heap := w.heap.setIfInBounds b (.stringIter s (pos + (Utf8.decode s pos).2)) }, ?_, ?_, rfl⟩
    rotate_left
    · have hnr : ¬ ∃ arr e f, w.heap[b]? = some (.cells arr e f) := by
        rintro ⟨arr, e, f, hh⟩
        rw [hbr] at hh; cases hh
      have hother := (MapKept.heap_set (o' := .stringIter s (pos + (Utf8.decode s pos).2)) hbr).2
      have hroom : ∀ q, room w b q → room { w with heap := w.heap.setIfInBounds b (.stringIter s (pos + (Utf8.decode s pos).2)) } b q := fun q ⟨arr, e, g1, g2⟩ => absurd ⟨arr, e, _, g1⟩ hnr
      have E := h.updateEvo (w' := { w with heap := w.heap.setIfInBounds b (.stringIter s (pos + (Utf8.decode s pos).2)) }) (new := .iter s (pos + (Utf8.decode s pos).2)) hbk hb (.inr hnr) (fun ⟨_, _, q⟩ => by cases q) hother (by simp) hroom
      exact ⟨below_heap w b _ (h.dom k b hb).1, (h.update (new := .iter s (pos + (Utf8.decode s pos).2)) hbk hb (.inr hnr) (fun ⟨_, _, q⟩ => by cases q) hother (by simp) hroom (by simp [BlkRel, hblt])).1, E⟩
    · simp [Instr.next, hget, hp, hset, goInt]
  · simp only [if_neg hp]
    exact ⟨_, w, by simp [Instr.next, hget, hp], rfl, rfl⟩
end
end Go.Proofs.YtigfgicjjhepoaaGreatDoor.VA
