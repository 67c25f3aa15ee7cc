/- Each operation that makes a value, last part; all of them. -/
import Derived.Test.YtigfgicjjhepoaaGreatDoorVj
set_option linter.unusedVariables false
set_option linter.unusedSimpArgs false
namespace Go.Proofs.YtigfgicjjhepoaaGreatDoor.VA
open Go Go.RowKit
section
variable {w : World} {ρ ρ' : Key → Option Nat} {M M' : Nat → Prop} {P : Program} {pol : Pol}

theorem below_alloc (w : World) (o : Obj) : Below w.heap.size w (w.alloc o) := (Below.refl _ w).alloc (Nat.le_refl _) o

theorem evo_ext {w' : World} (B : Below w.heap.size w w') : Evo w ρ M w' ρ M where
  keys _ _ h := h
  cell a v hc _ := (B.cell (cell_lt hc)).trans hc
  rooms b n hr := by
    obtain ⟨arr, e, hb, hn⟩ := hr
    exact ⟨arr, e, (B.block b (Array.getElem?_eq_some_iff.1 hb).1).trans hb, hn⟩
  muts _ _ h := h
  size := B.size
  defs b x hb := (B.block b (Array.getElem?_eq_some_iff.1 hb).1).trans hb

theorem partsV_inv : ∀ {i : Nat} {l : List (Nat × PV)} {vs : List PV}, partsV i l = some vs → vs = l.map (·.2) ∧ ∀ (j : Nat) (p : Nat × PV), l[j]? = some p → p.1 = i + j
  | i, [], vs, h => by simp only [partsV, Option.some.injEq] at h; subst h; simp
  | i, (k, v) :: l, vs, h => by
    simp only [partsV] at h
    split at h
    · rename_i hk
      simp only [Option.map_eq_some_iff] at h
      obtain ⟨r, hr, rfl⟩ := h
      obtain ⟨h1, h2⟩ := partsV_inv hr
      refine ⟨by rw [h1]; rfl, fun j p hp => ?_⟩
      rcases j with _ | j
      · simp only [List.getElem?_cons_zero, Option.some.injEq] at hp; subst hp; exact hk
      · simp only [List.getElem?_cons_succ] at hp; rw [h2 j p hp]; omega
    · cases h

/-- A slice literal: a row of its own, that is only read. -/
theorem rep_lit {sz : Nat} {l : List PV} {vs : List Value} (e : TypeId) (hpos : 0 < sz) (hn : l ≠ []) (h : Reps w ρ M l vs) (hsz : ∀ v ∈ l, v.cells.length = sz) (hM : ∀ b, M b → b < w.heap.size) :
    Rep (w.alloc (.cells (vs.flatMap fun v => v.cells.toList).toArray e)) ρ M (.sl true l) (.slice (some ⟨w.heap.size, 0, none⟩) l.length l.length) := by
  have hB := below_alloc w (.cells (vs.flatMap fun v => v.cells.toList).toArray e)
  have hvs : ∀ (i : Nat) (x : PV), l[i]? = some x → ∃ v, vs[i]? = some v ∧ Rep w ρ M x v := fun i x hi => by
    have hlt : i < vs.length := by have := (List.getElem?_eq_some_iff.1 hi).1; have := h.1; omega
    exact ⟨vs[i], List.getElem?_eq_getElem hlt, h.2 i x _ hi (List.getElem?_eq_getElem hlt)⟩
  have hcs : ∀ v ∈ vs, v.cells.size = sz := fun v hv => by
    obtain ⟨i, hi, rfl⟩ := List.getElem_of_mem hv
    have hi' : i < l.length := by have := h.1; omega
    have hs := hsz l[i] (List.getElem_mem hi')
    have hr := h.2 i l[i] vs[i] (List.getElem?_eq_getElem hi') (List.getElem?_eq_getElem hi)
    rw [← hs, (hr.cells (junk_of hs hpos)).1]
  have hcell : ∀ (i : Nat) (x : PV) (j : Nat) (c : PV), l[i]? = some x → x.cells[j]? = some c → ∃ v u, vs[i]? = some v ∧ v.cells[j]? = some u ∧ (vs.flatMap fun v => v.cells.toList)[i * sz + j]? = some u ∧ Rep w ρ M c u := fun i x j c hi hj => by
    obtain ⟨v, hv, hr⟩ := hvs i x hi
    have hs := hsz x (List.mem_of_getElem? hi)
    have hjlt : j < sz := by have := (List.getElem?_eq_some_iff.1 hj).1; omega
    obtain ⟨e1, e2⟩ := hr.cells (junk_of hs hpos)
    have hu : j < v.cells.size := by omega
    refine ⟨v, v.cells[j], hv, by simp, ?_, e2 j c _ hj (by simp)⟩
    rw [Great.flat_get hpos vs hcs]
    have d1 : (i * sz + j) / sz = i := by
      rw [Nat.mul_comm, Nat.mul_add_div hpos, Nat.div_eq_of_lt hjlt]; omega
    have d2 : (i * sz + j) % sz = j := by
      rw [Nat.mul_comm, Nat.mul_add_mod, Nat.mod_eq_of_lt hjlt]
    rw [d1, d2, hv]; simp
  refine .sl true l w.heap.size 0 l.length sz (fun i j => (vs.flatMap fun v => v.cells.toList).getD (i * sz + j) undef) (Nat.le_refl _) (fun _ => rfl) hsz hpos (fun hm => by have := hM _ hm; omega) (fun i x j c hi hj => ?_) (fun i x j c hi hj => ?_)
  · obtain ⟨v, u, h1, h2, h3, h4⟩ := hcell i x j c hi hj
    rw [Nat.zero_add, World.cell?_alloc_new]
    simp only [List.getElem?_toArray, h3, List.getD_eq_getElem?_getD, Option.getD_some]
  · obtain ⟨v, u, h1, h2, h3, h4⟩ := hcell i x j c hi hj
    simp only [List.getD_eq_getElem?_getD, h3, Option.getD_some]
    exact h4.evo (evo_ext hB)

theorem zipIdx_eta {vs : List Value} : ∀ (i : Nat) (l : List (Nat × Value)), l.map (·.2) = vs → (∀ (j : Nat) (p : Nat × Value), l[j]? = some p → p.1 = i + j) → l = (vs.zipIdx i).map fun x => (x.2, x.1) := by
  induction vs with
  | nil => intro i l h _; simp at h; subst h; rfl
  | cons v vs ih =>
    intro i l h1 h2
    cases l with
    | nil => simp at h1
    | cons p l =>
      simp only [List.map_cons, List.cons.injEq] at h1
      have hp := h2 0 p rfl
      rw [List.zipIdx_cons, List.map_cons]
      rw [← ih (i + 1) l h1.2 (fun j q hq => by rw [h2 (j + 1) q (by simpa using hq)]; omega)]
      obtain ⟨a, b⟩ := p
      simp only at hp h1
      rw [hp, h1.1, Nat.add_zero]

theorem buildSlice_ok {t e : TypeId} {n len : Nat} {parts : List (Nat × PV)} {vparts : Array (Nat × Value)} {vs : List PV} (he : elemT P t = some e) (hn : szT P e = some n) (hp : partsV 0 parts = some vs)
    (hlen : vs.length = len) (hbig : len * n ≤ 2 ^ 24) (hpos : 0 < n) (hall : allSz n vs = true) (hP : POk P pol)
    (hl : parts.length = vparts.size) (hr : ∀ (i : Nat) (p : Nat × PV) (q : Nat × Value), parts[i]? = some p → vparts[i]? = some q → p.1 = q.1 ∧ Rep w ρ M p.2 q.2) (hM : ∀ b, M b → b < w.heap.size)
    (hz : ∃ i z, P.info? e = some i ∧ i.zero = some z) :
    ∃ v w', (Instr.buildSlice t len vparts).run P w = .ok v w' ∧ Below w.heap.size w w' ∧ Rep w' ρ M (.sl true vs) v := by
  obtain ⟨hu⟩ : ∃ _ : True, P.underlying t = some (.slice e) := by
    unfold elemT at he
    cases hu : P.underlying t with
    | none => simp [hu] at he
    | some d => cases d <;> simp [hu] at he; subst he; exact ⟨trivial, rfl⟩
  rename_i hu'
  obtain ⟨it, hit, hsz⟩ := sizeT hn
  obtain ⟨i0, z, hi0, hz0⟩ := hz
  rw [hit] at hi0; cases hi0
  obtain ⟨p1, p2⟩ := partsV_inv hp
  have hsz' := allSz_mem hall
  let us := vparts.toList.map (·.2)
  have hReps : Reps w ρ M vs us := by
    rw [p1]
    refine ⟨by simp [us, hl], fun i c v hc hv => ?_⟩
    simp only [us, List.getElem?_map, Option.map_eq_some_iff] at hc hv
    obtain ⟨p, hp', rfl⟩ := hc
    obtain ⟨q, hq', rfl⟩ := hv
    exact (hr i p q hp' (by simpa using hq')).2
  have hparts : vparts.toList = (us.zipIdx 0).map fun x => (x.2, x.1) := zipIdx_eta 0 vparts.toList rfl (fun j q hq => by
    have hlt : j < parts.length := by have := (List.getElem?_eq_some_iff.1 hq).1; simp at this; omega
    rw [← (hr j _ q (List.getElem?_eq_getElem hlt) (by simpa using hq)).1, p2 j _ (List.getElem?_eq_getElem hlt)])
  have hus : us.length = len := by rw [← hReps.1, hlen]
  cases hvs : vs with
  | nil =>
    rw [hvs] at hlen
    simp only [List.length_nil] at hlen
    subst hlen
    refine ⟨.slice (some ⟨w.heap.size, 0, none⟩) 0 0, w.alloc (.cells #[] e), ?_, below_alloc w _, .sl0 _ _ _ (fun _ => rfl)⟩
    have hv0 : vparts.toList = [] := by rw [hparts, List.eq_nil_of_length_eq_zero hus]; rfl
    simp [Instr.buildSlice, run_underlying hu', run_sizeOf hn, hv0, Instr.fill, newRow, Array.range_zero']
  | cons x xs =>
    rw [← hvs]
    have hlpos : 0 < len := by rw [← hlen, hvs]; simp
    have hcs : ∀ v ∈ us, v.cells.size = n := fun v hv => by
      obtain ⟨i, hi, rfl⟩ := List.getElem_of_mem hv
      have hi' : i < vs.length := by have := hReps.1; omega
      have hs := hsz' vs[i] (List.getElem_mem hi')
      have hr' := hReps.2 i vs[i] us[i] (List.getElem?_eq_getElem hi') (List.getElem?_eq_getElem hi)
      rw [← hs, (hr'.cells (junk_of hs hpos)).1]
    have hmul : len * n ≠ 0 := Nat.pos_iff_ne_zero.1 (Nat.mul_pos hlpos hpos)
    refine ⟨.slice (some ⟨w.heap.size, 0, none⟩) len len, w.alloc (.cells (us.flatMap fun v => v.cells.toList).toArray e), ?_, below_alloc w _, ?_⟩
    · refine run_buildSlice w t e len vparts _ it z hu' hit hz0 (by rw [hsz]; omega) (by rw [hsz]; exact hmul) ?_
      rw [hparts, hsz]
      exact Great.fill_whole hpos us _ hcs (by simp [hus])
    · have := rep_lit (w := w) (ρ := ρ) (M := M) e hpos (by rw [hvs]; simp) hReps hsz' hM
      rwa [hlen] at this

theorem mapM_bytes : ∀ {l : List PV} {bs : List UInt8}, l.mapM byteOf = some bs → ∃ ns : List Int, l = ns.map (PV.int .u8) ∧ bs = ns.map fun n => UInt8.ofNat n.toNat
  | [], bs, h => by simp at h; subst h; exact ⟨[], rfl, rfl⟩
  | x :: l, bs, h => by
    simp only [List.mapM_cons, Option.bind_eq_bind, Option.pure_def] at h
    cases hx : byteOf x with
    | none => simp [hx] at h
    | some b =>
      cases hl : l.mapM byteOf with
      | none => simp [hx, hl] at h
      | some r =>
        simp [hx, hl] at h
        subst h
        obtain ⟨ns, h1, h2⟩ := mapM_bytes hl
        unfold byteOf at hx
        split at hx
        · rename_i n
          simp only [Option.some.injEq] at hx
          exact ⟨n :: ns, by rw [h1]; rfl, by rw [h2, ← hx]; rfl⟩
        · cases hx

theorem convert_int_ok {s d : TypeId} {k k' : IntKind} {n : Int} {u : TypeDesc} (hs : P.underlying s = some u) (hd : P.underlying d = some (.int k)) : (convert s d (.int k' n)).run P w = .ok (.int k (k.wrap n)) w := by
  simp [convert, run_underlying hs, run_underlying hd, Conv.intToInt]

theorem convert_ok {H : Heap} (hR : Rows w ρ M H) {s d : TypeId} {a x : PV} {va : Value} (hM : ∀ b, M b → b < w.heap.size) (h : (match P.underlying s, P.underlying d, a with
    | some _, some (.int k), .int _ n => some (.int k (k.wrap n))
    | some _, some .string, .str s => some (.str s)
    | some .string, some (.slice e), .str s => if isU8T P e = true then some (.sl false (s.data.toList.map fun b => .int .u8 b.toNat)) else none
    | some (.slice e), some .string, x => if isU8T P e = true then
        match dr H 2 x with
        | some (.sl _ l, _) => (l.mapM byteOf).map fun bs => .str ⟨bs.toArray⟩
        | _ => none
      else none
    | _, _, _ => none) = some x) (ha : Rep w ρ M a va) :
    ∃ v w', (convert s d va).run P w = .ok v w' ∧ Below w.heap.size w w' ∧ Rep w' ρ M x v := by
  split at h
  · rename_i u k k' n hs hd
    simp only [Option.some.injEq] at h; subst h
    rw [ha.int_inv]
    exact ⟨_, w, convert_int_ok hs hd, Below.refl _ _, .int _ _⟩
  · rename_i u s' hs hd
    simp only [Option.some.injEq] at h; subst h
    rw [ha.str_inv]
    refine ⟨.string s', w, ?_, Below.refl _ _, .str _⟩
    simp only [convert, Sem.run_bind, run_underlying hs, run_underlying hd, Result.andThen_ok]
    cases u <;> simp
  · rename_i e s' hs hd
    split at h
    rotate_left
    · cases h
    rename_i hm
    have hu8 : P.underlying e = some (.int .u8) := by
      unfold isU8T at hm
      split at hm
      · assumption
      · cases hm
    simp only [Option.some.injEq] at h; subst h
    rw [ha.str_inv]
    refine ⟨_, _, Lib.run_convert_string_bytes w s d e s' hs hd hu8, ⟨rfl, rfl, rfl, by rw [Lib.bytesWorld_size]; omega, fun i hi => Lib.bytesWorld_at_old w e s' i hi⟩, ?_⟩
    by_cases hz : s'.data.toList = []
    · have : s'.size = 0 := by
        have h1 := congrArg List.length hz
        simpa using h1
      rw [hz, this]
      exact .sl0 _ _ _ (fun h => by cases h)
    · have hlen : (s'.data.toList.map fun b => PV.int .u8 b.toNat).length = s'.size := by simp
      have h := Rep.sl (w := Lib.bytesWorld w e s') (ρ := ρ) (M := M) false (s'.data.toList.map fun b => PV.int .u8 b.toNat) w.heap.size 0 (grownCap w s'.size 0 e) 1 (fun i _ => .int .u8 ((s'.data.toList.getD i 0).toNat))
        (by rw [hlen]; exact grownCap_ge w s'.size 0 e) (fun h => by cases h) (fun v hv => by obtain ⟨b, _, rfl⟩ := List.mem_map.1 hv; rfl) (by omega) (fun hm => by have := hM _ hm; omega)
        (fun i v j x hi hj => by
          simp only [List.getElem?_map, Option.map_eq_some_iff] at hi
          obtain ⟨b, hb, rfl⟩ := hi
          have hj0 : j = 0 := by have := (List.getElem?_eq_some_iff.1 hj).1; simp [PV.cells] at this; exact this
          subst hj0
          have hilt : i < s'.size := by have := (List.getElem?_eq_some_iff.1 hb).1; simpa using this
          have hc := Lib.bytesWorld_cell w e s' i hilt
          have hg : s'.data.toList.getD i 0 = s'[i]'hilt := by
            rw [List.getD_eq_getElem?_getD, hb]; exact (List.getElem?_eq_some_iff.1 hb).2.symm
          rw [show 0 + i * 1 + 0 = i by omega, hc, hg])
        (fun i v j x hi hj => by
          simp only [List.getElem?_map, Option.map_eq_some_iff] at hi
          obtain ⟨b, hb, rfl⟩ := hi
          have hj0 : j = 0 := by have := (List.getElem?_eq_some_iff.1 hj).1; simp [PV.cells] at this; exact this
          subst hj0
          simp only [PV.cells, List.getElem?_cons_zero, Option.some.injEq] at hj
          subst hj
          simp only [List.getD_eq_getElem?_getD, hb, Option.getD_some]
          exact .int _ _)
      rwa [hlen] at h
  · rename_i e hs hd _
    split at h
    rotate_left
    · cases h
    rename_i hm
    have hu8 : P.underlying e = some (.int .u8) := by
      unfold isU8T at hm
      split at hm
      · assumption
      · cases hm
    split at h
    rotate_left
    · cases h
    rename_i f l ks hdr
    simp only [Option.map_eq_some_iff] at h
    obtain ⟨bs, hbs, rfl⟩ := h
    obtain ⟨ns, rfl, rfl⟩ := mapM_bytes hbs
    have hrep := (dr_ok (ρ' := ρ) (M' := fun _ => False) hR (fun b h => h.elim) 2).1 _ _ ks va hdr (fun _ _ _ _ h => h) ha
    have hstr : ∀ ns : List Int, ns.foldl (fun r n => r.push (UInt8.ofNat n.toNat)) ByteArray.empty = ⟨(ns.map fun n => UInt8.ofNat n.toNat).toArray⟩ := fun ns => by
      have : ∀ (ns : List Int) (r : ByteArray), ns.foldl (fun r n => r.push (UInt8.ofNat n.toNat)) r = ⟨r.data ++ (ns.map fun n => UInt8.ofNat n.toNat).toArray⟩ := by
        intro ns
        induction ns with
        | nil => intro r; simp
        | cons n ns ih =>
          intro r
          simp only [List.foldl_cons, ih]
          congr 1
          simp [ByteArray.push]
      rw [this]; congr 1; simp [ByteArray.empty, ByteArray.emptyWithCapacity]; rfl
    generalize hn : ns.map (PV.int .u8) = l at hrep
    cases hrep with
    | sl0 f a c hf =>
      have : ns = [] := by cases ns <;> simp_all
      subst this
      refine ⟨.string ⟨#[]⟩, w, ?_, Below.refl _ _, .str _⟩
      rw [run_convert_bytes_string w s d e a 0 c hs hu8 hd]
      cases a with
      | none => simp [Conv.bytesToString]; rfl
      | some a =>
        have := run_bytesToString (P := P) w a 0 c [] (by simp [loadCells, loadCellsFrom])
        rw [this]; rfl
    | sl f l b o c sz val hc hf hsz hpos hM0 g1 g2 =>
      subst hn
      refine ⟨.string ⟨(ns.map fun n => UInt8.ofNat n.toNat).toArray⟩, w, ?_, Below.refl _ _, .str _⟩
      rw [run_convert_bytes_string w s d e _ _ c hs hu8 hd]
      have hload : (loadCells ⟨b, o, none⟩ (ns.map (PV.int .u8)).length).run P w = .ok (ns.map (Value.int .u8)).toArray w := by
        have hl : (ns.map (PV.int .u8)).length = (ns.map (Value.int .u8)).length := by simp
        rw [hl]
        refine run_loadCells_list w _ _ (fun j v hv => ?_)
        simp only [List.getElem?_map, Option.map_eq_some_iff] at hv
        obtain ⟨n, hn, rfl⟩ := hv
        have hi : (ns.map (PV.int .u8))[j]? = some (.int .u8 n) := by simp [hn]
        have hs1 : sz = 1 := by rw [← hsz _ (List.mem_of_getElem? hi)]; rfl
        subst hs1
        have c1 := g1 j _ 0 (.int .u8 n) hi rfl
        have c2 := g2 j _ 0 (.int .u8 n) hi rfl
        rw [c2.int_inv] at c1
        rw [Addr.add_lit]
        simpa using c1
      rw [run_bytesToString (P := P) w _ _ c ns hload, hstr]
  · cases h
end
end Go.Proofs.YtigfgicjjhepoaaGreatDoor.VA
