/- Each operation that makes a value, third part: indexes, slices, whole numbers, structs. -/
import Derived.Test.YtigfgicjjhepoaaGreatDoorVf
set_option linter.unusedVariables false
set_option linter.unusedSimpArgs false
namespace Go.Proofs.YtigfgicjjhepoaaGreatDoor.VA
open Go Go.RowKit
section
variable {w : World} {ρ : Key → Option Nat} {M : Nat → Prop} {P : Program}

theorem Rep.int_inv {k : IntKind} {n : Int} {v : Value} (h : Rep w ρ M (.int k n) v) : v = .int k n := by cases h; rfl
theorem Rep.str_inv {s : ByteArray} {v : Value} (h : Rep w ρ M (.str s) v) : v = .string s := by cases h; rfl
theorem Rep.bool_inv {b : Bool} {v : Value} (h : Rep w ρ M (.bool b) v) : v = .bool b := by cases h; rfl

theorem pp_elem {l : List PV} {b o sz i : Nat} {v : PV} {val : Nat → Nat → Value} (hM : ¬ M b) (hv : l[i]? = some v) (hpos : 0 < v.cells.length)
    (h1 : ∀ (i : Nat) (v : PV) (j : Nat) (x : PV), l[i]? = some v → v.cells[j]? = some x → w.cell? ⟨b, o + i * sz + j, none⟩ = some (val i j))
    (h2 : ∀ (i : Nat) (v : PV) (j : Nat) (x : PV), l[i]? = some v → v.cells[j]? = some x → Rep w ρ M x (val i j)) :
    Rep w ρ M (.pp v.cells 0) (.pointer (some ⟨b, o + i * sz, none⟩)) := by
  have h := Rep.pp (w := w) (ρ := ρ) (M := M) v.cells 0 b (o + i * sz) (val i) (cell_lt (h1 i v 0 _ hv (List.getElem?_eq_getElem hpos))) hM (fun j x hj => h1 i v j x hv hj) (fun j x hj => h2 i v j x hv hj)
  simpa using h

theorem indexAddr_ok {t : TypeId} {a i x : PV} {va vi : Value}
    (h : (match P.underlying t, a, i with
      | some (.slice e), .sl _ l, .int _ i => if 0 ≤ i then match l[i.toNat]?, szT P e with
          | some v, some n => if v.cells.length = n ∧ 0 < n then some (.pp v.cells 0) else none
          | _, _ => none
        else none
      | some (.slice e), .ms k sz off len, .int _ i => match szT P e with
          | some n => if n = sz ∧ 0 ≤ i ∧ i < len ∧ 0 < n then some (.ptr k n (off + i.toNat) 0) else none
          | none => none
      | some (.array m e), .ptr k s q o, .int _ i => match szT P e with
          | some n => if 0 ≤ i ∧ i < m ∧ 0 < n then some (.ptr k s q (o + i.toNat * n)) else none
          | none => none
      | some (.array m e), .pp l o, .int _ i => match szT P e with
          | some n => if 0 ≤ i ∧ i < m ∧ 0 < n then some (.pp l (o + i.toNat * n)) else none
          | none => none
      | _, _, _ => none) = some x) (ha : Rep w ρ M a va) (hi : Rep w ρ M i vi) :
    ∃ v, (Instr.indexAt t va vi).run P w = .ok v w ∧ Rep w ρ M x v := by
  cases hu : P.underlying t with
  | none => simp [hu] at h
  | some d =>
    cases d with
    | slice e =>
      cases a with
      | sl f l =>
        cases i with
        | int ki i =>
          rw [hi.int_inv]
          simp only [hu] at h
          split at h
          · rename_i h0
            cases hv : l[i.toNat]? with
            | none => simp [hv] at h
            | some v =>
              cases hn : szT P e with
              | none => simp [hv, hn] at h
              | some n =>
                simp only [hv, hn] at h
                split at h
                · rename_i hcn
                  simp only [Option.some.injEq] at h
                  subst h
                  have hlt : i.toNat < l.length := (List.getElem?_eq_some_iff.1 hv).1
                  cases ha with
                  | sl0 f a c hf => simp at hlt
                  | sl f l b o c sz val hc hf hsz hpos hM h1 h2 =>
                    have hs : sz = n := by rw [← hsz v (List.mem_of_getElem? hv)]; exact hcn.1
                    subst hs
                    have hi' : i < (l.length : Int) := by omega
                    refine ⟨.pointer (some ⟨b, o + i.toNat * sz, none⟩), ?_, pp_elem hM hv (by omega) h1 h2⟩
                    simp [Instr.indexAt, run_underlying hu, asIntOf, h0, hi', run_sizeOf hn, Addr.add_lit]
                · cases h
          · cases h
        | _ => simp [hu] at h
      | ms k sz off len =>
        cases i with
        | int ki i =>
          rw [hi.int_inv]
          simp only [hu] at h
          cases hn : szT P e with
          | none => simp [hn] at h
          | some n =>
            simp only [hn] at h
            split at h
            · rename_i hc
              obtain ⟨rfl, h0, h1, hp⟩ := hc
              simp only [Option.some.injEq] at h
              subst h
              cases ha with
              | ms0 k sz off a => omega
              | ms k sz off len b c hk hc hr =>
                refine ⟨.pointer (some ⟨b, (off + i.toNat) * n + 0, none⟩), ?_, .ptr k n _ 0 b hk⟩
                simp [Instr.indexAt, run_underlying hu, asIntOf, h0, h1, run_sizeOf hn, Addr.add_lit, Nat.add_mul]
            · cases h
        | _ => simp [hu] at h
      | _ => simp [hu] at h
    | array m e =>
      cases a with
      | ptr k s q o =>
        cases i with
        | int ki i =>
          rw [hi.int_inv]
          simp only [hu] at h
          cases hn : szT P e with
          | none => simp [hn] at h
          | some n =>
            simp only [hn] at h
            split at h
            · rename_i hc
              obtain ⟨h0, h1, hp⟩ := hc
              simp only [Option.some.injEq] at h
              subst h
              cases ha with
              | ptr k s q o b hk =>
                refine ⟨.pointer (some ⟨b, q * s + o + i.toNat * n, none⟩), ?_, by rw [Nat.add_assoc]; exact .ptr k s q _ b hk⟩
                simp [Instr.indexAt, run_underlying hu, asIntOf, h0, h1, run_sizeOf hn, Addr.add_lit, Instr.sureAddr]
            · cases h
        | _ => simp [hu] at h
      | pp l o =>
        cases i with
        | int ki i =>
          rw [hi.int_inv]
          simp only [hu] at h
          cases hn : szT P e with
          | none => simp [hn] at h
          | some n =>
            simp only [hn] at h
            split at h
            · rename_i hc
              obtain ⟨h0, h1, hp⟩ := hc
              simp only [Option.some.injEq] at h
              subst h
              cases ha with
              | pp l o b q val hb hM g1 g2 =>
                refine ⟨.pointer (some ⟨b, q + o + i.toNat * n, none⟩), ?_, by rw [Nat.add_assoc]; exact .pp l _ b q val hb hM g1 g2⟩
                simp [Instr.indexAt, run_underlying hu, asIntOf, h0, h1, run_sizeOf hn, Addr.add_lit, Instr.sureAddr]
            · cases h
        | _ => simp [hu] at h
      | _ => simp [hu] at h
    | _ => simp [hu] at h

theorem index_ok {t : TypeId} {a i x : PV} {va vi : Value}
    (h : (match P.underlying t, a, i with
      | some .string, .str s, .int _ i => if h : 0 ≤ i ∧ i.toNat < s.size then some (.int .u8 (s[i.toNat]'h.2).toNat) else none
      | some (.array m e), .agg l, .int _ i => match szT P e with
          | some n => if 0 ≤ i ∧ i < m then (cut l (i.toNat * n) n).bind (asType P e) else none
          | none => none
      | _, _, _ => none) = some x) (ha : Rep w ρ M a va) (hi : Rep w ρ M i vi) :
    ∃ v, (Instr.index t va vi).run P w = .ok v w ∧ Rep w ρ M x v := by
  cases hu : P.underlying t with
  | none => simp [hu] at h
  | some d =>
    cases d with
    | string =>
      cases a with
      | str s =>
        cases i with
        | int ki i =>
          rw [hi.int_inv, ha.str_inv]
          simp only [hu] at h
          split at h
          · rename_i hc
            simp only [Option.some.injEq] at h
            subst h
            refine ⟨.int .u8 (s[i.toNat]'hc.2).toNat, ?_, .int _ _⟩
            simp [Instr.index, run_underlying hu, asIntOf, hc.1, hc.2]
          · cases h
        | _ => simp [hu] at h
      | _ => simp [hu] at h
    | array m e =>
      cases a with
      | agg l =>
        cases i with
        | int ki i =>
          rw [hi.int_inv]
          simp only [hu] at h
          cases hn : szT P e with
          | none => simp [hn] at h
          | some n =>
            simp only [hn] at h
            split at h
            · rename_i hc
              cases ha with
              | agg l cs hl hr =>
                obtain ⟨v, hv, hrep⟩ := part_ok hn h hl hr
                exact ⟨v, by simp [Instr.index, run_underlying hu, asIntOf, hc.1, hc.2, run_sizeOf hn, hv], hrep⟩
            · cases h
        | _ => simp [hu] at h
      | _ => simp [hu] at h
    | _ => simp [hu] at h

theorem run_bounds {isS : Bool} {len cap : Nat} {lo hi : Option Value} {l h : Int} (hlo : (lo = none ∧ l = 0) ∨ ∃ k, lo = some (.int k l)) (hhi : (hi = none ∧ h = len) ∨ ∃ k, hi = some (.int k h))
    (h0 : 0 ≤ l) (h1 : l ≤ h) (h2 : h ≤ cap) : (Instr.sliceBounds isS len cap lo hi none).run P w = .ok (l.toNat, h.toNat, cap) w := by
  have e : (h.toNat : Int) = h := by omega
  have hh : 0 ≤ h := by omega
  rcases hlo with ⟨rfl, rfl⟩ | ⟨k, rfl⟩ <;> rcases hhi with ⟨rfl, rfl⟩ | ⟨k', rfl⟩ <;> simp_all [Instr.sliceBounds, run_sliceBound]

theorem run_bounds3 {isS : Bool} {len cap : Nat} {lo : Option Value} {l h m : Int} {kh km : IntKind} (hlo : (lo = none ∧ l = 0) ∨ ∃ k, lo = some (.int k l))
    (h0 : 0 ≤ l) (h1 : l ≤ h) (h2 : h ≤ m) (h3 : m ≤ cap) : (Instr.sliceBounds isS len cap lo (some (.int kh h)) (some (.int km m))).run P w = .ok (l.toNat, h.toNat, m.toNat) w := by
  have e : (h.toNat : Int) = h := by omega
  have e2 : (m.toNat : Int) = m := by omega
  rcases hlo with ⟨rfl, rfl⟩ | ⟨k, rfl⟩ <;> simp [Instr.sliceBounds, run_sliceBound, h0, h1, h2, h3, e, e2, (by omega : 0 ≤ h), (by omega : 0 ≤ m)]

/-- A bound as the evaluator and the machine have it. -/
theorem bound_inv {lo : Option PV} {vlo : Option Value} {d : Int} {k : IntKind} {l : Int} (hr : ∀ x, lo = some x → ∃ v, vlo = some v ∧ Rep w ρ M x v) (hn : lo = none → vlo = none)
    (h : lo.getD (.int .i64 d) = .int k l) : (vlo = none ∧ l = d) ∨ ∃ k, vlo = some (.int k l) := by
  cases lo with
  | none => simp only [Option.getD_none, PV.int.injEq] at h; exact .inl ⟨hn rfl, h.2.symm⟩
  | some x =>
    simp only [Option.getD_some] at h
    subst h
    obtain ⟨v, h1, h2⟩ := hr _ rfl
    exact .inr ⟨k, by rw [h1, h2.int_inv]⟩

/-- A cut of what can only be read. -/
theorem rep_cut {f' : Bool} {l : List PV} {b o sz : Nat} {val : Nat → Nat → Value} {i n c' : Nat} (hc : n ≤ c') (hf : f' = true → c' = n) (hsz : ∀ v ∈ l, v.cells.length = sz) (hpos : 0 < sz) (hM : ¬ M b)
    (h1 : ∀ (i : Nat) (v : PV) (j : Nat) (x : PV), l[i]? = some v → v.cells[j]? = some x → w.cell? ⟨b, o + i * sz + j, none⟩ = some (val i j))
    (h2 : ∀ (i : Nat) (v : PV) (j : Nat) (x : PV), l[i]? = some v → v.cells[j]? = some x → Rep w ρ M x (val i j)) (hn : i + n ≤ l.length) :
    Rep w ρ M (.sl f' ((l.drop i).take n)) (.slice (some ⟨b, o + i * sz, none⟩) n c') := by
  have hlen : ((l.drop i).take n).length = n := by simp; omega
  have hget : ∀ j v, ((l.drop i).take n)[j]? = some v → l[i + j]? = some v := fun j v hv => by
    have hlt : j < n := by have := (List.getElem?_eq_some_iff.1 hv).1; omega
    rw [List.getElem?_take_of_lt hlt, List.getElem?_drop] at hv
    exact hv
  have h := Rep.sl (w := w) (ρ := ρ) (M := M) f' ((l.drop i).take n) b (o + i * sz) c' sz (fun a j => val (i + a) j) (by omega) (fun h => by rw [hlen]; exact hf h)
    (fun v hv => hsz v (List.mem_of_mem_drop (List.mem_of_mem_take hv))) hpos hM
    (fun a v j x hv hx => by
      have := h1 (i + a) v j x (hget a v hv) hx
      rw [Nat.add_mul] at this
      rw [← this]; congr 2; omega)
    (fun a v j x hv hx => h2 (i + a) v j x (hget a v hv) hx)
  rwa [hlen] at h

theorem elem_inv {t : TypeId} {n : Nat} (h : (elemT P t).bind (szT P) = some n) : ∃ e, P.underlying t = some (.slice e) ∧ szT P e = some n := by
  unfold elemT at h
  cases hu : P.underlying t with
  | none => simp [hu] at h
  | some d => cases d <;> simp [hu] at h; exact ⟨_, rfl, h⟩

theorem allSz_mem {n : Nat} : ∀ {l : List PV}, allSz n l = true → ∀ v ∈ l, v.cells.length = n
  | [], _, v, hv => by simp at hv
  | a :: l, h, v, hv => by
    simp only [allSz, Bool.and_eq_true, beq_iff_eq] at h
    rcases List.mem_cons.1 hv with rfl | hv
    · exact h.1
    · exact allSz_mem h.2 v hv

theorem slice_ok {t : TypeId} {a x : PV} {va : Value} {lo hi mx : Option PV} {vlo vhi vmx : Option Value}
    (h : (match P.underlying t with
      | some .string | some (.slice _) => sliceV P t a lo hi mx
      | _ => none) = some x) (ha : Rep w ρ M a va)
    (hlo : ∀ x, lo = some x → ∃ v, vlo = some v ∧ Rep w ρ M x v) (hlo0 : lo = none → vlo = none)
    (hhi : ∀ x, hi = some x → ∃ v, vhi = some v ∧ Rep w ρ M x v) (hhi0 : hi = none → vhi = none)
    (hmx : ∀ x, mx = some x → ∃ v, vmx = some v ∧ Rep w ρ M x v) (hmx0 : mx = none → vmx = none) :
    ∃ v, (Instr.sliceAt t va vlo vhi vmx).run P w = .ok v w ∧ Rep w ρ M x v := by
  have h' : sliceV P t a lo hi mx = some x := by
    split at h <;> first | exact h | cases h
  unfold sliceV at h'
  cases a with
  | str s =>
    rw [ha.str_inv]
    simp only at h'
    split at h'
    rotate_left
    · cases h'
    rename_i hts
    have hu : P.underlying t = some .string := by
      unfold isStrT at hts
      split at hts
      · assumption
      · cases hts
    split at h'
    · rename_i k1 l k2 hh e1 e2
      split at h'
      · rename_i hc
        obtain ⟨c0, c1, c2⟩ := hc
        simp only [Option.some.injEq] at h'
        subst h'
        have b1 := bound_inv hlo hlo0 e1
        have b2 := bound_inv hhi hhi0 e2
        have hm := hmx0 rfl
        subst hm
        refine ⟨.string (s.extract l.toNat hh.toNat), ?_, .str _⟩
        simp [Instr.sliceAt, run_underlying hu, Instr.slice, run_bounds b1 b2 c0 c1 c2]
      · cases h'
    · cases h'
  | sl f xs =>
    simp only at h'
    split at h'
    · cases h'
    rename_i n e3
    obtain ⟨e, hu, hn⟩ : ∃ e, P.underlying t = some (.slice e) ∧ szT P e = some n := elem_inv e3
    split at h'
    rotate_left
    · cases h'
    rename_i hcnd
    obtain ⟨hpos, hall⟩ := hcnd
    have hsz := allSz_mem hall
    split at h'
    · rename_i k1 l k2 hh e1 e2
      split at h'
      · rename_i hc
        obtain ⟨c0, c1, c2⟩ := hc
        simp only [Option.some.injEq] at h'
        subst h'
        have b1 := bound_inv hlo hlo0 e1
        have b2 := bound_inv hhi hhi0 e2
        have hm := hmx0 rfl
        subst hm
        cases ha with
        | sl0 f a c hf =>
          simp only [List.length_nil] at c2 b2 ⊢
          have : hh = 0 ∧ l = 0 := by constructor <;> omega
          obtain ⟨rfl, rfl⟩ := this
          refine ⟨.slice (if c = 0 then a else a.map (·.add (0 * n))) 0 c, ?_, ?_⟩
          · have := run_bounds (P := P) (w := w) (isS := true) (len := 0) (cap := c) b1 b2 (by omega) (by omega) (by omega)
            simp [Instr.sliceAt, run_underlying hu, Instr.slice, this, run_sizeOf hn]
          · simp only [List.drop_nil, List.take_nil]
            exact .sl0 _ _ _ (fun h => by simp at h; exact hf h)
        | sl f l' b o c sz val hc hf hsz' hpos' hM h1 h2 =>
          refine ⟨.slice (if c = l.toNat then some ⟨b, o, none⟩ else some ⟨b, o + l.toNat * n, none⟩) (hh.toNat - l.toNat) (c - l.toNat), ?_, ?_⟩
          · have := run_bounds (P := P) (w := w) (isS := true) (len := xs.length) (cap := c) b1 b2 c0 c1 (by omega)
            simp only [Instr.sliceAt, run_underlying hu, Instr.slice, this, run_sizeOf hn, Sem.run_bind, Result.andThen_ok, Sem.run_pure]
            congr 2
            split <;> simp [Addr.add_lit]
          · by_cases hz : hh.toNat - l.toNat = 0
            · rw [hz]
              simp only [List.take_zero]
              exact .sl0 _ _ _ (fun h => by simp at h; have := hf h.1; omega)
            · rw [if_neg (by omega)]
              have hsn : sz = n := by
                cases hxs : xs with
                | nil => rw [hxs] at c2; simp at c2; omega
                | cons v _ => rw [← hsz' v (by rw [hxs]; simp), hsz v (by rw [hxs]; simp)]
              subst hsn
              exact rep_cut (by omega) (fun h => by simp at h; have := hf h.1; omega) hsz' hpos' hM h1 h2 (by omega)
      · cases h'
    · rename_i k1 l k2 hh k3 m e1 e2
      split at h'
      · rename_i hc
        obtain ⟨cs, c0, c1, c2, c3⟩ := hc
        simp only [Option.some.injEq] at h'
        subst h'
        have b1 := bound_inv hlo hlo0 e1
        obtain ⟨y, hy⟩ := Option.isSome_iff_exists.1 cs
        subst hy
        simp only [Option.getD_some] at e2
        subst e2
        obtain ⟨vh, g1, g2⟩ := hhi _ rfl
        obtain ⟨vm, g3, g4⟩ := hmx _ rfl
        rw [g2.int_inv] at g1
        rw [g4.int_inv] at g3
        subst g1 g3
        cases ha with
        | sl0 f a c hf =>
          simp only [List.length_nil] at c3 ⊢
          have : hh = 0 ∧ l = 0 ∧ m = 0 := by refine ⟨?_, ?_, ?_⟩ <;> omega
          obtain ⟨rfl, rfl, rfl⟩ := this
          refine ⟨.slice (if (0 : Nat) = 0 then a else a.map (·.add (0 * n))) 0 0, ?_, ?_⟩
          · have := run_bounds3 (P := P) (w := w) (isS := true) (len := 0) (cap := c) (kh := k2) (km := k3) b1 (by omega) (by omega : (0 : Int) ≤ 0) (by omega : (0 : Int) ≤ 0) (by omega)
            simp [Instr.sliceAt, run_underlying hu, Instr.slice, this, run_sizeOf hn]
          · simp only [List.drop_nil, List.take_nil]
            exact .sl0 _ _ _ (fun _ => rfl)
        | sl f l' b o c sz val hc hf hsz' hpos' hM h1 h2 =>
          refine ⟨.slice (if m.toNat = l.toNat then some ⟨b, o, none⟩ else some ⟨b, o + l.toNat * n, none⟩) (hh.toNat - l.toNat) (m.toNat - l.toNat), ?_, ?_⟩
          · have := run_bounds3 (P := P) (w := w) (isS := true) (len := xs.length) (cap := c) (kh := k2) (km := k3) b1 c0 c1 c2 (by omega)
            simp only [Instr.sliceAt, run_underlying hu, Instr.slice, this, run_sizeOf hn, Sem.run_bind, Result.andThen_ok, Sem.run_pure]
            congr 2
            split <;> simp [Addr.add_lit]
          · by_cases hz : hh.toNat - l.toNat = 0
            · rw [hz]
              simp only [List.take_zero]
              exact .sl0 _ _ _ (fun h => by simp at h; omega)
            · rw [if_neg (by omega)]
              have hsn : sz = n := by
                cases hxs : xs with
                | nil => rw [hxs] at c3; simp at c3; omega
                | cons v _ => rw [← hsz' v (by rw [hxs]; simp), hsz v (by rw [hxs]; simp)]
              subst hsn
              exact rep_cut (by omega) (fun h => by simp at h; omega) hsz' hpos' hM h1 h2 (by omega)
      · cases h'
    · cases h'
  | ms k sz off len =>
    simp only at h'
    split at h'
    · rename_i k1 l k2 hh n e1 e2 e3
      split at h'
      · rename_i hc
        obtain ⟨rfl, c0, c1, c2⟩ := hc
        simp only [Option.some.injEq] at h'
        subst h'
        have b1 := bound_inv hlo hlo0 e1
        have b2 := bound_inv hhi hhi0 e2
        have hm := hmx0 rfl
        subst hm
        obtain ⟨e, hu, hn⟩ : ∃ e, P.underlying t = some (.slice e) ∧ szT P e = some n := elem_inv e3
        cases ha with
        | ms0 k sz off a =>
          have : hh = 0 ∧ l = 0 := by constructor <;> omega
          obtain ⟨rfl, rfl⟩ := this
          refine ⟨.slice (if (0 : Nat) = 0 then a else a.map (·.add (0 * n))) 0 0, ?_, ?_⟩
          · have := run_bounds (P := P) (w := w) (isS := true) (len := 0) (cap := 0) b1 b2 (by omega) (by omega) (by omega)
            simp [Instr.sliceAt, run_underlying hu, Instr.slice, this, run_sizeOf hn]
          · exact .ms0 _ _ _ _
        | ms k sz off len b c hk hc hr =>
          refine ⟨.slice (if c = l.toNat then some ⟨b, off * n, none⟩ else some ⟨b, (off + l.toNat) * n, none⟩) (hh.toNat - l.toNat) (c - l.toNat), ?_, ?_⟩
          · have := run_bounds (P := P) (w := w) (isS := true) (len := len) (cap := c) b1 b2 c0 c1 (by omega)
            simp only [Instr.sliceAt, run_underlying hu, Instr.slice, this, run_sizeOf hn, Sem.run_bind, Result.andThen_ok, Sem.run_pure]
            congr 2
            split <;> simp [Addr.add_lit, Nat.add_mul]
          · by_cases hz : c = l.toNat
            · have : hh.toNat - l.toNat = 0 := by omega
              rw [this, show c - l.toNat = 0 by omega]
              exact .ms0 _ _ _ _
            · rw [if_neg hz]
              refine .ms k n _ _ b _ hk (by omega) ?_
              obtain ⟨arr, e, r1, r2⟩ := hr
              refine ⟨arr, e, r1, ?_⟩
              have : off + l.toNat + (c - l.toNat) = off + c := by omega
              rw [this]; exact r2
      · cases h'
    · cases h'
  | _ => simp at h'
end
end Go.Proofs.YtigfgicjjhepoaaGreatDoor.VA
