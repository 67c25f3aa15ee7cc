/- Reading deep: what can only be read, of what lies in the heap. -/
import Derived.Test.YtigfgicjjhepoaaGreatDoorVi
set_option linter.unusedVariables false
set_option linter.unusedSimpArgs false
namespace Go.Proofs.YtigfgicjjhepoaaGreatDoor.VA
open Go Go.RowKit
section
variable {w : World} {ρ ρ' : Key → Option Nat} {M M' : Nat → Prop} {P : Program} {pol : Pol}

theorem persL_get : ∀ {l : List PV}, PV.persL l = true → ∀ (i : Nat) (c : PV), l[i]? = some c → c.pers = true
  | [], _, i, c, hc => by simp at hc
  | v :: l, h, i, c, hc => by
    simp only [PV.persL, Bool.and_eq_true] at h
    rcases i with _ | i
    · simp only [List.getElem?_cons_zero, Option.some.injEq] at hc; subst hc; exact h.1
    · exact persL_get h.2 i c (by simpa using hc)
theorem pers_cells {x : PV} (h : x.pers = true) : ∀ (i : Nat) (c : PV), x.cells[i]? = some c → c.pers = true := by
  intro i c hc
  cases x with
  | agg l => exact persL_get (show PV.persL l = true by simpa [PV.pers] using h) i c hc
  | junk => simp [PV.cells] at hc
  | _ =>
    rcases i with _ | i
    · simp only [PV.cells, List.getElem?_cons_zero, Option.some.injEq] at hc; subst hc; exact h
    · simp [PV.cells] at hc

/-- A value without keys: no heap is asked. -/
theorem Rep.pers {x : PV} {v : Value} (h : Rep w ρ M x v) (hM : ∀ b, M' b → M b) : x.pers = true → Rep w ρ' M' x v := by
  induction h with
  | bool b => exact fun _ => .bool b
  | int k n => exact fun _ => .int k n
  | str s => exact fun _ => .str s
  | agg l cs hl h ih => exact fun hp => .agg l cs hl (fun i c v hc hv => ih i c v hc hv (persL_get (by simpa [PV.pers] using hp) i c hc))
  | tup l cs hl h ih => exact fun hp => .tup l cs hl (fun i c v hc hv => ih i c v hc hv (persL_get (by simpa [PV.pers] using hp) i c hc))
  | sl0 f a c hf => exact fun _ => .sl0 f a c hf
  | sl f l b o c sz val hc hf hsz hpos hM0 h1 h2 ih =>
    exact fun hp => .sl f l b o c sz val hc hf hsz hpos (fun hm => hM0 (hM b hm)) h1 (fun i v j x hv hx => ih i v j x hv hx (pers_cells (persL_get (by simpa [PV.pers] using hp) i v hv) j x hx))
  | ms0 k sz off a => exact fun hp => by simp [PV.pers] at hp
  | ms k sz off len b c hk hc hr => exact fun hp => by simp [PV.pers] at hp
  | ptr k sz i j b hk => exact fun hp => by simp [PV.pers] at hp
  | pp l off b o val hb hM0 h1 h2 ih =>
    exact fun hp => .pp l off b o val hb (fun hm => hM0 (hM b hm)) h1 (fun j x hx => ih j x hx (persL_get (by simpa [PV.pers] using hp) j x hx))
  | nilp => exact fun _ => .nilp
  | fn f x y a b hx hy h1 h2 ih1 ih2 =>
    intro hp
    simp only [PV.pers, Bool.and_eq_true] at hp
    exact .fn f x y a b hx hy (fun i c v hc hv => ih1 i c v hc hv (persL_get hp.1 i c hc)) (fun i c v hc hv => ih2 i c v hc hv (persL_get hp.2 i c hc))
  | nilfn => exact fun _ => .nilfn
  | mapr k b hk => exact fun hp => by simp [PV.pers] at hp
  | nilm => exact fun _ => .nilm
  | nilif => exact fun _ => .nilif
  | yld k b hk => exact fun hp => by simp [PV.pers] at hp
  | junk v => exact fun _ => .junk v

theorem Reps.pers {l : List PV} {vs : List Value} (h : Reps w ρ M l vs) (hM : ∀ b, M' b → M b) (hp : PV.persL l = true) : Reps w ρ' M' l vs :=
  ⟨h.1, fun i c v hc hv => (h.2 i c v hc hv).pers hM (persL_get hp i c hc)⟩

/-- The machine's value of an element whose cells begin at s. -/
def vOf (arr : Array Value) (s sz : Nat) : PV → Value
  | .agg _ => .agg (arr.extract s (s + sz))
  | _ => arr.getD s undef

theorem getD_of_lt {arr : Array Value} {i : Nat} (h : i < arr.size) : arr[i]? = some (arr.getD i undef) := by
  rw [Array.getD_eq_getD_getElem?, Array.getElem?_eq_getElem h]; rfl

theorem rep_vOf {arr : Array Value} {s sz : Nat} {e : PV} (hsz : e.cells.length = sz) (hpos : 0 < sz) (hle : s + sz ≤ arr.size)
    (h : ∀ (j : Nat) (c : PV) (v : Value), e.cells[j]? = some c → arr[s + j]? = some v → Rep w ρ M c v) : Rep w ρ M e (vOf arr s sz e) := by
  have key : ∀ c, e.cells = [c] → Rep w ρ M c (arr.getD s undef) := fun c hc => h 0 c _ (by rw [hc]; rfl) (getD_of_lt (by omega))
  cases e with
  | agg l =>
    refine .agg l _ (by simp [PV.cells] at hsz; simp; omega) (fun i c v hc hv => h i c v hc ?_)
    have hi : i < sz := by have := (List.getElem?_eq_some_iff.1 hc).1; simp [PV.cells] at hsz; omega
    rw [← hv, Array.getElem?_extract]
    rw [if_pos (by omega)]
  | junk => exact .junk _
  | _ => exact key _ rfl

/-- The cells of an element's value are the row's. -/
theorem vOf_cells {arr : Array Value} {s sz : Nat} {e y : PV} {ρ' : Key → Option Nat} (hsz : e.cells.length = sz) (hpos : 0 < sz) (hle : s + sz ≤ arr.size) (he : Rep w ρ M e (vOf arr s sz e)) (j : Nat) (hj : j < sz) :
    (vOf arr s sz e).cells[j]? = arr[s + j]? := by
  cases e with
  | agg l => simp only [vOf, Value.cells, Array.getElem?_extract]; rw [if_pos (by omega)]
  | junk => simp [PV.cells] at hsz; omega
  | _ =>
    have h1 : sz = 1 := by simpa [PV.cells] using hsz.symm
    subst h1
    have h0 : j = 0 := by omega
    subst h0
    simp only [vOf] at he ⊢
    have hg := getD_of_lt (arr := arr) (i := s) (by omega)
    generalize arr.getD s undef = u at he hg
    rw [Nat.add_zero, hg]
    cases he <;> rfl

theorem dr_ok {H : Heap} (hR : Rows w ρ M H) (hM : ∀ b, M' b → M b) : ∀ (n : Nat),
    (∀ (x y : PV) (ks : List Key) (v : Value), dr H n x = some (y, ks) → (∀ k b, k ∈ ks → ρ k = some b → ¬ M' b) → Rep w ρ M x v → Rep w ρ' M' y v) ∧
    (∀ (l m : List PV) (ks : List Key) (vs : List Value), drL H n l = some (m, ks) → (∀ k b, k ∈ ks → ρ k = some b → ¬ M' b) → Reps w ρ M l vs → Reps w ρ' M' m vs) := by
  intro n
  induction n with
  | zero =>
    constructor
    · intro x y ks v h _ hr
      simp only [dr] at h
      split at h
      · rename_i hp
        simp only [Option.some.injEq, Prod.mk.injEq] at h
        obtain ⟨rfl, rfl⟩ := h
        exact hr.pers hM hp
      · cases h
    · intro l m ks vs h _ hr
      simp only [drL] at h
      split at h
      · rename_i hp
        simp only [Option.some.injEq, Prod.mk.injEq] at h
        obtain ⟨rfl, rfl⟩ := h
        exact hr.pers hM hp
      · cases h
  | succ n ih =>
    obtain ⟨ih1, ih2⟩ := ih
    constructor
    · intro x y ks v h hk hr
      simp only [dr] at h
      split at h
      · rename_i hp
        simp only [Option.some.injEq, Prod.mk.injEq] at h
        obtain ⟨rfl, rfl⟩ := h
        exact hr.pers hM hp
      · cases x with
        | agg l =>
          simp only [Option.map_eq_some_iff, Prod.mk.injEq] at h
          obtain ⟨r, h1, h2, h3⟩ := h
          subst h2 h3
          cases hr with
          | agg l cs hl hc =>
            have := ih2 l r.1 r.2 cs.toList h1 hk ⟨by simpa using hl, fun i c v hi hv => hc i c v hi (by simpa using hv)⟩
            exact .agg _ _ (by simpa using this.1) (fun i c v hi hv => this.2 i c v hi (by simpa using hv))
        | tup l =>
          simp only [Option.map_eq_some_iff, Prod.mk.injEq] at h
          obtain ⟨r, h1, h2, h3⟩ := h
          subst h2 h3
          cases hr with
          | tup l cs hl hc =>
            have := ih2 l r.1 r.2 cs.toList h1 hk ⟨by simpa using hl, fun i c v hi hv => hc i c v hi (by simpa using hv)⟩
            exact .tup _ _ (by simpa using this.1) (fun i c v hi hv => this.2 i c v hi (by simpa using hv))
        | sl f l =>
          simp only at h
          cases hd : drL H n l with
          | none => simp [hd] at h
          | some r =>
            simp only [hd] at h
            split at h
            rotate_left
            · cases h
            rename_i hall
            simp only [Option.some.injEq, Prod.mk.injEq] at h
            obtain ⟨rfl, rfl⟩ := h
            cases hr with
            | sl0 f a c hf =>
              have hr0 : r.1 = [] := by
                cases n <;> (simp [drL, PV.persL] at hd; rw [← hd])
              rw [hr0]
              exact .sl0 _ _ _ hf
            | sl f l b o c sz val hc hf hsz hpos hM0 g1 g2 =>
              by_cases hl : l = []
              · subst hl
                have hr0 : r.1 = [] := by
                  cases n <;> (simp [drL, PV.persL] at hd; rw [← hd])
                rw [hr0]
                exact .sl0 _ _ _ (fun h => by simpa using hf h)
              have hhd : (l.headD .junk).cells.length = sz := by
                cases l with
                | nil => exact absurd rfl hl
                | cons v l => exact hsz v (by simp)
              rw [hhd] at hall
              have hcellsz := allSz_mem hall
              -- each element's cells as a row of their own
              have hrepE : ∀ i e, l[i]? = some e → Rep w ρ M e (vOf ((List.range sz).map (val i)).toArray 0 sz e) := fun i e hi =>
                rep_vOf (hsz e (List.mem_of_getElem? hi)) hpos (by simp) (fun j c v hc hv => by
                  have hj : j < sz := by have := (List.getElem?_eq_some_iff.1 hc).1; have := hsz e (List.mem_of_getElem? hi); omega
                  simp only [Nat.zero_add, List.getElem?_toArray, List.getElem?_map, List.getElem?_range hj, Option.map_some, Option.some.injEq] at hv
                  subst hv; exact g2 i e j c hi hc)
              have q := ih2 l r.1 r.2 ((List.range l.length).map fun i => vOf ((List.range sz).map (val i)).toArray 0 sz (l.getD i .junk)) hd hk ⟨by simp, fun i c v hi hv => by
                have hlt := (List.getElem?_eq_some_iff.1 hi).1
                simp only [List.getElem?_map, List.getElem?_range hlt, Option.map_some, Option.some.injEq] at hv
                subst hv
                have hg : l.getD i .junk = c := by rw [List.getD_eq_getElem?_getD, hi]; rfl
                rw [hg]
                exact hrepE i c hi⟩
              have hlen : r.1.length = l.length := by simpa using q.1
              have hfin := Rep.sl (w := w) (ρ := ρ') (M := M') f r.1 b o c sz val (by omega) (fun h => by rw [hlen]; exact hf h) hcellsz hpos (fun hm => hM0 (hM b hm))
                (fun i y j c hi hj => by
                  have k1 : i < l.length := by have := (List.getElem?_eq_some_iff.1 hi).1; omega
                  have k2 : j < sz := by have := (List.getElem?_eq_some_iff.1 hj).1; have := hcellsz y (List.mem_of_getElem? hi); omega
                  exact g1 i l[i] j _ (List.getElem?_eq_getElem k1) (List.getElem?_eq_getElem (by rw [hsz _ (List.getElem_mem k1)]; exact k2)))
                (fun i y j c hi hj => by
                  have k1 : i < l.length := by have := (List.getElem?_eq_some_iff.1 hi).1; omega
                  have k2 : j < sz := by have := (List.getElem?_eq_some_iff.1 hj).1; have := hcellsz y (List.mem_of_getElem? hi); omega
                  have hpi : l[i]? = some l[i] := List.getElem?_eq_getElem k1
                  have hg : l.getD i .junk = l[i] := by rw [List.getD_eq_getElem?_getD, hpi]; rfl
                  have hy : Rep w ρ' M' y (vOf ((List.range sz).map (val i)).toArray 0 sz (l.getD i .junk)) := q.2 i y _ hi (by simp only [List.getElem?_map, List.getElem?_range k1, Option.map_some])
                  rw [hg] at hy
                  have hyj : y ≠ .junk := junk_of (hcellsz y (List.mem_of_getElem? hi)) hpos
                  have hcells := (hy.cells hyj).2 j c
                  rw [vOf_cells (y := y) (ρ' := ρ') (hsz _ (List.getElem_mem k1)) hpos (by simp) (hrepE i _ hpi) j k2] at hcells
                  exact hcells _ hj (by simp [List.getElem?_range k2]))
              rw [hlen] at hfin
              exact hfin
        | pp l o =>
          simp only [Option.map_eq_some_iff, Prod.mk.injEq] at h
          obtain ⟨r, h1, h2, h3⟩ := h
          subst h2 h3
          cases hr with
          | pp l o b q val hb hM0 g1 g2 =>
            have := ih2 l r.1 r.2 ((List.range l.length).map val) h1 hk ⟨by simp, fun i c v hi hv => by
              have hlt := (List.getElem?_eq_some_iff.1 hi).1
              simp only [List.getElem?_map, List.getElem?_range hlt, Option.map_some, Option.some.injEq] at hv
              subst hv; exact g2 i c hi⟩
            have hlen : r.1.length = l.length := by simpa using this.1
            refine .pp r.1 o b q val hb (fun hm => hM0 (hM b hm)) (fun j x hj => ?_) (fun j x hj => ?_)
            · have hlt : j < l.length := by have := (List.getElem?_eq_some_iff.1 hj).1; omega
              exact g1 j l[j] (List.getElem?_eq_getElem hlt)
            · have hlt : j < l.length := by have := (List.getElem?_eq_some_iff.1 hj).1; omega
              exact this.2 j x _ hj (by simp [List.getElem?_range hlt])
        | fn f a b =>
          simp only at h
          cases h1 : drL H n a with
          | none => simp [h1] at h
          | some r =>
            cases h2 : drL H n b with
            | none => simp [h1, h2] at h
            | some s =>
              simp only [h1, h2, Option.some.injEq, Prod.mk.injEq] at h
              obtain ⟨rfl, rfl⟩ := h
              cases hr with
              | fn f a b c d ha hb g1 g2 =>
                have q1 := ih2 a r.1 r.2 c.toList h1 (fun k b hk' => hk k b (List.mem_append_left _ hk')) ⟨by simpa using ha, fun i c v hi hv => g1 i c v hi (by simpa using hv)⟩
                have q2 := ih2 b s.1 s.2 d.toList h2 (fun k b hk' => hk k b (List.mem_append_right _ hk')) ⟨by simpa using hb, fun i c v hi hv => g2 i c v hi (by simpa using hv)⟩
                exact .fn f _ _ _ _ (by simpa using q1.1) (by simpa using q2.1) (fun i c v hi hv => q1.2 i c v hi (by simpa using hv)) (fun i c v hi hv => q2.2 i c v hi (by simpa using hv))
        | ms k sz off len =>
          simp only at h
          split at h
          · rename_i h0
            subst h0
            simp only [Option.some.injEq, Prod.mk.injEq] at h
            obtain ⟨rfl, rfl⟩ := h
            cases hr with
            | ms0 k z off a => exact .sl0 _ _ _ (fun h => by cases h)
            | ms k z off len b c hkb hlc hroom => exact .sl0 _ _ _ (fun h => by cases h)
          cases hbk : H.blk k with
          | none => simp [hbk] at h
          | some B =>
            cases B with
            | row z els fz =>
              simp only [hbk] at h
              by_cases hz : z = sz
              rotate_left
              · simp [hz] at h
              subst hz
              simp only [if_true] at h
              cases hc : cut els off len with
              | none => simp [hc] at h
              | some part =>
                simp only [hc] at h
                cases hd : drL H n part with
                | none => simp [hd] at h
                | some r =>
                  simp only [hd] at h
                  split at h
                  rotate_left
                  · cases h
                  rename_i hall
                  simp only [Option.some.injEq, Prod.mk.injEq] at h
                  obtain ⟨rfl, rfl⟩ := h
                  obtain ⟨c1, c2, c3, c4⟩ := cut_some hc
                  cases hr with
                  | ms0 k z off a =>
                    have hp0 : part = [] := List.eq_nil_of_length_eq_zero c3
                    subst hp0
                    have hr0 : r.1 = [] := by
                      cases n <;> (simp [drL, PV.persL] at hd; rw [← hd])
                    rw [hr0]
                    exact .sl0 _ _ _ (fun h => by cases h)
                  | ms k z off len b c hkb hlc hroom =>
                    obtain ⟨arr, ty, a1, a2, a3, a4, a5⟩ := hR k z els fz b hbk hkb
                    have hel : ∀ i e, part[i]? = some e → els[off + i]? = some e := fun i e hi => by
                      have hlt : i < len := by have := (List.getElem?_eq_some_iff.1 hi).1; omega
                      rw [c4 i hlt] at hi; exact hi
                    have hle : ∀ i, i < len → (off + i) * z + z ≤ arr.size := fun i hi => by
                      have : (off + i + 1) * z ≤ els.length * z := Nat.mul_le_mul_right z (by omega)
                      rw [Nat.succ_mul] at this; omega
                    have hrepE : ∀ i e, part[i]? = some e → Rep w ρ M e (vOf arr ((off + i) * z) z e) := fun i e hi => by
                      have hlt : i < len := by have := (List.getElem?_eq_some_iff.1 hi).1; omega
                      exact rep_vOf (a4 e (List.mem_of_getElem? (hel i e hi))) a3 (hle i hlt) (fun j c v hc hv => a5 (off + i) e j c v (hel i e hi) hc hv)
                    have q := ih2 part r.1 r.2 ((List.range len).map fun i => vOf arr ((off + i) * z) z (part.getD i .junk)) hd (fun k b hk' => hk k b (List.mem_cons_of_mem _ hk')) ⟨by simp [c3], fun i c v hi hv => by
                      have hlt : i < len := by have := (List.getElem?_eq_some_iff.1 hi).1; omega
                      simp only [List.getElem?_map, List.getElem?_range hlt, Option.map_some, Option.some.injEq] at hv
                      subst hv
                      have hg : part.getD i .junk = c := by rw [List.getD_eq_getElem?_getD, hi]; rfl
                      rw [hg]
                      exact hrepE i c hi⟩
                    have hlen : r.1.length = len := by simpa using q.1
                    have hcellsz := allSz_mem hall
                    have hM0 : ¬ M' b := hk k b (by simp) hkb
                    have hkey : ∀ (i : Nat) (y : PV) (j : Nat) (c : PV), r.1[i]? = some y → y.cells[j]? = some c → i < len ∧ j < z ∧ (off + i) * z + j < arr.size := fun i y j c hi hj => by
                      have h1 : i < len := by have := (List.getElem?_eq_some_iff.1 hi).1; omega
                      have h2 : j < z := by have := (List.getElem?_eq_some_iff.1 hj).1; have := hcellsz y (List.mem_of_getElem? hi); omega
                      exact ⟨h1, h2, by have := hle i h1; omega⟩
                    have hfin := Rep.sl (w := w) (ρ := ρ') (M := M') false r.1 b (off * z) c z (fun i j => arr.getD ((off + i) * z + j) undef) (by omega) (fun h => by cases h) hcellsz a3 hM0
                      (fun i y j c hi hj => by
                        obtain ⟨k1, k2, k3⟩ := hkey i y j c hi hj
                        rw [show off * z + i * z + j = (off + i) * z + j by rw [Nat.add_mul]]
                        unfold World.cell?; simp only [a1]; exact getD_of_lt k3)
                      (fun i y j c hi hj => by
                        obtain ⟨k1, k2, k3⟩ := hkey i y j c hi hj
                        have hpi : part[i]? = some (part[i]'(by omega)) := List.getElem?_eq_getElem (by omega)
                        have hg : part.getD i .junk = part[i]'(by omega) := by rw [List.getD_eq_getElem?_getD, hpi]; rfl
                        have hy : Rep w ρ' M' y (vOf arr ((off + i) * z) z (part.getD i .junk)) := q.2 i y _ hi (by simp only [List.getElem?_map, List.getElem?_range k1, Option.map_some])
                        rw [hg] at hy
                        have hyj : y ≠ .junk := junk_of (hcellsz y (List.mem_of_getElem? hi)) a3
                        have hcells := (hy.cells hyj).2 j c
                        rw [vOf_cells (y := y) (ρ' := ρ') (a4 _ (List.mem_of_getElem? (hel i _ hpi))) a3 (hle i k1) (hrepE i _ hpi) j k2] at hcells
                        exact hcells _ hj (getD_of_lt k3))
                    rw [hlen] at hfin
                    exact hfin
            | map d es => simp [hbk] at h
            | iter s p => simp [hbk] at h
            | loop => simp [hbk] at h
        | ptr k sz i j =>
          simp only at h
          cases hbk : H.blk k with
          | none => simp [hbk] at h
          | some B =>
            cases B with
            | row z els fz =>
              simp only [hbk] at h
              by_cases hz : z = sz
              rotate_left
              · simp [hz] at h
              subst hz
              simp only [if_true] at h
              cases he : els[i]? with
              | none => simp [he] at h
              | some e =>
                simp only [he, Option.map_eq_some_iff, Prod.mk.injEq] at h
                obtain ⟨r, h1, h2, h3⟩ := h
                subst h2 h3
                cases hr with
                | ptr k z i j b hkb =>
                  obtain ⟨hsz, val, hval⟩ := elem_at hR hbk hkb he
                  have q := ih2 e.cells r.1 r.2 ((List.range z).map val) h1 (fun k b hk' => hk k b (List.mem_cons_of_mem _ hk')) ⟨by simp [hsz], fun i c v hi hv => by
                    have hlt : i < z := by have := (List.getElem?_eq_some_iff.1 hi).1; omega
                    simp only [List.getElem?_map, List.getElem?_range hlt, Option.map_some, Option.some.injEq] at hv
                    subst hv; exact (hval i c hi).2⟩
                  have hlen : r.1.length = z := by simpa using q.1
                  have hM0 : ¬ M' b := hk k b (by simp) hkb
                  obtain ⟨arr, ty, a1, a2, a3, a4, a5⟩ := hR k z els fz b hbk hkb
                  refine .pp r.1 j b (i * z) val (Array.getElem?_eq_some_iff.1 a1).1 hM0 (fun q' x hj => ?_) (fun q' x hj => ?_)
                  · have hlt : q' < z := by have := (List.getElem?_eq_some_iff.1 hj).1; omega
                    exact (hval q' _ (List.getElem?_eq_getElem (by omega : q' < e.cells.length))).1
                  · have hlt : q' < z := by have := (List.getElem?_eq_some_iff.1 hj).1; omega
                    exact q.2 q' x _ hj (by simp [List.getElem?_range hlt])
            | map d es => simp [hbk] at h
            | iter s p => simp [hbk] at h
            | loop => simp [hbk] at h
        | _ => simp at h
    · intro l m ks vs h hk hr
      simp only [drL] at h
      split at h
      · rename_i hp
        simp only [Option.some.injEq, Prod.mk.injEq] at h
        obtain ⟨rfl, rfl⟩ := h
        exact hr.pers hM hp
      · cases l with
        | nil =>
          simp only [Option.some.injEq, Prod.mk.injEq] at h
          obtain ⟨rfl, rfl⟩ := h
          cases vs with
          | nil => exact Reps.nil
          | cons v vs => have := hr.1; simp at this
        | cons x l =>
          cases vs with
          | nil => have := hr.1; simp at this
          | cons v vs =>
            simp only at h
            cases h1 : dr H n x with
            | none => simp [h1] at h
            | some r =>
              cases h2 : drL H n l with
              | none => simp [h1, h2] at h
              | some s =>
                simp only [h1, h2, Option.some.injEq, Prod.mk.injEq] at h
                obtain ⟨rfl, rfl⟩ := h
                exact Reps.cons (ih1 x r.1 r.2 v h1 (fun k b hk' => hk k b (List.mem_append_left _ hk')) hr.head)
                  (ih2 l s.1 s.2 vs h2 (fun k b hk' => hk k b (List.mem_append_right _ hk')) hr.tail)
end
end Go.Proofs.YtigfgicjjhepoaaGreatDoor.VA
