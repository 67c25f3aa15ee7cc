/- Each operation that makes a value, second part. -/
import Derived.Test.YtigfgicjjhepoaaGreatDoorVe
set_option linter.unusedVariables false
set_option linter.unusedSimpArgs false
namespace Go.Proofs.YtigfgicjjhepoaaGreatDoor.VA
open Go Go.RowKit
section
variable {w : World} {ρ : Key → Option Nat} {M : Nat → Prop} {P : Program}

/-- What holds of the heap's rows. -/
def Rows (w : World) (ρ : Key → Option Nat) (M : Nat → Prop) (H : Heap) : Prop :=
  ∀ k sz els fz b, H.blk k = some (.row sz els fz) → ρ k = some b → BlkRel w ρ M b (.row sz els fz)

theorem HRel.rows {ng base : Nat} {Ext : Nat → Prop} {H : Heap} (h : HRel ng base Ext ρ H w) : Rows w ρ (Mut Ext ρ H) H := by
  intro k sz cs fz b hk hb
  rcases h.blk k _ hk with ⟨sz', fz', h0, hn⟩ | ⟨b', hb', hr⟩
  · rw [hn] at hb; cases hb
  · rw [hb'] at hb; cases hb; exact hr

theorem mul_lt_of {i n s j : Nat} (hi : i < n) (hj : j < s) : i * s + j < n * s := by
  have : (i + 1) * s ≤ n * s := Nat.mul_le_mul_right s hi
  rw [Nat.succ_mul] at this
  omega

theorem elem_at {H : Heap} (hR : Rows w ρ M H) {k : Key} {sz : Nat} {els : List PV} {fz : Bool} {b : Nat} (hk : H.blk k = some (.row sz els fz)) (hb : ρ k = some b) {i : Nat} {e : PV} (he : els[i]? = some e) :
    e.cells.length = sz ∧ ∃ val : Nat → Value, ∀ j c, e.cells[j]? = some c → w.cell? ⟨b, i * sz + j, none⟩ = some (val j) ∧ Rep w ρ M c (val j) := by
  obtain ⟨arr, ty, h1, h2, h3, h4, h5⟩ := hR k sz els fz b hk hb
  have hsz := h4 e (List.mem_of_getElem? he)
  refine ⟨hsz, fun j => arr.getD (i * sz + j) undef, fun j c hj => ?_⟩
  have hi : i < els.length := (List.getElem?_eq_some_iff.1 he).1
  have hj' : j < sz := by have := (List.getElem?_eq_some_iff.1 hj).1; omega
  have hlt : i * sz + j < arr.size := Nat.lt_of_lt_of_le (mul_lt_of hi hj') h2
  have hv : arr[i * sz + j]? = some (arr.getD (i * sz + j) undef) := by rw [Array.getD_eq_getD_getElem?, Array.getElem?_eq_getElem hlt]; rfl
  exact ⟨by unfold World.cell?; simp only [h1]; exact hv, h5 i e j c _ he hj hv⟩

theorem loadV_ok {H : Heap} (hR : Rows w ρ M H) {t : TypeId} {a x : PV} {va : Value} (h : loadV P H t a = some x) (ha : Rep w ρ M a va) :
    ∃ v, (Instr.loadAt t va).run P w = .ok v w ∧ Rep w ρ M x v := by
  unfold loadV at h
  cases hn : szT P t with
  | none => simp [hn] at h
  | some n =>
    simp only [hn] at h
    cases a with
    | ptr k sz i j =>
      simp only at h
      cases hk : H.blk k with
      | none => simp [hk] at h
      | some B =>
        cases B with
        | row z els fz =>
          simp only [hk] at h
          split at h
          rotate_left
          · cases h
          rename_i hz
          subst hz
          cases he : els[i]? with
          | none => simp [he] at h
          | some e =>
            simp only [he] at h
            cases hc : cut e.cells j n with
            | none => simp [hc] at h
            | some l =>
              simp only [hc, Option.bind_some] at h
              obtain ⟨c1, c2, c3, c4⟩ := cut_some hc
              cases ha with
              | ptr k sz i j b hb =>
                obtain ⟨hsz, val, hval⟩ := elem_at hR hk hb he
                obtain ⟨v, hv, hrep⟩ := run_load_cells (P := P) hn (b := b) (off := i * z + j) h c3 (fun q => val (j + q)) (fun q hq => by
                  have : ∃ c, e.cells[j + q]? = some c := ⟨e.cells[j + q]'(by omega), by simp⟩
                  obtain ⟨c, hc⟩ := this
                  rw [Nat.add_assoc]
                  exact (hval (j + q) c hc).1) (fun q c hq => by
                  have hlt : q < n := by have := (List.getElem?_eq_some_iff.1 hq).1; omega
                  rw [c4 q hlt] at hq
                  exact (hval (j + q) c hq).2)
                exact ⟨v, by simp [Instr.loadAt, Instr.sureAddr, hv], hrep⟩
        | map d es => simp [hk] at h
        | iter s p => simp [hk] at h
        | loop => simp [hk] at h
    | pp cs off =>
      simp only at h
      cases hc : cut cs off n with
      | none => simp [hc] at h
      | some l =>
        simp only [hc, Option.bind_some] at h
        obtain ⟨c1, c2, c3, c4⟩ := cut_some hc
        cases ha with
        | pp cs off b o val hb hM h1 h2 =>
          obtain ⟨v, hv, hrep⟩ := run_load_cells (P := P) hn (b := b) (off := o + off) h c3 (fun j => val (off + j)) (fun j hj => by
            rw [Nat.add_assoc]
            exact h1 (off + j) (cs[off + j]'(by omega)) (by simp)) (fun j c hj => by
            have hlt : j < n := by have := (List.getElem?_eq_some_iff.1 hj).1; omega
            rw [c4 j hlt] at hj
            exact h2 (off + j) c hj)
          exact ⟨v, by simp [Instr.loadAt, Instr.sureAddr, hv], hrep⟩
    | _ => simp at h

/-- A field's place. -/
theorem fieldT_some {t : TypeId} {f off n : Nat} {u : TypeId} (h : fieldT P t f = some (off, n, u)) :
    ∃ fs g, P.underlying t = some (.struct fs) ∧ fs[f]? = some g ∧ szT P g.type = some n ∧ g.offset = off ∧ g.type = u := by
  unfold fieldT at h
  cases hu : P.underlying t with
  | none => simp [hu] at h
  | some d =>
    cases d with
    | struct fs =>
      simp only [hu] at h
      cases hf : fs[f]? with
      | none => simp [hf] at h
      | some g =>
        simp only [hf] at h
        cases hs : szT P g.type with
        | none => simp [hs] at h
        | some m =>
          simp only [hs, Option.map_some, Option.some.injEq, Prod.mk.injEq] at h
          obtain ⟨h1, h2, h3⟩ := h
          subst h2
          exact ⟨fs, g, rfl, hf, hs, h1, h3⟩
    | _ => simp [hu] at h

theorem fieldAddr_ok {t : TypeId} {f : Nat} {a x : PV} {va : Value}
    (h : (match fieldT P t f, a with
      | some (off, n, _), .ptr k s i j => if n = 0 then none else some (.ptr k s i (j + off))
      | some (off, n, _), .pp l o => if n = 0 then none else some (.pp l (o + off))
      | _, _ => none) = some x) (ha : Rep w ρ M a va) :
    ∃ v, (Instr.fieldAt t va f).run P w = .ok v w ∧ Rep w ρ M x v := by
  cases hf : fieldT P t f with
  | none => simp [hf] at h
  | some q =>
    obtain ⟨off, n, u⟩ := q
    obtain ⟨fs, g, h1, h2, h3, h4, h5⟩ := fieldT_some hf
    cases a with
    | ptr k s i j =>
      simp only [hf] at h
      split at h
      · cases h
      · rename_i hn
        simp only [Option.some.injEq] at h
        subst h
        cases ha with
        | ptr k s i j b hb =>
          refine ⟨.pointer (some ⟨b, i * s + j + off, none⟩), ?_, by rw [Nat.add_assoc]; exact .ptr k s i _ b hb⟩
          simp [Instr.fieldAt, run_underlying h1, h2, Instr.sureAddr, fieldPlace, run_sizeOf h3, hn, Addr.add_lit, h4]
    | pp l o =>
      simp only [hf] at h
      split at h
      · cases h
      · rename_i hn
        simp only [Option.some.injEq] at h
        subst h
        cases ha with
        | pp l o b q val hb hM g1 g2 =>
          refine ⟨.pointer (some ⟨b, q + o + off, none⟩), ?_, ?_⟩
          · simp [Instr.fieldAt, run_underlying h1, h2, Instr.sureAddr, fieldPlace, run_sizeOf h3, hn, Addr.add_lit, h4]
          · rw [Nat.add_assoc]; exact .pp l _ b q val hb hM g1 g2
    | _ => simp [hf] at h

theorem part_ok {u : TypeId} {n off : Nat} {l : List PV} {vs : Array Value} {x : PV} (hn : szT P u = some n) (h : (cut l off n).bind (asType P u) = some x) (hl : l.length = vs.size)
    (hr : ∀ (i : Nat) (c : PV) (v : Value), l[i]? = some c → vs[i]? = some v → Rep w ρ M c v) :
    ∃ v, (part u vs off).run P w = .ok v w ∧ Rep w ρ M x v := by
  cases hc : cut l off n with
  | none => simp [hc] at h
  | some m =>
    simp only [hc, Option.bind_some] at h
    obtain ⟨c1, c2, c3, c4⟩ := cut_some hc
    have hvs : ∀ i, i < n → ((vs.toList.drop off).take n)[i]? = vs[off + i]? := fun i hi => by
      rw [List.getElem?_take_of_lt hi, List.getElem?_drop, Array.getElem?_toList]
    have key := rep_asType (w := w) (ρ := ρ) (M := M) (vs := (vs.toList.drop off).take n) h (by simp; omega) (fun i c v hi hv => by
      have hlt : i < n := by have := (List.getElem?_eq_some_iff.1 hi).1; omega
      rw [c4 i hlt] at hi
      rw [hvs i hlt] at hv
      exact hr _ c v hi hv)
    rcases key with ⟨ha, hrep⟩ | ⟨ha, v, hv, hrep⟩
    · refine ⟨.agg (vs.extract off (off + n)), by simp [part, run_isAgg ha, run_sizeOf hn], ?_⟩
      have e : vs.extract off (off + n) = ((vs.toList.drop off).take n).toArray := by
        apply Array.ext'
        rw [Array.toList_extract, List.extract_eq_take_drop]
        simp
      rw [e]; exact hrep
    · have hn1 : n = 1 := by have := congrArg List.length hv; simp at this; omega
      subst hn1
      refine ⟨v, ?_, hrep⟩
      have h0 := hvs 0 (by omega)
      rw [hv] at h0
      simp only [List.getElem?_cons_zero, Nat.add_zero] at h0
      simp [part, run_isAgg ha, ← h0]

theorem field_ok {t : TypeId} {f : Nat} {a x : PV} {va : Value}
    (h : (match fieldT P t f, a with
      | some (off, n, u), .agg l => (cut l off n).bind (asType P u)
      | _, _ => none) = some x) (ha : Rep w ρ M a va) :
    ∃ v, (Instr.field t va f).run P w = .ok v w ∧ Rep w ρ M x v := by
  cases hf : fieldT P t f with
  | none => simp [hf] at h
  | some q =>
    obtain ⟨off, n, u⟩ := q
    obtain ⟨fs, g, h1, h2, h3, h4, h5⟩ := fieldT_some hf
    cases a with
    | agg l =>
      simp only [hf] at h
      cases ha with
      | agg l cs hl hr =>
        subst h4 h5
        obtain ⟨v, hv, hrep⟩ := part_ok h3 h hl hr
        exact ⟨v, by simp [Instr.field, run_underlying h1, h2, asAgg, hv], hrep⟩
    | _ => simp [hf] at h
end
end Go.Proofs.YtigfgicjjhepoaaGreatDoor.VA
