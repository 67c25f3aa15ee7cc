/- Parts of the proof: Uf, Ug -/
import Derived.Test.YtigfgicjjhepoaaGreatDoorMf
import Derived.Test.YtigfgicjjhepoaaGreatDoorRows
import Derived.Test.YtigfgicjjhepoaaGreatDoorTie
import Derived.Test.YtigfgicjjhepoaaGreatDoorCards
import Derived.ProofKit
import Derived.OpenShut
import Derived.LaidMore
import Derived.Lay
import Derived.SevenTiedAt
import Derived.Stop.Joined
import Derived.Lib.SmallJoins
import Derived.Laws.IdiomArrays
import Derived.Test.YtigfgicjjhepoaaGreatDoorMi
set_option linter.unusedVariables false
set_option linter.unusedSimpArgs false
namespace Go.Proofs.YtigfgicjjhepoaaGreatDoor.VA
open Go Go.Proofs Go.Proofs.YtigfgicjjhepoaaGreatDoor Go.ChangeShapes Go.WideShapes Go.ChangeAt Go.RowKit

theorem seat_own : ownKnob Pr.godebug = none := by kernel_rfl
theorem seat_laidOut : laidOutB Pr = true := by kernel_rfl

theorem trodAll_below {H : Type} {enc : TypeId × Value → H} {W W' : World} (hB : Below W.heap.size W W') : ∀ {ts : List TypeId} {vs : List Value} {ds : List (DataW H)} {ps : List MemPlace}, (∀ t ∈ ts, Pr.readableRec t = true ∧ t < Pr.types.size) →
    DataW.TrodAll enc Pr W 0 (fun _ => true) true ts vs ds ps → (∀ x ∈ ps, x.block < W.heap.size) → DataW.TrodAll enc Pr W' 0 (fun b => decide (b < W.heap.size)) true ts vs ds ps
  | [], vs, ds, ps, _, h, _ => by
    obtain ⟨rfl, rfl, rfl⟩ := trodAll_nil h
    exact trodAll_mk0
  | t :: ts, vs, ds, ps, ht, h, hlt => by
    obtain ⟨v, vs1, d, ds1, a, b, rfl, rfl, rfl, h1, h2⟩ := trodAll_cons h
    exact ⟨a, b, Below.trod seat_laidOut (ht t (by simp)).1 (ht t (by simp)).2 h1 hB (fun x hx => hlt x (by simp [hx])), trodAll_below hB (fun u hu => ht u (by simp [hu])) h2 (fun x hx => hlt x (by simp [hx])), rfl⟩

/-- What a law leaves that answers true and writes nothing that was there. -/
theorem post_true {H : Type} {enc : TypeId × Value → H} {f : Func} {s : ChangeSpec} {W W' : World} {args : Array Value} {ds gs : List (DataW H)} {before : List MemPlace} (hW : DataW.Whole enc Pr f.params.toList s.vars false W args.toList ds gs before) (hg : s.vars = [])
    (hts : ∀ t ∈ f.params.toList, Pr.readableRec t = true ∧ t < Pr.types.size) (hr : f.resultTypes = #[4]) (hs : s.fn H (ds ++ []) = { results := [.lit (.bool true)], args := ds }) (hB : Below W.heap.size W W') : s.post enc Pr f false true false false W args (.bool true) W' := by
  have hlt := hW.lt
  have hW' := hW
  obtain ⟨p, q, hA, hV, rfl, hfz, hnd⟩ := hW
  rw [hg] at hV
  obtain ⟨rfl, rfl⟩ := trodVars_none hV
  refine ⟨ds, [], _, [], p, [], hW', ?_, ?_, ?_, hB.frame _, fun h => by cases h⟩
  · rw [hs, hr]; exact trodAll_mk1 (shut_bool Tryz.underlying4 true)
  · rw [hs]
    exact trodAll_below hB hts hA (fun x hx => hlt x (by simp [hx]))
  · rw [hs, hg]; rfl

/-- From what is known of a law's function to its call. -/
theorem calls_true {f : FuncId} {fn : Func} {c : Code} {args : Array Value} {W : World} {l : List PV} (hf : Pr.funcs[f]? = some fn) (hb : fn.body = some c) (hn : (fn.name == "runtime.NumGoroutine") = false) (h : Known f l (.bool true)) (hv : Reps W (fun _ => none) (fun _ => False) l args.toList) :
    Calls Pr f args W (fun e W' => e = .returned (.bool true) ∧ Below W.heap.size W W') := by
  obtain ⟨m, hm⟩ := h
  have hD := (orc_ok seatP seatC seat1 seatI m).pure f l (.bool true) (hm m (Nat.le_refl m)) 0 W (fun _ => False) args (seatG 0 W) (Nat.zero_le _) (fun b h => h.elim) hv
  rcases hD with ⟨fn', c', h1, h2, h3, h4⟩ | ⟨v, w', h1, h2⟩
  · refine Calls.mono h4 ?_
    rintro e w' ⟨v, rfl, hB, hr⟩
    exact ⟨by rw [hr.bool_inv], hB⟩
  · exfalso
    have hne : fn.name ≠ "runtime.NumGoroutine" := by simpa using hn
    simp [callFunc, hf, hne, hb] at h1


/-! ### what is handed in, opened -/
abbrev Rp (W : World) : PV → Value → Prop := Rep W (fun _ => none) (fun _ => False)
/-- Cells. -/
structure CRep (W : World) (l : List PV) (cs : List Value) : Prop where
  len : l.length = cs.length
  get : ∀ (j : Nat) (x : PV) (v : Value), l[j]? = some x → cs[j]? = some v → Rp W x v
theorem CRep.nil {W : World} : CRep W [] [] := ⟨rfl, fun j x v h => by simp at h⟩
theorem CRep.cons {W : World} {x : PV} {v : Value} {l : List PV} {cs : List Value} (h : Rp W x v) (g : CRep W l cs) : CRep W (x :: l) (v :: cs) := ⟨by simp [g.len], fun j y u h1 h2 => by
  cases j with
  | zero => simp only [List.getElem?_cons_zero, Option.some.injEq] at h1 h2; subst h1 h2; exact h
  | succ j => exact g.get j y u (by simpa using h1) (by simpa using h2)⟩
theorem CRep.append {W : World} {l m : List PV} {cs ds : List Value} (h : CRep W l cs) (g : CRep W m ds) : CRep W (l ++ m) (cs ++ ds) := ⟨by simp [h.len, g.len], fun j y u h1 h2 => by
  by_cases hj : j < l.length
  · rw [List.getElem?_append_left hj] at h1
    rw [List.getElem?_append_left (by have := h.len; omega)] at h2
    exact h.get j y u h1 h2
  · rw [List.getElem?_append_right (by omega)] at h1
    rw [List.getElem?_append_right (by have := h.len; omega), ← h.len] at h2
    exact g.get _ y u h1 h2⟩
theorem CRep.agg {W : World} {l : List PV} {cs : Array Value} (h : CRep W l cs.toList) : Rp W (.agg l) (.agg cs) := .agg _ _ (by simpa using h.len) (fun i c v hc hv => h.get i c v hc (by simpa using hv))
theorem mapM_range {α : Type} {f : Nat → Option α} : ∀ {n : Nat} {l : List α}, (List.range n).mapM f = some l → l.length = n ∧ ∀ i, i < n → f i = l[i]? := fun {n l} h => by
  have h1 := mapM_get h
  have hl : l.length = n := by
    have := results_ok.mapM_len h
    simpa using this.symm
  refine ⟨hl, fun i hi => ?_⟩
  have := h1 i
  rw [List.getElem?_range hi] at this
  simpa using this.symm
theorem exists_list {α : Type} {p : Nat → α → Prop} : ∀ n, (∀ i, i < n → ∃ x, p i x) → ∃ l : List α, l.length = n ∧ ∀ i x, l[i]? = some x → p i x
  | 0, _ => ⟨[], rfl, fun i x h => by simp at h⟩
  | n + 1, h => by
    obtain ⟨l, hl, hp⟩ := exists_list n (fun i hi => h i (by omega))
    obtain ⟨x, hx⟩ := h n (by omega)
    refine ⟨l ++ [x], by simp [hl], fun i y hy => ?_⟩
    rcases Nat.lt_trichotomy i n with q | q | q
    · rw [List.getElem?_append_left (by omega)] at hy; exact hp i y hy
    · subst q
      rw [List.getElem?_append_right (by omega), hl, Nat.sub_self] at hy
      cases hy; exact hx
    · rw [List.getElem?_eq_none (by simp; omega)] at hy; cases hy
section
variable {H : Type} {enc : TypeId × Value → H} {W : World} {fuel : Nat} {cs : List Value} {y : DataW H × List MemPlace}
/-- A slice: of elements that are opened. -/
theorem slice_open {t e : TypeId} {sz : Nat} (ht : Pr.underlying t = some (.slice e)) (hsz : Pr.cellsOf e = sz) (hpos : 0 < sz) {Good : PV → Prop}
    (hel : ∀ (n : Nat) (cs' : List Value) (y' : DataW H × List MemPlace), n < fuel → cs'.length = sz → DataW.trod enc Pr W 0 (fun _ => true) true n e cs' = some y' → ∃ p : PV, p.cells.length = sz ∧ CRep W p.cells cs' ∧ Good p)
    (h : DataW.trod enc Pr W 0 (fun _ => true) true fuel t cs = some y) : ∃ f l v, cs = [v] ∧ Rp W (.sl f l) v ∧ ∀ p ∈ l, Good p := by
  rcases DataW.trod_slice ht h with ⟨e1, _⟩ | ⟨a', len', cap', elems, rest, n, hn, e1, _, _, hlc, _, hle, hev, _⟩
  · exact ⟨false, [], _, e1, .sl0 false none 0 (fun e => by cases e), fun p hp => by cases hp⟩
  · subst hn
    rw [hsz] at hev
    have hex : ∀ i, i < len' → ∃ q : PV × List Value, q.1.cells.length = sz ∧ CRep W q.1.cells q.2 ∧ Good q.1 ∧ q.2.length = sz ∧ ∀ j x, q.2[j]? = some x → W.cell? ((a'.add (i * sz)).add j) = some x := fun i hi => by
      have h1 := hev i hi
      rw [List.getElem?_eq_getElem (by omega), Option.bind_eq_some_iff] at h1
      obtain ⟨cs', h2, h3⟩ := h1
      unfold World.cells? at h2
      rw [if_pos (Nat.zero_le _)] at h2
      obtain ⟨g1, g2⟩ := mapM_range h2
      obtain ⟨p, p1, p2, p3⟩ := hel n cs' _ (by omega) g1 h3
      exact ⟨(p, cs'), p1, p2, p3, g1, fun j x hx => by
        have hj := (List.getElem?_eq_some_iff.1 hx).1
        rw [g2 j (by simp only at hj; omega)]; exact hx⟩
    obtain ⟨l, hl, hp⟩ := exists_list (p := fun i (q : PV × List Value) => q.1.cells.length = sz ∧ CRep W q.1.cells q.2 ∧ Good q.1 ∧ q.2.length = sz ∧ ∀ j x, q.2[j]? = some x → W.cell? ((a'.add (i * sz)).add j) = some x) len' hex
    refine ⟨false, l.map (·.1), _, e1, ?_, fun p hp' => by
      obtain ⟨q, hq, rfl⟩ := List.mem_map.1 hp'
      obtain ⟨i, hi, rfl⟩ := List.getElem_of_mem hq
      exact (hp i l[i] (List.getElem?_eq_getElem hi)).2.2.1⟩
    obtain ⟨ab, ao, asp⟩ := a'
    cases l with
    | nil =>
      have : len' = 0 := by simpa using hl.symm
      subst this
      exact .sl0 false _ cap' (fun e => by cases e)
    | cons d0 l' =>
      have hsp : asp = none := by
        obtain ⟨_, _, _, q4, q5⟩ := hp 0 d0 rfl
        have h0 : ∃ x, d0.2[0]? = some x := ⟨d0.2[0]'(by omega), List.getElem?_eq_getElem _⟩
        obtain ⟨x, hx⟩ := h0
        have := q5 0 x hx
        simp only [Nat.zero_mul, Addr.add, if_true] at this
        unfold World.cell? at this
        split at this
        · split at this
          · cases this
          · rename_i hns; simpa using hns
        · cases this
      subst hsp
      have hcell : ∀ i (q : PV × List Value), (d0 :: l')[i]? = some q → ∀ j x, q.2[j]? = some x → W.cell? ⟨ab, ao + i * sz + j, none⟩ = some x := fun i q hd j x hx => by
        have := (hp i q hd).2.2.2.2 j x hx
        have e : (Addr.add (Addr.add ⟨ab, ao, none⟩ (i * sz)) j) = ⟨ab, ao + i * sz + j, none⟩ := by
          unfold Addr.add
          split <;> split <;> simp_all <;> omega
        rwa [e] at this
      rw [← hl]
      have hlen : (d0 :: l').length = ((d0 :: l').map (·.1)).length := by simp
      rw [hlen]
      have hget : ∀ (i : Nat) (v : PV), ((d0 :: l').map (·.1))[i]? = some v → ∃ q, (d0 :: l')[i]? = some q ∧ v = q.1 := fun i v h => by
        rw [List.getElem?_map, Option.map_eq_some_iff] at h
        obtain ⟨q, h1, h2⟩ := h
        exact ⟨q, h1, h2.symm⟩
      refine .sl false _ ab ao cap' sz (fun i j => (((d0 :: l')[i]?).bind fun q => q.2[j]?).getD undef) (by rw [List.length_map, hl]; exact hlc) (fun e => by cases e) (fun v hv => ?_) hpos (fun e => e) (fun i v j x hi hj => ?_) (fun i v j x hi hj => ?_)
      · obtain ⟨q, hq, rfl⟩ := List.mem_map.1 hv
        obtain ⟨i, hi, rfl⟩ := List.getElem_of_mem hq
        exact (hp i _ (List.getElem?_eq_getElem hi)).1
      · obtain ⟨q, hd, rfl⟩ := hget i v hi
        obtain ⟨q1, q2, q3, q4, q5⟩ := hp i q hd
        have hj' := (List.getElem?_eq_some_iff.1 hj).1
        have hx : q.2[j]? = some (q.2[j]'(by omega)) := List.getElem?_eq_getElem _
        rw [hd, Option.bind_some, hx]
        exact hcell i q hd j _ hx
      · obtain ⟨q, hd, rfl⟩ := hget i v hi
        obtain ⟨q1, q2, q3, q4, q5⟩ := hp i q hd
        have hj' := (List.getElem?_eq_some_iff.1 hj).1
        have hx : q.2[j]? = some (q.2[j]'(by omega)) := List.getElem?_eq_getElem _
        rw [hd, Option.bind_some, hx]
        exact q2.get j x _ hj hx
theorem int_open {t : TypeId} {k : IntKind} (ht : Pr.underlying t = some (.int k)) (h : DataW.trod enc Pr W 0 (fun _ => true) true fuel t cs = some y) : ∃ n, cs = [.int k n] ∧ (Lit.int k n).wf = true := by
  obtain ⟨n, h1, _, h2⟩ := DataW.trod_int ht h
  exact ⟨n, h1, h2⟩
end
/-- A value of a type that is no struct and no array is its one cell. -/
theorem val_one {P : Program} {t : TypeId} {v x : Value} {W : World} {r : Reach} {base : Nat} (hv : Value.okWide P W r base t v) (hn : ∀ fs, P.underlying t ≠ some (.struct fs)) (ha : ∀ n e, P.underlying t ≠ some (.array n e)) (h : v.cells.toList = [x]) : v = x := by
  cases v with
  | agg cs =>
    exfalso
    unfold Value.okWide Cell.okWide Cell.ok at hv
    generalize P.underlying t = u at hv hn ha
    cases u with
    | none => simp at hv
    | some u => cases u <;> simp at hv hn ha
  | _ => simpa [Value.cells] using h
theorem val_agg {P : Program} {t : TypeId} {v : Value} {W : World} {r : Reach} {base : Nat} (hv : Value.okWide P W r base t v) (hs : (∃ fs, P.underlying t = some (.struct fs)) ∨ ∃ n e, P.underlying t = some (.array n e)) : ∃ cs, v = .agg cs ∧ cs.size = P.cellsOf t := by
  unfold Value.okWide at hv
  rcases hs with ⟨fs, h⟩ | ⟨n, e, h⟩
  · rw [h] at hv
    obtain ⟨cs, h1, h2, _⟩ := hv
    exact ⟨cs, h1, h2⟩
  · rw [h] at hv
    obtain ⟨cs, h1, h2, _⟩ := hv
    exact ⟨cs, h1, h2⟩
end Go.Proofs.YtigfgicjjhepoaaGreatDoor.VA
set_option linter.unusedVariables false
set_option linter.unusedSimpArgs false
set_option maxRecDepth 100000
namespace Go.Proofs.YtigfgicjjhepoaaGreatDoor.VA
open Go Go.Proofs Go.Proofs.YtigfgicjjhepoaaGreatDoor Go.ChangeShapes Go.WideShapes Go.ChangeAt Go.RowKit

theorem map_of {α : Type} {g : α → PV} {Q : α → Prop} : ∀ {l : List PV}, (∀ p ∈ l, ∃ a, Q a ∧ p = g a) → ∃ c : List α, l = c.map g ∧ ∀ a ∈ c, Q a
  | [], _ => ⟨[], rfl, fun a h => by cases h⟩
  | p :: l, h => by
    obtain ⟨a, ha, rfl⟩ := h p (by simp)
    obtain ⟨c, hc, hq⟩ := map_of (l := l) (fun x hx => h x (by simp [hx]))
    exact ⟨a :: c, by simp [hc], fun b hb => by
      rcases List.mem_cons.1 hb with rfl | hb
      · exact ha
      · exact hq b hb⟩
theorem wf_u8 {n : Int} (h : (Lit.int .u8 n).wf = true) : 0 ≤ n ∧ n < 256 := by
  simp [Lit.wf, IntKind.has, IntKind.min, IntKind.max, IntKind.bits, IntKind.signed] at h; omega
theorem wf_i16 {n : Int} (h : (Lit.int .i16 n).wf = true) : -32768 ≤ n ∧ n < 32768 := by
  simp [Lit.wf, IntKind.has, IntKind.min, IntKind.max, IntKind.bits, IntKind.signed] at h; omega
section
variable {H : Type} {enc : TypeId × Value → H} {W : World} {base : Nat} {v : Value} {d : DataW H} {p : List MemPlace}
theorem one_field {t ft : TypeId} {fs : Array Field} {f0 : Field} {fuel : Nat} {cs : List Value} {y : DataW H × List MemPlace} (ht : Pr.underlying t = some (.struct fs)) (hs : fs.size = 1) (h0 : fs[0]? = some f0) (ho : f0.offset = 0) (hft : f0.type = ft) (hsz : Pr.cellsOf t = Pr.cellsOf ft)
    (h : DataW.trod enc Pr W 0 (fun _ => true) true fuel t cs = some y) : ∃ n y0, n < fuel ∧ DataW.trod enc Pr W 0 (fun _ => true) true n ft cs = some y0 := by
  obtain ⟨xs, n, hn, _, hl, hxl, hf⟩ := DataW.trod_struct ht h
  have h1 := hf 0 f0 h0
  rw [ho, List.drop_zero, hft, List.take_of_length_le (by omega), List.getElem?_eq_getElem (by omega)] at h1
  exact ⟨n, _, by omega, h1⟩
theorem arr3_open {fuel : Nat} {cs : List Value} {y : DataW H × List MemPlace} (hl : cs.length = 3) (h : DataW.trod enc Pr W 0 (fun _ => true) true fuel 78 cs = some y) : ∃ q : PV, q.cells.length = 3 ∧ CRep W q.cells cs ∧ ∃ t : Z.C3, t.Ok ∧ q = Z.arrV t := by
  match cs, hl with
  | [c0, c1, c2], _ =>
    obtain ⟨y0, y1, y2, n, _, h0, h1, h2⟩ := trod_array3 Tryz.underlying78 (by kernel_rfl) h
    obtain ⟨a, e0, w0⟩ := int_open Tryz.underlying5 h0
    obtain ⟨b, e1, w1⟩ := int_open Tryz.underlying5 h1
    obtain ⟨c, e2, w2⟩ := int_open Tryz.underlying5 h2
    simp only [List.cons.injEq, and_true] at e0 e1 e2
    subst e0 e1 e2
    exact ⟨Z.arrV ⟨a, b, c⟩, rfl, CRep.cons (Rep.int _ _) (CRep.cons (Rep.int _ _) (CRep.cons (Rep.int _ _) CRep.nil)), ⟨a, b, c⟩, ⟨wf_u8 w0, wf_u8 w1, wf_u8 w2⟩, rfl⟩
theorem chain_cells {fuel : Nat} {cs : List Value} {y : DataW H × List MemPlace} (h : DataW.trod enc Pr W 0 (fun _ => true) true fuel 48 cs = some y) : ∃ (f : Bool) (c : List Z.C3), CRep W [.sl f (c.map Z.arrV)] cs ∧ ∀ t ∈ c, Z.C3.Ok t := by
  obtain ⟨n, y0, _, h0⟩ := one_field (ft := 46) Tryz.underlying48 rfl rfl rfl rfl (by kernel_rfl) h
  obtain ⟨f, l, v, rfl, hv, hg⟩ := slice_open Tryz.underlying46 (show Pr.cellsOf 78 = 3 by kernel_rfl) (by decide) (Good := fun p => ∃ t : Z.C3, t.Ok ∧ p = Z.arrV t) (fun n cs' y' _ hl hy => arr3_open hl hy) h0
  obtain ⟨c, rfl, hc⟩ := map_of hg
  exact ⟨f, c, CRep.cons hv CRep.nil, hc⟩
theorem chain_open {r : Reach} (hv : Value.okWide Pr W r base 48 v) (h : DataW.Trod enc Pr W 0 (fun _ => true) true 48 v d p) : ∃ (f : Bool) (c : List Z.C3), Rp W (.agg [.sl f (c.map Z.arrV)]) v ∧ ∀ t ∈ c, Z.C3.Ok t := by
  obtain ⟨cs, rfl, _⟩ := val_agg hv (.inl ⟨_, Tryz.underlying48⟩)
  obtain ⟨fuel, h⟩ := h
  obtain ⟨f, c, hc, hok⟩ := chain_cells h
  exact ⟨f, c, hc.agg, hok⟩
theorem scalar {t : TypeId} {u : TypeDesc} {r : Reach} {x : Value} (ht : Pr.underlying t = some u) (hs : (match u with
    | .struct _ => false
    | .array _ _ => false
    | _ => true) = true) (hv : Value.okWide Pr W r base t v) (h : v.cells.toList = [x]) : v = x :=
  val_one hv (fun fs e => by rw [ht] at e; cases e; cases hs) (fun n e' e => by rw [ht] at e; cases e; cases hs) h
theorem bool_open {r : Reach} (hv : Value.okWide Pr W r base 4 v) (h : DataW.Trod enc Pr W 0 (fun _ => true) true 4 v d p) : ∃ b, Rp W (.bool b) v := by
  obtain ⟨fuel, h⟩ := h
  obtain ⟨b, e, _⟩ := DataW.trod_bool Tryz.underlying4 h
  obtain rfl := scalar Tryz.underlying4 rfl hv e
  exact ⟨b, .bool b⟩
theorem ints_open {t e : TypeId} {k : IntKind} {r : Reach} (ht : Pr.underlying t = some (.slice e)) (he : Pr.underlying e = some (.int k)) (hsz : Pr.cellsOf e = 1) (hv : Value.okWide Pr W r base t v) (h : DataW.Trod enc Pr W 0 (fun _ => true) true t v d p) : ∃ (f : Bool) (ns : List Int), Rp W (.sl f (ns.map (PV.int k))) v ∧ ∀ n ∈ ns, (Lit.int k n).wf = true := by
  obtain ⟨fuel, h⟩ := h
  obtain ⟨f, l, x, e0, hx, hg⟩ := slice_open ht hsz (by decide) (Good := fun p => ∃ n : Int, (Lit.int k n).wf = true ∧ p = PV.int k n) (fun n cs' y' _ hl hy => by
    obtain ⟨m, rfl, hm⟩ := int_open he hy
    exact ⟨.int k m, rfl, CRep.cons (Rep.int _ _) CRep.nil, m, hm, rfl⟩) h
  obtain ⟨c, rfl, hc⟩ := map_of hg
  obtain rfl := scalar ht rfl hv e0
  exact ⟨f, c, hx, hc⟩
end
end Go.Proofs.YtigfgicjjhepoaaGreatDoor.VA
