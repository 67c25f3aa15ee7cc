/- The relation between the evaluator's state and the machine's. -/
import Derived.Test.YtigfgicjjhepoaaGreatDoorVc
set_option linter.unusedVariables false
set_option linter.unusedSimpArgs false
namespace Go.Proofs.YtigfgicjjhepoaaGreatDoor.VA
open Go Go.RowKit

/-- The blocks that may still be written. -/
def Mut (Ext : Nat → Prop) (ρ : Key → Option Nat) (H : Heap) : Nat → Prop := fun b => Ext b ∨ ∃ k sz els, H.blk k = some (.row sz els false) ∧ ρ k = some b

def scalV : Value → Bool
  | .int _ _ | .string _ => true
  | _ => false

def BlkRel (w : World) (ρ : Key → Option Nat) (M : Nat → Prop) (b : Nat) : Blk → Prop
  | .row sz els _ => ∃ (arr : Array Value) (e : TypeId), w.heap[b]? = some (.cells arr e (0, 0)) ∧ els.length * sz ≤ arr.size ∧ 0 < sz ∧ (∀ x ∈ els, x.cells.length = sz) ∧
      ∀ (i : Nat) (x : PV) (j : Nat) (c : PV) (v : Value), els[i]? = some x → x.cells[j]? = some c → arr[i * sz + j]? = some v → Rep w ρ M c v
  | .map d es => ∃ (en : Array MapEntry), w.heap[b]? = some (.map en en.size) ∧ en.size = es.length ∧
      ∀ (i : Nat) (k v : PV) (e : MapEntry), es[i]? = some (k, v) → en[i]? = some e → Rep w ρ M k e.key ∧ Rep w ρ M v e.val ∧ e.born = i ∧ isKeyV d k = true
  | .iter s pos => w.heap[b]? = some (.stringIter s pos)
  | .loop fn nt tm ps assign body state pend => ∃ (tmps : Array Value) (d : Nat), w.heap[b]? = some (.loop { state := state, pending := pend, fn := fn, tmps := tmps, params := ps, assign := assign, body := body, defers := d }) ∧ tmps.size = nt ∧ ∀ i, Rep w ρ M (tm i) (tmps.getD i undef)

structure HRel (ng base : Nat) (Ext : Nat → Prop) (ρ : Key → Option Nat) (H : Heap) (w : World) : Prop where
  ngb : ng ≤ base
  size : base ≤ w.heap.size
  ext : ∀ b, Ext b → b < base ∧ ng ≤ b
  dom : ∀ k b, ρ k = some b → base ≤ b ∧ b < w.heap.size
  fresh : ∀ p d n, H.cnt p d ≤ n → ρ (p, d, n) = none ∧ H.blk (p, d, n) = none
  inj : ∀ k k' b, H.blk k ≠ none → H.blk k' ≠ none → ρ k = some b → ρ k' = some b → k = k'
  blk : ∀ k x, H.blk k = some x → (∃ sz fz, x = .row sz [] fz ∧ ρ k = none) ∨ ∃ b, ρ k = some b ∧ BlkRel w ρ (Mut Ext ρ H) b x

theorem evo_below {ng base : Nat} {Ext : Nat → Prop} {ρ : Key → Option Nat} {H : Heap} {w w' : World} (h : HRel ng base Ext ρ H w) (B : Below w.heap.size w w') (M : Nat → Prop) : Evo w ρ M w' ρ M where
  keys _ _ h := h
  cell a v hc _ := (B.cell (cell_lt hc)).trans hc
  rooms b n hr := by
    obtain ⟨arr, e, hb, hn⟩ := hr
    exact ⟨arr, e, (B.block b (Array.getElem?_eq_some_iff.1 hb).1).trans hb, hn⟩
  muts _ _ h := h
  size := B.size
  defs b x hb := (B.block b (Array.getElem?_eq_some_iff.1 hb).1).trans hb

theorem BlkRel.evo {w w' : World} {ρ ρ' : Key → Option Nat} {M M' : Nat → Prop} {b : Nat} {x : Blk} (E : Evo w ρ M w' ρ' M') (hb : w'.heap[b]? = w.heap[b]?) (h : BlkRel w ρ M b x) : BlkRel w' ρ' M' b x := by
  cases x with
  | row sz cs fz =>
    obtain ⟨arr, e, h1, h2, h3, h4, h5⟩ := h
    exact ⟨arr, e, hb.trans h1, h2, h3, h4, fun i x j c v hi hc hv => (h5 i x j c v hi hc hv).evo E⟩
  | map d es =>
    obtain ⟨en, h1, h2, h3⟩ := h
    exact ⟨en, hb.trans h1, h2, fun i k v e hi he => ⟨(h3 i k v e hi he).1.evo E, (h3 i k v e hi he).2.1.evo E, (h3 i k v e hi he).2.2⟩⟩
  | iter s pos => exact hb.trans h
  | loop fn nt tm ps assign body state pend =>
    obtain ⟨tmps, d, h1, h2, h3⟩ := h
    exact ⟨tmps, d, hb.trans h1, h2, fun i => (h3 i).evo E⟩

theorem BlkRel.lt {w : World} {ρ : Key → Option Nat} {M : Nat → Prop} {b : Nat} {x : Blk} (h : BlkRel w ρ M b x) : b < w.heap.size := by
  cases x with
  | row sz cs fz => obtain ⟨arr, e, h1, _⟩ := h; exact (Array.getElem?_eq_some_iff.1 h1).1
  | map d es => obtain ⟨en, h1, _⟩ := h; exact (Array.getElem?_eq_some_iff.1 h1).1
  | iter s pos => exact (Array.getElem?_eq_some_iff.1 h).1
  | loop fn nt tm ps assign body state pend => obtain ⟨tmps, d, h1, _⟩ := h; exact (Array.getElem?_eq_some_iff.1 h1).1

theorem HRel.below {ng base : Nat} {Ext : Nat → Prop} {ρ : Key → Option Nat} {H : Heap} {w w' : World} (h : HRel ng base Ext ρ H w) (B : Below w.heap.size w w') : HRel ng base Ext ρ H w' where
  ngb := h.ngb
  size := Nat.le_trans h.size B.size
  ext := h.ext
  dom k b hk := ⟨(h.dom k b hk).1, Nat.lt_of_lt_of_le (h.dom k b hk).2 B.size⟩
  fresh := h.fresh
  inj := h.inj
  blk k x hx := by
    rcases h.blk k x hx with h0 | ⟨b, hb, hr⟩
    · exact .inl h0
    · exact .inr ⟨b, hb, hr.evo (evo_below h B _) (B.block b hr.lt)⟩

/-- The state of the code: its temporaries, the heap. D: the deferred calls that stand. -/
structure Rel (ng base nt : Nat) (w0 : World) (Ext : Nat → Prop) (D : List Deferred) (ρ : Key → Option Nat) (st : St) (a : Act) (w : World) : Prop where
  tmps : ∀ i, Rep w ρ (Mut Ext ρ st.hp) (st.tm i) (a.tmps.getD i undef)
  size : a.tmps.size = nt
  defers : a.defers = D
  below : Below base w0 w
  heap : HRel ng base Ext ρ st.hp w

theorem getD_set {xs : Array Value} {i d : Nat} {v : Value} (hd : d < xs.size) : (xs.setIfInBounds d v).getD i undef = if i = d then v else xs.getD i undef := by
  simp only [Array.getD_eq_getD_getElem?, Array.getElem?_setIfInBounds]
  by_cases h : i = d
  · subst h; simp [hd]
  · rw [if_neg h, if_neg (fun e => h e.symm)]

theorem Rel.put {ng base nt : Nat} {w0 : World} {Ext : Nat → Prop} {D : List Deferred} {ρ : Key → Option Nat} {st : St} {a : Act} {w : World} (h : Rel ng base nt w0 Ext D ρ st a w) (d : Option Nat) (hd : ∀ i, d = some i → i < nt)
    {x : PV} {v : Value} (hx : Rep w ρ (Mut Ext ρ st.hp) x v) : Rel ng base nt w0 Ext D ρ (st.put d x) (a.put d v) w := by
  cases d with
  | none => exact h
  | some d =>
    have hlt := hd d rfl
    refine ⟨fun i => ?_, ?_, h.defers, h.below, h.heap⟩
    · simp only [Act.put, St.put]
      rw [getD_set (by rw [h.size]; exact hlt)]
      by_cases e : i = d
      · simp only [e, if_true]; exact hx
      · simp only [e, if_false]; exact h.tmps i
    · simp [Act.put, h.size]

/-- The world has grown, and nothing else has turned. -/
theorem Rel.grow {ng base nt : Nat} {w0 : World} {Ext : Nat → Prop} {D : List Deferred} {ρ : Key → Option Nat} {st : St} {a : Act} {w w' : World} (h : Rel ng base nt w0 Ext D ρ st a w) (B : Below w.heap.size w w') : Rel ng base nt w0 Ext D ρ st a w' :=
  ⟨fun i => (h.tmps i).evo (evo_below h.heap B _), h.size, h.defers, h.below.trans (B.mono h.heap.size), h.heap.below B⟩
end Go.Proofs.YtigfgicjjhepoaaGreatDoor.VA
