/- What the evaluator's values and heaps say of the machine's; what stays when the world grows. -/
import Derived.Test.YtigfgicjjhepoaaGreatDoorVb
set_option linter.unusedVariables false
set_option linter.unusedSimpArgs false
namespace Go.Proofs.YtigfgicjjhepoaaGreatDoor.VA
open Go Go.RowKit

/-- A row of at least n cells, none frozen, lies at b. -/
def room (w : World) (b n : Nat) : Prop := ∃ (arr : Array Value) (e : TypeId), w.heap[b]? = some (.cells arr e (0, 0)) ∧ n ≤ arr.size

inductive Rep (w : World) (ρ : Key → Option Nat) (M : Nat → Prop) : PV → Value → Prop
  | bool (b : Bool) : Rep w ρ M (.bool b) (.bool b)
  | int (k : IntKind) (n : Int) : Rep w ρ M (.int k n) (.int k n)
  | str (s : ByteArray) : Rep w ρ M (.str s) (.string s)
  | agg (l : List PV) (cs : Array Value) (hl : l.length = cs.size) (h : ∀ (i : Nat) (c : PV) (v : Value), l[i]? = some c → cs[i]? = some v → Rep w ρ M c v) : Rep w ρ M (.agg l) (.agg cs)
  | tup (l : List PV) (cs : Array Value) (hl : l.length = cs.size) (h : ∀ (i : Nat) (c : PV) (v : Value), l[i]? = some c → cs[i]? = some v → Rep w ρ M c v) : Rep w ρ M (.tup l) (.tuple cs)
  | sl0 (f : Bool) (a : Option Addr) (c : Nat) (hf : f = true → c = 0) : Rep w ρ M (.sl f []) (.slice a 0 c)
  | sl (f : Bool) (l : List PV) (b o c sz : Nat) (val : Nat → Nat → Value) (hc : l.length ≤ c) (hf : f = true → c = l.length) (hsz : ∀ v ∈ l, v.cells.length = sz) (hpos : 0 < sz) (hM : ¬ M b)
      (h1 : ∀ (i : Nat) (v : PV) (j : Nat) (x : PV), l[i]? = some v → v.cells[j]? = some x → w.cell? ⟨b, o + i * sz + j, none⟩ = some (val i j))
      (h2 : ∀ (i : Nat) (v : PV) (j : Nat) (x : PV), l[i]? = some v → v.cells[j]? = some x → Rep w ρ M x (val i j)) : Rep w ρ M (.sl f l) (.slice (some ⟨b, o, none⟩) l.length c)
  | ms0 (k : Key) (sz off : Nat) (a : Option Addr) : Rep w ρ M (.ms k sz off 0) (.slice a 0 0)
  | ms (k : Key) (sz off len b c : Nat) (hk : ρ k = some b) (hc : len ≤ c) (hr : room w b ((off + c) * sz)) : Rep w ρ M (.ms k sz off len) (.slice (some ⟨b, off * sz, none⟩) len c)
  | ptr (k : Key) (sz i j b : Nat) (hk : ρ k = some b) : Rep w ρ M (.ptr k sz i j) (.pointer (some ⟨b, i * sz + j, none⟩))
  | pp (l : List PV) (off b o : Nat) (val : Nat → Value) (hb : b < w.heap.size) (hM : ¬ M b)
      (h1 : ∀ (j : Nat) (x : PV), l[j]? = some x → w.cell? ⟨b, o + j, none⟩ = some (val j))
      (h2 : ∀ (j : Nat) (x : PV), l[j]? = some x → Rep w ρ M x (val j)) : Rep w ρ M (.pp l off) (.pointer (some ⟨b, o + off, none⟩))
  | nilp : Rep w ρ M .nilp (.pointer none)
  | fn (f : FuncId) (x y : List PV) (a b : Array Value) (hx : x.length = a.size) (hy : y.length = b.size)
      (h1 : ∀ (i : Nat) (c : PV) (v : Value), x[i]? = some c → a[i]? = some v → Rep w ρ M c v)
      (h2 : ∀ (i : Nat) (c : PV) (v : Value), y[i]? = some c → b[i]? = some v → Rep w ρ M c v) : Rep w ρ M (.fn f x y) (.func (.func f) a b)
  | nilfn : Rep w ρ M .nilfn .nilFunc
  | mapr (k : Key) (b : Nat) (hk : ρ k = some b) : Rep w ρ M (.mapr k) (.map (some b))
  | nilm : Rep w ρ M .nilm (.map none)
  | nilif : Rep w ρ M .nilif .nilIface
  | yld (k : Key) (b : Nat) (hk : ρ k = some b) : Rep w ρ M (.yld k) (.func (.yield b) #[] #[])
  | junk (v : Value) : Rep w ρ M .junk v

/-- What a step may do to what is represented. -/
structure Evo (w : World) (ρ : Key → Option Nat) (M : Nat → Prop) (w' : World) (ρ' : Key → Option Nat) (M' : Nat → Prop) : Prop where
  keys : ∀ k b, ρ k = some b → ρ' k = some b
  cell : ∀ a v, w.cell? a = some v → ¬ M a.block → w'.cell? a = some v
  rooms : ∀ b n, room w b n → room w' b n
  muts : ∀ b, b < w.heap.size → M' b → M b
  size : w.heap.size ≤ w'.heap.size
  defs : ∀ (b : Nat) (x : Option (List Deferred)), w.heap[b]? = some (Obj.deferred x) → w'.heap[b]? = some (Obj.deferred x)

theorem Evo.refl (w : World) (ρ : Key → Option Nat) (M : Nat → Prop) : Evo w ρ M w ρ M := ⟨fun _ _ h => h, fun _ _ h _ => h, fun _ _ h => h, fun _ _ h => h, Nat.le_refl _, fun _ _ h => h⟩

theorem cell_lt {w : World} {a : Addr} {v : Value} (h : w.cell? a = some v) : a.block < w.heap.size := World.block_lt_of_cell? w a h

theorem Evo.trans {w w1 w2 : World} {ρ ρ1 ρ2 : Key → Option Nat} {M M1 M2 : Nat → Prop} (h : Evo w ρ M w1 ρ1 M1) (g : Evo w1 ρ1 M1 w2 ρ2 M2) : Evo w ρ M w2 ρ2 M2 where
  keys k b hk := g.keys k b (h.keys k b hk)
  cell a v hc hm := g.cell a v (h.cell a v hc hm) (fun hm1 => hm (h.muts _ (cell_lt hc) hm1))
  rooms b n hr := g.rooms b n (h.rooms b n hr)
  muts b hb hm := h.muts b hb (g.muts b (Nat.lt_of_lt_of_le hb h.size) hm)
  size := Nat.le_trans h.size g.size
  defs b x hb := g.defs b x (h.defs b x hb)

theorem Rep.evo {w w' : World} {ρ ρ' : Key → Option Nat} {M M' : Nat → Prop} (E : Evo w ρ M w' ρ' M') {x : PV} {v : Value} (h : Rep w ρ M x v) : Rep w' ρ' M' x v := by
  induction h with
  | bool b => exact .bool b
  | int k n => exact .int k n
  | str s => exact .str s
  | agg l cs hl h ih => exact .agg l cs hl ih
  | tup l cs hl h ih => exact .tup l cs hl ih
  | sl0 f a c hf => exact .sl0 f a c hf
  | sl f l b o c sz val hc hf hsz hpos hM h1 h2 ih =>
    by_cases hl : l = []
    · subst hl
      exact .sl0 f _ c (fun h => by simpa using hf h)
    · refine .sl f l b o c sz val hc hf hsz hpos (fun hm => ?_) (fun i v j x hi hj => E.cell _ _ (h1 i v j x hi hj) hM) ih
      obtain ⟨v, l', rfl⟩ := List.exists_cons_of_ne_nil hl
      have hv := hsz v (by simp)
      have h0 : ∃ x, v.cells[0]? = some x := by
        cases hcs : v.cells with
        | nil => rw [hcs] at hv; simp at hv; omega
        | cons x _ => exact ⟨x, by simp⟩
      obtain ⟨x, hx⟩ := h0
      exact hM (E.muts b (cell_lt (h1 0 v 0 x (by simp) hx)) hm)
  | ms0 k sz off a => exact .ms0 k sz off a
  | ms k sz off len b c hk hc hr => exact .ms k sz off len b c (E.keys _ _ hk) hc (E.rooms _ _ hr)
  | ptr k sz i j b hk => exact .ptr k sz i j b (E.keys _ _ hk)
  | pp l off b o val hb hM h1 h2 ih => exact .pp l off b o val (Nat.lt_of_lt_of_le hb E.size) (fun hm => hM (E.muts b hb hm)) (fun j x hj => E.cell _ _ (h1 j x hj) hM) ih
  | nilp => exact .nilp
  | fn f x y a b hx hy h1 h2 ih1 ih2 => exact .fn f x y a b hx hy ih1 ih2
  | nilfn => exact .nilfn
  | mapr k b hk => exact .mapr k b (E.keys _ _ hk)
  | nilm => exact .nilm
  | nilif => exact .nilif
  | yld k b hk => exact .yld k b (E.keys _ _ hk)
  | junk v => exact .junk v
end Go.Proofs.YtigfgicjjhepoaaGreatDoor.VA
