/- append. -/
import Derived.Test.YtigfgicjjhepoaaGreatDoorVp
import Derived.Deep.Upon
set_option linter.unusedVariables false
set_option linter.unusedSimpArgs false
namespace Go.Proofs.YtigfgicjjhepoaaGreatDoor.VA
open Go Go.RowKit
section
variable {ng base : Nat} {w w' : World} {Ext : Nat → Prop} {ρ ρ' : Key → Option Nat} {H : Heap} {M M' : Nat → Prop} {P : Program} {pol : Pol}

/-- Elements as cells, one after the other. -/
structure Flat (w : World) (ρ : Key → Option Nat) (M : Nat → Prop) (sz : Nat) (els : List PV) (vs : List Value) : Prop where
  len : vs.length = els.length * sz
  sizes : ∀ e ∈ els, e.cells.length = sz
  rep : ∀ (i : Nat) (e : PV) (j : Nat) (c : PV) (v : Value), els[i]? = some e → e.cells[j]? = some c → vs[i * sz + j]? = some v → Rep w ρ M c v

theorem Flat.nil (sz : Nat) : Flat w ρ M sz [] [] := ⟨by simp, by simp, fun i e j c v h => by simp at h⟩

theorem Flat.evo (E : Evo w ρ M w' ρ' M') {sz : Nat} {els : List PV} {vs : List Value} (h : Flat w ρ M sz els vs) : Flat w' ρ' M' sz els vs :=
  ⟨h.len, h.sizes, fun i e j c v h1 h2 h3 => (h.rep i e j c v h1 h2 h3).evo E⟩

theorem Flat.append {sz : Nat} {els src : List PV} {vs us : List Value} (h : Flat w ρ M sz els vs) (g : Flat w ρ M sz src us) : Flat w ρ M sz (els ++ src) (vs ++ us) := by
  refine ⟨by simp [h.len, g.len, Nat.add_mul], fun e he => ?_, fun i e j c v h1 h2 h3 => ?_⟩
  · rcases List.mem_append.1 he with he | he
    · exact h.sizes e he
    · exact g.sizes e he
  · by_cases hi : i < els.length
    · rw [List.getElem?_append_left hi] at h1
      have hj : j < sz := by have := (List.getElem?_eq_some_iff.1 h2).1; have := h.sizes e (List.mem_of_getElem? h1); omega
      have := mul_lt_of hi hj
      rw [List.getElem?_append_left (by rw [h.len]; exact this)] at h3
      exact h.rep i e j c v h1 h2 h3
    · rw [List.getElem?_append_right (by omega)] at h1
      have hle : els.length * sz ≤ i * sz := Nat.mul_le_mul_right sz (by omega)
      rw [List.getElem?_append_right (by rw [h.len]; omega), h.len] at h3
      refine g.rep (i - els.length) e j c v h1 h2 ?_
      rw [Nat.sub_mul]
      rw [show i * sz - els.length * sz + j = i * sz + j - els.length * sz by omega]
      exact h3

theorem Flat.blk {sz : Nat} {els : List PV} {vs : List Value} (h : Flat w ρ M sz els vs) (hpos : 0 < sz) {b : Nat} {arr : Array Value} {e : TypeId} {fz : Bool} (hb : w.heap[b]? = some (.cells arr e (0, 0))) (hs : vs.length ≤ arr.size) (hq : ∀ q, q < vs.length → arr[q]? = vs[q]?) :
    BlkRel w ρ M b (.row sz els fz) := by
  refine ⟨arr, e, hb, by rw [← h.len]; exact hs, hpos, h.sizes, fun i x j c v hi hc hv => ?_⟩
  have hi' : i < els.length := (List.getElem?_eq_some_iff.1 hi).1
  have hj : j < sz := by have := (List.getElem?_eq_some_iff.1 hc).1; have := h.sizes x (List.mem_of_getElem? hi); omega
  have := mul_lt_of hi' hj
  exact h.rep i x j c v hi hc (by rw [← hq _ (by rw [h.len]; exact this)]; exact hv)

theorem flat_of_blk {b sz : Nat} {els : List PV} {fz : Bool} (h : BlkRel w ρ M b (.row sz els fz)) : ∃ (arr : Array Value) (e : TypeId), w.heap[b]? = some (.cells arr e (0, 0)) ∧ els.length * sz ≤ arr.size ∧ 0 < sz ∧ Flat w ρ M sz els (arr.toList.take (els.length * sz)) := by
  obtain ⟨arr, e, h1, h2, h3, h4, h5⟩ := h
  refine ⟨arr, e, h1, h2, h3, by simp; omega, h4, fun i x j c v hi hc hv => ?_⟩
  rw [List.getElem?_take] at hv
  split at hv
  · exact h5 i x j c v hi hc (by simpa using hv)
  · cases hv

theorem srcT_kind {tx : TypeId} (h : srcT P tx = true) : (∃ e', P.underlying tx = some (.slice e')) ∨ P.underlying tx = some .string := by
  simp only [srcT, Bool.or_eq_true] at h
  rcases h with h | h
  · unfold elemT at h
    split at h
    · rename_i e hu; exact .inl ⟨e, hu⟩
    · cases h
  · unfold isStrT at h
    split at h
    · rename_i hu; exact .inr hu
    · cases h

/-- A source out of cells behind an address. -/
theorem src_of {sz b o cap : Nat} {tx : TypeId} {src : List PV} (val : Nat → Nat → Value) (hpos : 0 < sz) (hk : srcT P tx = true) (hsz : ∀ e ∈ src, e.cells.length = sz) (hone : src.all (fun v => v.cells.all oneV) = true)
    (hc : ∀ (i : Nat) (e : PV) (j : Nat) (c : PV), src[i]? = some e → e.cells[j]? = some c → w.cell? ⟨b, o + i * sz + j, none⟩ = some (val i j) ∧ Rep w ρ M c (val i j)) :
    ∃ news, Src P sz tx (.slice (some ⟨b, o, none⟩) src.length cap) src.length news w ∧ Flat w ρ M sz src news := by
  let news : List Value := (List.range (src.length * sz)).map fun q => val (q / sz) (q % sz)
  have hlen : news.length = src.length * sz := by simp [news]
  have hget : ∀ q, q < src.length * sz → ∃ e c, src[q / sz]? = some e ∧ e.cells[q % sz]? = some c ∧ news[q]? = some (val (q / sz) (q % sz)) := fun q hq => by
    have h1 : q / sz < src.length := Nat.div_lt_of_lt_mul (by rw [Nat.mul_comm]; exact hq)
    have h2 : q % sz < sz := Nat.mod_lt _ hpos
    have h3 := hsz _ (List.getElem_mem h1)
    exact ⟨src[q / sz], (src[q / sz]).cells[q % sz]'(by omega), List.getElem?_eq_getElem h1, List.getElem?_eq_getElem _, by simp [news, hq]⟩
  have hcells : ∀ j v, news[j]? = some v → w.cell? ((⟨b, o, none⟩ : Addr).add j) = some v := fun j v hj => by
    have hlt : j < src.length * sz := by rw [← hlen]; exact (List.getElem?_eq_some_iff.1 hj).1
    obtain ⟨e, c, g1, g2, g3⟩ := hget j hlt
    rw [hj] at g3
    simp only [Option.some.injEq] at g3
    have hadd : (⟨b, o, none⟩ : Addr).add j = ⟨b, o + j, none⟩ := by unfold Addr.add; split <;> simp_all
    rw [hadd, g3, ← (hc _ e _ c g1 g2).1]
    congr 2
    have := Nat.div_add_mod j sz
    rw [Nat.mul_comm] at this
    omega
  refine ⟨news, ⟨srcT_kind hk, fun _ => rfl, run_firstCells_some w sz src.length ⟨b, o, none⟩ src.length cap news hlen hcells, run_firstCells_some w.drew sz src.length ⟨b, o, none⟩ src.length cap news hlen (by simpa using hcells), hlen, fun u hu => ?_⟩, hlen, hsz, fun i e j c v hi hj hv => ?_⟩
  · obtain ⟨q, hq, rfl⟩ := List.getElem_of_mem hu
    obtain ⟨e, c, g1, g2, g3⟩ := hget q (by rw [← hlen]; exact hq)
    rw [List.getElem?_eq_getElem hq] at g3
    simp only [Option.some.injEq] at g3
    rw [g3]
    have h1 := List.all_eq_true.1 hone e (List.mem_of_getElem? g1)
    exact oneV_one (List.all_eq_true.1 h1 c (List.mem_of_getElem? g2)) (hc _ e _ c g1 g2).2
  · have hi' : i < src.length := (List.getElem?_eq_some_iff.1 hi).1
    have hj' : j < sz := by have := (List.getElem?_eq_some_iff.1 hj).1; have := hsz e (List.mem_of_getElem? hi); omega
    have hlt := mul_lt_of hi' hj'
    have e1 : (i * sz + j) / sz = i := by rw [Nat.mul_comm, Nat.mul_add_div hpos, Nat.div_eq_of_lt hj', Nat.add_zero]
    have e2 : (i * sz + j) % sz = j := by rw [Nat.mul_comm, Nat.mul_add_mod, Nat.mod_eq_of_lt hj']
    simp only [news, List.getElem?_map, List.getElem?_range hlt, Option.map_some, e1, e2, Option.some.injEq] at hv
    rw [← hv]
    exact (hc i e j c hi hj).2

theorem src_nil {sz cap : Nat} {tx : TypeId} (hk : srcT P tx = true) (a : Option Addr) : Src P sz tx (.slice a 0 cap) 0 [] w := by
  cases a with
  | none => exact ⟨srcT_kind hk, fun _ => rfl, run_firstCells_none w sz 0 0 cap, run_firstCells_none w.drew sz 0 0 cap, by simp, fun _ h => by cases h⟩
  | some a => exact ⟨srcT_kind hk, fun _ => rfl, run_firstCells_some w sz 0 a 0 cap [] (by simp) (by simp), run_firstCells_some w.drew sz 0 a 0 cap [] (by simp) (by simp), by simp, fun _ h => by cases h⟩

theorem src_ok (h : HRel ng base Ext ρ H w) {sz : Nat} (hpos : 0 < sz) {tx : TypeId} {x : PV} {vx : Value} {src : List PV} (hx : Rep w ρ (Mut Ext ρ H) x vx) (hs : srcV H sz x = some src) (hone : src.all (fun v => v.cells.all oneV) = true) (hk : srcT P tx = true) :
    ∃ news, Src P sz tx vx src.length news w ∧ Flat w ρ (Mut Ext ρ H) sz src news := by
  cases x with
  | sl f l =>
    simp only [srcV] at hs
    split at hs
    rotate_left
    · cases hs
    rename_i hall
    simp only [Option.some.injEq] at hs
    subst hs
    cases hx with
    | sl0 f a c hf => exact ⟨[], src_nil hk a, .nil sz⟩
    | sl f l b o c sz' val hc hf hsz hpos' hM h1 h2 =>
      exact src_of val hpos hk (allSz_mem hall) hone (fun i e j c' hi hj => by
        have h3 : e.cells.length = sz := allSz_mem hall e (List.mem_of_getElem? hi)
        have h4 : e.cells.length = sz' := hsz e (List.mem_of_getElem? hi)
        have h5 : sz' = sz := by omega
        subst h5
        exact ⟨h1 i e j c' hi hj, h2 i e j c' hi hj⟩)
  | ms k z off len =>
    simp only [srcV] at hs
    split at hs
    rotate_left
    · cases hs
    rename_i y els fz hbk
    split at hs
    rotate_left
    · cases hs
    rename_i hc
    obtain ⟨rfl, rfl⟩ := hc
    obtain ⟨c1, c2, c3, c4⟩ := cut_some hs
    cases hx with
    | ms0 k sz off a =>
      obtain rfl : src = [] := List.eq_nil_of_length_eq_zero c3
      exact ⟨[], src_nil hk a, .nil _⟩
    | ms k sz off len b c hb hle hr =>
      obtain ⟨arr, e, h1, h2, h3, h4, h5⟩ := blk_row h hbk hb
      have := src_of (P := P) (w := w) (ρ := ρ) (M := Mut Ext ρ H) (tx := tx) (src := src) (b := b) (o := off * y) (cap := c) (fun i j => arr.getD ((off + i) * y + j) undef) hpos hk ?_ hone ?_
      · rw [c3] at this; exact c3 ▸ this
      · intro e he
        rw [c2] at he
        exact h4 e (List.mem_of_mem_drop (List.mem_of_mem_take he))
      · intro i e j c' hi hj
        have hi' : i < src.length := (List.getElem?_eq_some_iff.1 hi).1
        rw [c4 i (by omega)] at hi
        have hj' : j < y := by have := (List.getElem?_eq_some_iff.1 hj).1; have := h4 e (List.mem_of_getElem? hi); omega
        have hlt : (off + i) * y + j < arr.size := Nat.lt_of_lt_of_le (mul_lt_of (by omega) hj') h2
        have hv := getD_of_lt hlt
        refine ⟨?_, h5 (off + i) e j c' _ hi hj hv⟩
        unfold World.cell?
        simp only [h1]
        rw [← hv]
        simp [Nat.add_mul]
  | str s =>
    simp only [srcV] at hs
    split at hs
    rotate_left
    · cases hs
    rename_i h1
    subst h1
    simp only [Option.some.injEq] at hs
    subst hs
    cases hx
    have hl : (s.data.toList.map byteV).length = s.size := by simp
    refine ⟨byteCells s, ?_, ?_⟩
    · rw [hl]
      exact ⟨srcT_kind hk, fun _ => rfl, firstCells_string s w, firstCells_string s w.drew, by rw [byteCells_length, Nat.mul_one], fun u hu => by
        obtain ⟨_, _, rfl⟩ := List.mem_map.1 hu
        rfl⟩
    · refine ⟨by rw [byteCells_length, hl, Nat.mul_one], fun e he => ?_, fun i e j c v hi hj hv => ?_⟩
      · obtain ⟨b, _, rfl⟩ := List.mem_map.1 he
        rfl
      · simp only [List.getElem?_map, Option.map_eq_some_iff] at hi
        obtain ⟨b, hb, rfl⟩ := hi
        obtain rfl : j = 0 := by
          have := (List.getElem?_eq_some_iff.1 hj).1
          simp [byteV, PV.cells] at this; exact this
        simp only [byteV, PV.cells, List.getElem?_cons_zero, Option.some.injEq] at hj
        subst hj
        simp only [Nat.mul_one, Nat.add_zero, byteCells, List.getElem?_map, hb, Option.map_some, Option.some.injEq] at hv
        subst hv
        exact .int _ _
  | _ => simp [srcV] at hs

theorem setCells_setRow (P : Program) {b o : Nat} {ty : TypeId} {cur : Array Value} {vs : List Value} (hg : w.heap[b]? = some (.cells cur ty (0, 0))) (hl : o + vs.length ≤ cur.size) (h1 : ∀ v ∈ vs, v.oneCell' = true) :
    w.setCells b o vs = w.setRow b (cur.toList.take o ++ vs ++ cur.toList.drop (o + vs.length)).toArray := by
  have a := run_storeCells_at P b o ty vs 0 cur w hg (by simpa using hl) h1
  have c := run_storeCells_cells (P := P) b o vs 0 w (fun j hj => by simp [World.cell?, hg, show o + j < cur.size by omega]) (fun j hj => by simp [World.frozen?, hg]) h1
  rw [c] at a
  simpa using a

/-- What appending asks of the types. -/
structure AppT (P : Program) (t e : TypeId) (i : TypeInfo) (z : Value) (sz by_ : Nat) : Prop where
  ht : P.underlying t = some (.slice e)
  hi : P.info? e = some i
  hz : i.zero = some z
  hsz : i.size = sz
  hby : i.bytes = by_
  hzs : z.cells.size = sz

theorem appT (hP : POk P pol) {t : TypeId} {sz by_ : Nat} (h1 : (elemT P t).bind (szT P) = some sz) (h2 : (elemT P t).bind (byT P) = some by_) : ∃ e i z, AppT P t e i z sz by_ := by
  cases he : elemT P t with
  | none => simp [he] at h1
  | some e =>
    simp only [he, Option.bind_some] at h1 h2
    obtain ⟨i, hi, hs⟩ := sizeT h1
    obtain ⟨z, hz⟩ := hP.hasZero e i (size_ok h1) hi
    have hu : P.underlying t = some (.slice e) := by
      unfold elemT at he
      cases hu : P.underlying t with
      | none => simp [hu] at he
      | some d => cases d <;> simp [hu] at he; subst he; rfl
    exact ⟨e, i, z, hu, hi, hz, hs, by simpa [byT, hi] using h2, by rw [hP.zero e i z (size_ok h1) hi hz]; exact hs⟩

/-- The arm that grows, whatever stands in front. -/
theorem grow_run {t tx ty e : TypeId} {i : TypeInfo} {z : Value} {sz by_ : Nat} (T : AppT P t e i z sz by_) {bs : Option Addr} {len cap : Nat} {olds news : List Value} {x : Value} {n : Nat}
    (hol : olds.length = len * sz) (hold : ∀ w' : World, w'.heap = w.heap → (Builtin.firstCells sz len (.slice bs len cap)).run P w' = .ok olds.toArray w') (hs : Src P sz tx x n news w) (hg : cap < len + n) (hb : (len + n) * by_ ≤ 2 ^ 47) (hbp : 0 < by_) :
    ∃ (arr : Array Value) (cap' : Nat), (Builtin.append_ #[t, tx] ty #[.slice bs len cap, x]).run P w = .ok (.slice (some ⟨w.heap.size, 0, none⟩) (len + n) cap') (w.drew.alloc (.cells arr e)) ∧ len + n ≤ cap' ∧ arr.size = cap' * sz ∧
      ∀ q, q < (len + n) * sz → arr[q]? = (olds ++ news)[q]? := by
  have hn := hs.newsLen
  have h47 : (len + n) * by_ ≤ 140737488355328 := by simpa using hb
  have h63 : len + n ≤ 140737488355328 := Nat.le_trans (Nat.le_mul_of_pos_right _ hbp) h47
  have hge := grownCap_ge w (len + n) cap e
  obtain ⟨T1, T2, T3, rfl, rfl, T6⟩ := T
  have hrun := run_append_grow_src (P := P) w t tx ty e i z T1 T2 T3 bs len cap olds (hold _ rfl) x n news hs hg (by omega) (growslice_fits hg h47)
  have hL : (olds ++ news).length = (len + n) * i.size := by rw [List.length_append, hol, hn, Nat.add_mul]
  refine ⟨_, _, hrun, hge, ?_, fun q hq => ?_⟩
  · rw [Array.size_append, List.size_toArray, hL, size_zeroCells, T6, ← Nat.add_mul]
    congr 1
    omega
  · rw [Array.getElem?_append_left (by simp only [List.size_toArray]; rw [hL]; exact hq), List.getElem?_toArray]

theorem heap_grow (w : World) (o : Obj) : (w.drew.alloc o).heap[w.heap.size]? = some o ∧ (w.drew.alloc o).heap.size = w.heap.size + 1 ∧ Below w.heap.size w (w.drew.alloc o) :=
  ⟨(MapKept.heap_alloc w.drew o).1, by simp, (Below.refl _ w).drew.alloc (Nat.le_refl _) o⟩

/-- The arm that grows: the row of one's own. -/
theorem grow_ok (h : HRel ng base Ext ρ H w) {H1 : Heap} (hsub : ∀ k x, H1.blk k = some x → H.blk k = some x) (hcnt : H1.cnt = H.cnt) (p : List Nat) (d : Nat)
    {t tx ty e : TypeId} {i : TypeInfo} {z : Value} {sz by_ : Nat} (hpos : 0 < sz) (T : AppT P t e i z sz by_) {bs : Option Addr} {len cap : Nat} {olds news : List Value} {x : Value} {els src : List PV}
    (hfo : Flat w ρ (Mut Ext ρ H) sz els olds) (hfs : Flat w ρ (Mut Ext ρ H) sz src news) (hlen : els.length = len)
    (hold : ∀ w' : World, w'.heap = w.heap → (Builtin.firstCells sz len (.slice bs len cap)).run P w' = .ok olds.toArray w') (hs : Src P sz tx x src.length news w) (hg : cap < len + src.length) (hb : (len + src.length) * by_ ≤ 2 ^ 47) (hbp : 0 < by_) :
    ∃ v w' ρ', (Builtin.append_ #[t, tx] ty #[.slice bs len cap, x]).run P w = .ok v w' ∧ Stepd ng base Ext ρ H w w' ρ' (H1.alloc p d (.row sz (els ++ src) false)) ∧
      Rep w' ρ' (Mut Ext ρ' (H1.alloc p d (.row sz (els ++ src) false))) (.ms (H.next p d) sz 0 (len + src.length)) v := by
  obtain ⟨arr, cap', hrun, hc, hsz, hq⟩ := grow_run (ty := ty) T (by rw [hfo.len, hlen]) hold hs hg hb hbp
  obtain ⟨g1, g2, g3⟩ := heap_grow w (.cells arr e)
  have hF := hfo.append hfs
  have hnk : ∀ k, H1.blk k ≠ none → ρ k ≠ some w.heap.size := fun k _ e => by have := (h.dom k _ e).2; omega
  have hroom : ∀ n, room w w.heap.size n → room (w.drew.alloc (.cells arr e)) w.heap.size n := fun n hr => by
    obtain ⟨a', e', q, _⟩ := hr
    have := (Array.getElem?_eq_some_iff.1 q).1; omega
  have E := h.rebindEvo (w' := w.drew.alloc (.cells arr e)) hsub hcnt (p := p) (d := d) (b := w.heap.size) (blk := .row sz (els ++ src) false) (fun hlt => by omega) (fun j _ hj => g3.block j hj) g3.size (by omega) h.size hnk hroom
  have hflen : (olds ++ news).length = (len + src.length) * sz := by rw [hF.len, List.length_append, hlen]
  have hle : (len + src.length) * sz ≤ cap' * sz := Nat.mul_le_mul_right _ hc
  refine ⟨_, _, _, hrun, ⟨g3.mono h.size, (h.rebind (w' := w.drew.alloc (.cells arr e)) hsub hcnt (p := p) (d := d) (b := w.heap.size) (blk := .row sz (els ++ src) false) (fun hlt => by omega) (fun j _ hj => g3.block j hj) g3.size (by omega) h.size hnk hroom
    ((hF.evo E).blk hpos g1 (by omega) (fun q hlt => hq q (by omega)))).1, E⟩, ?_⟩
  have := Rep.ms (w := w.drew.alloc (.cells arr e)) (ρ := bind ρ (H.next p d) w.heap.size) (M := Mut Ext (bind ρ (H.next p d) w.heap.size) (H1.alloc p d (.row sz (els ++ src) false))) (H.next p d) sz 0 (len + src.length) w.heap.size cap' (bind_self _ _ _) hc ⟨arr, e, g1, by rw [Nat.zero_add, hsz]; exact Nat.le_refl _⟩
  simpa using this

theorem append_ok {c : Ctx} (hP : POk c.P c.pol) (h : HRel ng base Ext ρ H w) {d : Nat} {t tx ty : TypeId} {s x r : PV} {vs vx : Value} {H' : Heap} (hsr : Rep w ρ (Mut Ext ρ H) s vs) (hxr : Rep w ρ (Mut Ext ρ H) x vx) (ha : appendV c d t tx s x H = some (r, H')) :
    ∃ v w' ρ', (Builtin.append_ #[t, tx] ty #[vs, vx]).run c.P w = .ok v w' ∧ Stepd ng base Ext ρ H w w' ρ' H' ∧ Rep w' ρ' (Mut Ext ρ' H') r v := by
  unfold appendV at ha
  split at ha
  rotate_left
  · cases ha
  rename_i sz by_ hsz hby
  obtain ⟨e, i, z, T⟩ := appT hP hsz hby
  split at ha
  rotate_left
  · cases ha
  rename_i hc
  obtain ⟨hpos, hbp, htx⟩ := hc
  split at ha
  · cases ha
  rename_i src hsrc
  split at ha
  rotate_left
  · cases ha
  rename_i hone
  obtain ⟨news, hS, hF⟩ := src_ok (P := c.P) h hpos hxr hsrc hone htx
  have nothing : ∀ (bs : Option Addr) (len cap : Nat), len ≤ cap → src = [] → (Builtin.append_ #[t, tx] ty #[.slice bs len cap, vx]).run c.P w = .ok (.slice bs len cap) w := fun bs len cap hle e0 => by
    subst e0
    have hnl := hS.newsLen
    obtain rfl : news = [] := List.eq_nil_of_length_eq_zero (by simpa using hnl)
    have hS' : Src c.P i.size tx vx 0 [] w := by rw [T.hsz]; exact hS
    exact run_append_nothing (P := c.P) w t tx ty e i T.ht T.hi bs len cap hle vx hS'
  split at ha
  · -- nil
    split at ha
    rotate_left
    · cases ha
    rename_i hb
    simp only [Option.some.injEq, Prod.mk.injEq] at ha
    obtain ⟨rfl, rfl⟩ := ha
    obtain ⟨bs, rfl⟩ : ∃ bs, vs = .slice bs 0 0 := by
      cases hsr with
      | sl0 f a cc hf => exact ⟨a, by rw [hf rfl]⟩
      | sl f l b o cc sz' val hc' hf => exact ⟨some ⟨b, o, none⟩, by have := hf rfl; simp at this; subst this; rfl⟩
    by_cases e0 : src = []
    · refine ⟨_, w, ρ, nothing bs 0 0 (Nat.le_refl _) e0, ?_, ?_⟩
      · subst e0
        obtain ⟨v1, v2⟩ := h.virtual (H1 := H) (fun _ _ h => h) rfl (p := c.path) (d := d) (sz := sz)
        exact ⟨Below.refl _ _, v1, v2⟩
      · subst e0
        exact .ms0 _ _ _ _
    · have hp : 0 < src.length := List.length_pos_iff.2 e0
      have := grow_ok (ty := ty) h (H1 := H) (fun _ _ h => h) rfl c.path d hpos T (bs := bs) (len := 0) (cap := 0) (olds := []) (els := []) (Flat.nil sz) hF rfl (fun w' _ => by
        cases bs with
        | none => exact run_firstCells_none w' sz 0 0 0
        | some a => exact run_firstCells_some w' sz 0 a 0 0 [] (by simp) (by simp)) hS (by omega) (by simpa using hb) hbp
      simpa using this
  · -- a row of one's own
    rename_i k y off len
    split at ha
    rotate_left
    · cases ha
    rename_i z' els hbk
    split at ha
    rotate_left
    · cases ha
    rename_i hcc
    obtain ⟨rfl, rfl, rfl, rfl, hb⟩ := hcc
    simp only [Option.some.injEq, Prod.mk.injEq] at ha
    obtain ⟨rfl, rfl⟩ := ha
    have hsub : ∀ k' x, (H.erase k).blk k' = some x → H.blk k' = some x := fun k' x hx => by
      simp only [Heap.erase] at hx
      split at hx
      · cases hx
      · exact hx
    generalize hlen : els.length = len at hsr hb ⊢
    cases hsr with
    | ms0 _ _ _ bs =>
      obtain rfl : els = [] := List.eq_nil_of_length_eq_zero hlen
      by_cases e0 : src = []
      · refine ⟨_, w, ρ, nothing bs 0 0 (Nat.le_refl _) e0, ?_, ?_⟩
        · subst e0
          obtain ⟨v1, v2⟩ := h.virtual (H1 := H.erase k) hsub rfl (p := c.path) (d := d) (sz := z')
          exact ⟨Below.refl _ _, v1, v2⟩
        · subst e0
          exact .ms0 _ _ _ _
      · have hp : 0 < src.length := List.length_pos_iff.2 e0
        exact grow_ok (ty := ty) h (H1 := H.erase k) hsub rfl c.path d hpos T (bs := bs) (len := 0) (cap := 0) (olds := []) (els := []) (Flat.nil z') hF rfl (fun w' _ => by
          cases bs with
          | none => exact run_firstCells_none w' z' 0 0 0
          | some a => exact run_firstCells_some w' z' 0 a 0 0 [] (by simp) (by simp)) hS (by omega) hb hbp
    | ms _ _ _ _ b cap hk hle hr =>
      have hbr := blk_row h hbk hk
      obtain ⟨arr, e', h1, h2, h3, hFo⟩ := flat_of_blk hbr
      obtain ⟨arr', e'', g1, g2⟩ := hr
      rw [h1] at g1
      simp only [Option.some.injEq, Obj.cells.injEq, and_true] at g1
      obtain ⟨rfl, rfl⟩ := g1
      rw [Nat.zero_add] at g2
      rw [hlen] at h2 hFo
      rw [Nat.zero_mul]
      have hblt : b < w.heap.size := (Array.getElem?_eq_some_iff.1 h1).1
      have hbm : b < w.heap.size → Mut Ext ρ H b := fun _ => .inr ⟨k, z', els, hbk, hk⟩
      have hnk : ∀ k', (H.erase k).blk k' ≠ none → ρ k' ≠ some b := fun k' hk' e0 => by
        obtain ⟨x, hx⟩ := Option.ne_none_iff_exists'.1 hk'
        have hne : k' ≠ k := fun e1 => by subst e1; simp [Heap.erase] at hx
        exact hne (h.inj k' k b (by rw [hsub k' x hx]; simp) (by rw [hbk]; simp) e0 hk)
      by_cases hfit : len + src.length ≤ cap
      · -- room
        have hnl := hS.newsLen
        have hfit' : (len + src.length) * z' ≤ cap * z' := Nat.mul_le_mul_right _ hfit
        rw [Nat.add_mul] at hfit'
        have hin : len * z' + news.length ≤ arr.size := by omega
        have hrun := run_append_room_src (P := c.P) w t tx ty e i T.ht T.hi b 0 len cap vx src.length news (by rw [T.hsz]; exact hS) hfit (fun j hj => by rw [T.hsz]; simp [World.cell?, h1, show len * z' + j < arr.size by omega]) (fun j hj => by simp [World.frozen?, h1])
        rw [T.hsz, Nat.zero_add, setCells_setRow c.P h1 hin hS.one] at hrun
        have hsegs : (arr.toList.take (len * z') ++ news ++ arr.toList.drop (len * z' + news.length)).toArray.size = arr.size := by simp; omega
        have hnew := setRow_heap w b arr (arr.toList.take (len * z') ++ news ++ arr.toList.drop (len * z' + news.length)).toArray e' (0, 0) h1
        have hother : ∀ j, j ≠ b → j < w.heap.size → (w.setRow b (arr.toList.take (len * z') ++ news ++ arr.toList.drop (len * z' + news.length)).toArray).heap[j]? = w.heap[j]? := fun j hj _ => setRow_other w b j _ hj
        have hroom : ∀ q, room w b q → room (w.setRow b (arr.toList.take (len * z') ++ news ++ arr.toList.drop (len * z' + news.length)).toArray) b q := fun q hq => by
          obtain ⟨a', e', q1, q2⟩ := hq
          rw [h1] at q1; cases q1
          exact ⟨_, _, hnew, by rw [hsegs]; exact q2⟩
        have E := h.rebindEvo (w' := w.setRow b (arr.toList.take (len * z') ++ news ++ arr.toList.drop (len * z' + news.length)).toArray) (H1 := H.erase k) hsub rfl (p := c.path) (d := d) (b := b) (blk := .row z' (els ++ src) false) hbm hother (by simp) (by simpa using hblt) (h.dom k b hk).1 hnk hroom
        refine ⟨_, _, _, hrun, ⟨below_setRow (Below.refl _ _) (h.dom k b hk).1 _, (h.rebind (w' := w.setRow b (arr.toList.take (len * z') ++ news ++ arr.toList.drop (len * z' + news.length)).toArray) (H1 := H.erase k) hsub rfl (p := c.path) (d := d) (b := b) (blk := .row z' (els ++ src) false) hbm hother (by simp) (by simpa using hblt) (h.dom k b hk).1 hnk hroom ?_).1, E⟩, ?_⟩
        · refine ((hFo.append hF).evo E).blk hpos hnew (by rw [hsegs]; simp; omega) (fun q hq => ?_)
          have hq' : q < len * z' + news.length := by simp at hq; omega
          rw [List.getElem?_toArray, List.getElem?_append_left (by simp; omega)]
        · have := Rep.ms (w := w.setRow b (arr.toList.take (len * z') ++ news ++ arr.toList.drop (len * z' + news.length)).toArray) (ρ := bind ρ (H.next c.path d) b) (M := Mut Ext (bind ρ (H.next c.path d) b) ((H.erase k).alloc c.path d (.row z' (els ++ src) false))) (H.next c.path d) z' 0 (len + src.length) b cap (bind_self _ _ _) hfit (hroom _ ⟨arr, e', h1, by rw [Nat.zero_add]; exact g2⟩)
          simpa using this
      · -- a new row
        have hlenO : (arr.toList.take (len * z')).length = len * z' := by simp; omega
        exact grow_ok (ty := ty) h (H1 := H.erase k) hsub rfl c.path d hpos T (bs := some ⟨b, 0, none⟩) (len := len) (cap := cap) hFo hF hlen (fun w' hw' => run_firstCells_some w' z' len ⟨b, 0, none⟩ len cap _ hlenO (fun j v hj => by
          rw [List.getElem?_take] at hj
          split at hj
          · have hadd : (⟨b, 0, none⟩ : Addr).add j = ⟨b, j, none⟩ := by unfold Addr.add; split <;> simp_all
            rw [hadd]
            simp only [World.cell?, hw', h1]
            simpa using hj
          · cases hj)) hS (by omega) hb hbp
  · -- a full row that can only be read
    rename_i l hne
    split at ha
    rotate_left
    · cases ha
    rename_i hcc
    obtain ⟨hpl, hal, hb⟩ := hcc
    simp only [Option.some.injEq, Prod.mk.injEq] at ha
    obtain ⟨rfl, rfl⟩ := ha
    cases hsr with
    | sl0 f a cc hf => exact absurd rfl hne
    | sl f l b o cap sz' val hc' hf hsz' hpos' hM g1 g2 =>
      have hcl := hf rfl
      subst hcl
      by_cases e0 : src = []
      · refine ⟨_, w, ρ, nothing _ _ _ (Nat.le_refl _) e0, Stepd.refl h, ?_⟩
        subst e0
        rw [List.append_nil]
        exact .sl false l b o l.length sz' val (Nat.le_refl _) (fun e0 => by cases e0) hsz' hpos' hM g1 g2
      · have hp : 0 < src.length := List.length_pos_iff.2 e0
        have hszeq : sz' = sz := by
          obtain ⟨v, l', rfl⟩ := List.exists_cons_of_ne_nil (fun e1 => hne e1)
          have a1 := hsz' v (by simp)
          have a2 := allSz_mem hal v (by simp)
          omega
        subst hszeq
        -- the old cells
        let olds : List Value := (List.range (l.length * sz')).map fun q => val (q / sz') (q % sz')
        have hol : olds.length = l.length * sz' := by simp [olds]
        have hget : ∀ q, q < l.length * sz' → ∃ e c, l[q / sz']? = some e ∧ e.cells[q % sz']? = some c ∧ olds[q]? = some (val (q / sz') (q % sz')) := fun q hq => by
          have h1 : q / sz' < l.length := Nat.div_lt_of_lt_mul (by rw [Nat.mul_comm]; exact hq)
          have h2 : q % sz' < sz' := Nat.mod_lt _ hpos
          have h3 := hsz' _ (List.getElem_mem h1)
          exact ⟨l[q / sz'], (l[q / sz']).cells[q % sz']'(by omega), List.getElem?_eq_getElem h1, List.getElem?_eq_getElem _, by simp [olds, hq]⟩
        have hFo : Flat w ρ (Mut Ext ρ H) sz' l olds := ⟨hol, hsz', fun i e j c v hi hj hv => by
          have hi' : i < l.length := (List.getElem?_eq_some_iff.1 hi).1
          have hj' : j < sz' := by have := (List.getElem?_eq_some_iff.1 hj).1; have := hsz' e (List.mem_of_getElem? hi); omega
          have hlt := mul_lt_of hi' hj'
          have e1 : (i * sz' + j) / sz' = i := by rw [Nat.mul_comm, Nat.mul_add_div hpos, Nat.div_eq_of_lt hj', Nat.add_zero]
          have e2 : (i * sz' + j) % sz' = j := by rw [Nat.mul_comm, Nat.mul_add_mod, Nat.mod_eq_of_lt hj']
          simp only [olds, List.getElem?_map, List.getElem?_range hlt, Option.map_some, e1, e2, Option.some.injEq] at hv
          rw [← hv]
          exact g2 i e j c hi hj⟩
        obtain ⟨arr, cap', hrun, hc1, hsz1, hq⟩ := grow_run (ty := ty) T (bs := some ⟨b, o, none⟩) (cap := l.length) hol (fun w' hw' => run_firstCells_some w' sz' l.length ⟨b, o, none⟩ l.length l.length olds hol (fun j v hj => by
          have hlt : j < l.length * sz' := by rw [← hol]; exact (List.getElem?_eq_some_iff.1 hj).1
          obtain ⟨e, c, q1, q2, q3⟩ := hget j hlt
          rw [hj] at q3
          simp only [Option.some.injEq] at q3
          have hadd : (⟨b, o, none⟩ : Addr).add j = ⟨b, o + j, none⟩ := by unfold Addr.add; split <;> simp_all
          have := g1 _ e _ c q1 q2
          rw [hadd, q3, ← this]
          simp only [World.cell?, hw']
          have hdm := Nat.div_add_mod j sz'
          rw [Nat.mul_comm] at hdm
          rw [show o + j / sz' * sz' + j % sz' = o + j by omega])) hS (by omega) hb hbp
        obtain ⟨a1, a2, a3⟩ := heap_grow w (.cells arr e)
        have E := evo_below h a3 (Mut Ext ρ H)
        refine ⟨_, _, ρ, hrun, ⟨a3.mono h.size, h.below a3, E⟩, ?_⟩
        have hFE := (hFo.append hF).evo E
        have hlen : (l ++ src).length = l.length + src.length := by simp
        have hMn : ¬ Mut Ext ρ H w.heap.size := fun hm => by
          rcases hm with hm | ⟨k, q, els, _, hk⟩
          · have := (h.ext _ hm).1; have := h.size; omega
          · have := (h.dom _ _ hk).2; omega
        have hcell : ∀ (i : Nat) (v : PV) (j : Nat) (x : PV), (l ++ src)[i]? = some v → v.cells[j]? = some x → i * sz' + j < (l.length + src.length) * sz' := fun i v j x hi hj => by
          have hi' := (List.getElem?_eq_some_iff.1 hi).1
          have hj' := (List.getElem?_eq_some_iff.1 hj).1
          have := hFE.sizes v (List.mem_of_getElem? hi)
          rw [hlen] at hi'
          exact mul_lt_of hi' (by omega)
        have hfl : (olds ++ news).length = (l.length + src.length) * sz' := by rw [hFE.len, hlen]
        have := Rep.sl (w := w.drew.alloc (.cells arr e)) (ρ := ρ) (M := Mut Ext ρ H) false (l ++ src) w.heap.size 0 cap' sz' (fun i j => (olds ++ news).getD (i * sz' + j) undef) (by rw [hlen]; exact hc1) (fun e0 => by cases e0) hFE.sizes hpos hMn
          (fun i v j x hi hj => by
            have hlt := hcell i v j x hi hj
            unfold World.cell?
            simp only [a1, Nat.zero_add]
            rw [List.getD_eq_getElem?_getD, List.getElem?_eq_getElem (by omega : i * sz' + j < (olds ++ news).length)]
            have := hq _ hlt
            rw [List.getElem?_eq_getElem (by omega : i * sz' + j < (olds ++ news).length)] at this
            simpa using this)
          (fun i v j x hi hj => by
            have hlt := hcell i v j x hi hj
            rw [List.getD_eq_getElem?_getD, List.getElem?_eq_getElem (by omega : i * sz' + j < (olds ++ news).length)]
            exact hFE.rep i v j x _ hi hj (List.getElem?_eq_getElem _))
        rw [hlen] at this
        exact this
  · cases ha
end
end Go.Proofs.YtigfgicjjhepoaaGreatDoor.VA
