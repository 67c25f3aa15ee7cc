/- Functions of Go's library whose answer is proved by the kit's shelf: a map's keys in order; room for a slice. -/
import Derived.Test.YtigfgicjjhepoaaGreatDoorWd
import Derived.Test.YtigfgicjjhepoaaGreatDoorSa
import Derived.Test.YtigfgicjjhepoaaGreatDoorSb
set_option linter.unusedVariables false
set_option linter.unusedSimpArgs false
namespace Go.Proofs.YtigfgicjjhepoaaGreatDoor.VA
open Go Go.RowKit Go.Maps Go.Sort Go.Shelf Go.Proofs

def sortedS (l : List PV) (H : Heap) : Option (PV × Heap) :=
  match l with
  | [.fn g [] [.ptr k 1 0 0]] => if Nat.beq g 120 then match H.blk k with
    | some (.row 1 [.mapr m] _) => match H.blk m with
      | some (.map (some .i64) es) => match keyI es with
        | some ks => if ks.all (fun n => (Lit.int .i64 n).wf) && apartI ks && decide (ks.length ≤ 1000000) then
            some (if ks.isEmpty then .sl true [] else .sl false ((srtI ks).map (.int .i64)), H) else none
        | none => none
      | _ => none
    | _ => none
    else none
  | _ => none

def growS (l : List PV) (H : Heap) : Option (PV × Heap) :=
  match l with
  | [.sl true [], .int .i64 n] => if n = 0 then some (.sl true [], H) else if 0 < n ∧ n ≤ 1000000 then some (.ms (H.next [] 0) 2 0 0, H.alloc [] 0 (.row 2 [] false)) else none
  | _ => none

def primI0 (f : FuncId) (l : List PV) (H : Heap) : Option (PV × Heap) :=
  if Nat.beq f 95 then sortedS l H else if Nat.beq f 121 then growS l H else none

theorem seat_sorts (m : Nat) : AnyZI.SortsIn Pr seat_sortedA_ren Fence.wide m :=
  ⟨fun blk off cap ss W hH hblk hsz => callsIn_wide.2 (AnyM.slices_Sort_int seat_sortA blk off cap ss W hH hblk hsz),
   fun p cap W => callsIn_wide.2 (AnyM.slices_Sort_int_none seat_sortA p cap W)⟩

section
variable {ng base : Nat} {w : World} {Ext : Nat → Prop} {ρ : Key → Option Nat} {H : Heap}

theorem does_calls {f : FuncId} {fn : Func} {c : Code} {vs : Array Value} {R : Value → World → Prop} (hf : Pr.funcs[f]? = some fn) (hb : fn.body = some c) (hn : (fn.name == "runtime.NumGoroutine") = false)
    (h : Calls Pr f vs w (fun e w' => ∃ v, e = .returned v ∧ R v w')) : Does Pr f vs w R := .inl ⟨fn, c, hf, hb, hn, h⟩

theorem sorted_ok {l : List PV} {r : PV} {H' : Heap} (hs : sortedS l H = some (r, H')) {vs : Array Value} (h : HRel ng base Ext ρ H w) (hv : Reps w ρ (Mut Ext ρ H) l vs.toList) :
    Does Pr 95 vs w (fun v w' => ∃ ρ', Stepd ng base Ext ρ H w w' ρ' H' ∧ Rep w' ρ' (Mut Ext ρ' H') r v) := by
  unfold sortedS at hs
  split at hs
  rotate_left
  · cases hs
  rename_i g k
  split at hs
  rotate_left
  · cases hs
  rename_i hg
  have hg := Nat.eq_of_beq_eq_true hg
  subst hg
  split at hs
  rotate_left
  · cases hs
  rename_i m fz hk
  split at hs
  rotate_left
  · cases hs
  rename_i es hm
  split at hs
  rotate_left
  · cases hs
  rename_i ks hks
  split at hs
  rotate_left
  · cases hs
  rename_i hc
  simp only [Bool.and_eq_true, decide_eq_true_eq] at hc
  obtain ⟨⟨hwf, hap⟩, hlen⟩ := hc
  simp only [Option.some.injEq, Prod.mk.injEq] at hs
  obtain ⟨rfl, rfl⟩ := hs
  obtain ⟨vs⟩ := vs
  match vs, hv.1, hv with
  | [v], _, hv =>
  have q := hv.2 0 _ v rfl rfl
  cases q with
  | fn _ _ _ a b hx hy h1 h2 =>
  obtain ⟨a⟩ := a
  obtain ⟨b⟩ := b
  match a, hx with
  | [], _ =>
  match b, hy, h2 with
  | [u], _, h2 =>
  have qu := h2 0 _ u rfl rfl
  cases qu with
  | ptr _ _ _ _ bk hbk =>
  -- the box and the map
  have hbox : w.cell? ⟨bk, 0, none⟩ = some (.map (ρ m)) ∧ ∃ bm, ρ m = some bm ∧ BlkRel w ρ (Mut Ext ρ H) bm (.map (some .i64) es) := by
    rcases h.blk k _ hk with ⟨_, _, e, _⟩ | ⟨b', hb', hr⟩
    · cases e
    rw [hbk] at hb'; cases hb'
    obtain ⟨arr, e, g1, g2, g3, g4, g5⟩ := hr
    have hsz : 0 < arr.size := by simp only [List.length_cons, List.length_nil] at g2; omega
    have hx := g5 0 (.mapr m) 0 (.mapr m) arr[0] rfl rfl (by simp [hsz])
    generalize hq : arr[0] = q at hx
    cases hx with
    | mapr _ bm hbm =>
      refine ⟨?_, bm, hbm, ?_⟩
      · rw [hbm]
        have : arr[0]? = some (.map (some bm)) := by simp [hsz, hq]
        simp [World.cell?, g1, this]
      · rcases h.blk m _ hm with ⟨_, _, e, _⟩ | ⟨b2, hb2, hr2⟩
        · cases e
        rw [hbm] at hb2; cases hb2
        exact hr2
  obtain ⟨hcell, bm, hbm, hmap⟩ := hbox
  rw [hbm] at hcell
  obtain ⟨D, hown, hsize, hperm⟩ := owns_of (P := Pr) (kt := 3) Tryz.underlying3 hmap hks hwf hap hlen
  have hbkl : bk < w.heap.size := (h.dom k bk hbk).2
  have hseq : SeqGives Fence.wide 2 Pr 120 #[.pointer (some ⟨bk, 0, none⟩)] encZ (fun ss => ss.Perm (intKeys D)) (Maps.size D) w :=
    AnyZI.keys_gives (ρ := seat_keysA_ren) { seat_keysA with } Fence.wide _ trivial rfl (by omega) bk bm ks.length D w hbkl hcell hown
  have cS := AnyZI.sorted_in seat_sortedA Fence.wide 5 trivial trivial trivial trivial rfl (by omega) (seat_sorts _) (enters_of Tryz.func119 (by kernel_rfl) rfl) 120 #[.pointer (some ⟨bk, 0, none⟩)] trivial
    (enters_of Tryz.func120 (by kernel_rfl) rfl) _ (Maps.size D) (by unfold maxLen; omega) (by omega) w hseq
  change CallsIn _ _ Pr 95 _ _ _ at cS
  refine does_calls Tryz.func95 rfl (by kernel_rfl) (((callsIn_wide (n := 5)).1 cS).mono ?_)
  rintro e w' ⟨v, ss, rfl, hS, hrow, hnil, hB⟩
  have hss : ss.mergeSort (fun x y => decide (x ≤ y)) = srtI ks := merge_srtI (hS.trans hperm)
  have hlen' : ss.length = ks.length := (hS.trans hperm).length_eq
  refine ⟨v, rfl, ρ, ⟨hB.mono h.size, h.below hB, evo_below h hB _⟩, ?_⟩
  cases hks0 : ks with
  | nil =>
    have : ss = [] := List.eq_nil_of_length_eq_zero (by rw [hlen', hks0]; rfl)
    rw [hnil.2 this]
    exact .sl0 true none 0 (fun _ => rfl)
  | cons k0 ks' =>
    have hne : ss ≠ [] := fun e => by rw [e, hks0] at hlen'; cases hlen'
    rw [← hks0]
    have hemp : ks.isEmpty = false := by rw [hks0]; rfl
    rw [hemp]
    simp only [Bool.false_eq_true, if_false]
    obtain ⟨hx1, hx⟩ := hrow
    rcases hx with ⟨rfl, hz⟩ | ⟨gb, cap, cur, rfl, hbase, hgb, r1, r2, r3, r4⟩
    · exact absurd (hnil.1 rfl) hne
    · have hl : ss.length = ((srtI ks).map (PV.int .i64)).length := by rw [List.length_map, (srtI_perm ks).length_eq, hlen']
      rw [hl]
      refine .sl false _ gb 0 cap 1 (fun i _ => .int .i64 ((srtI ks).getD i 0)) (by omega) (fun e => by cases e) (fun v hv => ?_) (by omega) (fun hM => ?_) (fun i v j x hi hj => ?_) (fun i v j x hi hj => ?_)
      · obtain ⟨n, _, rfl⟩ := List.mem_map.1 hv; rfl
      · have := (mut_ng h hM).1; omega
      · rw [List.getElem?_map, Option.map_eq_some_iff] at hi
        obtain ⟨n, hn, rfl⟩ := hi
        have hj0 : j = 0 := by
          rcases j with _ | j
          · rfl
          · simp [PV.cells] at hj
        subst hj0
        have hil : i < (srtI ks).length := (List.getElem?_eq_some_iff.1 hn).1
        have hcur : cur[i]? = some (.int .i64 n) := by
          have := congrArg (fun l => l[i]?) r4
          rw [hss] at this
          simp only [List.getElem?_map, hn, Option.map_some] at this
          rw [List.getElem?_take, if_pos (by rw [(srtI_perm ks).length_eq] at hil; omega), Array.getElem?_toList] at this
          exact this
        have hgd : (srtI ks).getD i 0 = n := by simp [List.getD_eq_getElem?_getD, hn]
        show w'.cell? ⟨gb, 0 + i * 1 + 0, none⟩ = _
        rw [hgd, show 0 + i * 1 + 0 = i by omega]
        simp [World.cell?, hgb, hcur]
      · rw [List.getElem?_map, Option.map_eq_some_iff] at hi
        obtain ⟨n, hn, rfl⟩ := hi
        rcases j with _ | j
        · simp only [PV.cells, List.getElem?_cons_zero, Option.some.injEq] at hj
          subst hj
          have hgd : (srtI ks).getD i 0 = n := by simp [List.getD_eq_getElem?_getD, hn]
          show Rep _ _ _ _ (.int .i64 ((srtI ks).getD i 0))
          rw [hgd]; exact .int _ _
        · simp [PV.cells] at hj

theorem grow_okS {l : List PV} {r : PV} {H' : Heap} (hs : growS l H = some (r, H')) {vs : Array Value} (h : HRel ng base Ext ρ H w) (hv : Reps w ρ (Mut Ext ρ H) l vs.toList) :
    Does Pr 121 vs w (fun v w' => ∃ ρ', Stepd ng base Ext ρ H w w' ρ' H' ∧ Rep w' ρ' (Mut Ext ρ' H') r v) := by
  unfold growS at hs
  split at hs
  rotate_left
  · cases hs
  rename_i n
  obtain ⟨vs⟩ := vs
  match vs, hv.1, hv with
  | [v1, v2], _, hv =>
  have q1 := hv.2 0 _ v1 rfl rfl
  have q2 := hv.2 1 _ v2 rfl rfl
  cases q2
  have hbase : ∃ a, v1 = .slice a 0 0 := by
    generalize hp : PV.sl true [] = p at q1
    cases q1 with
    | sl0 f a c hf => cases hp; exact ⟨a, by rw [hf rfl]⟩
    | sl f l b o c sz val hc hf => cases hp; exact ⟨_, by have := hf rfl; simp only [List.length_nil] at this; subst this; rfl⟩
    | _ => cases hp
  obtain ⟨a, rfl⟩ := hbase
  split at hs
  · rename_i hn
    subst hn
    simp only [Option.some.injEq, Prod.mk.injEq] at hs
    obtain ⟨rfl, rfl⟩ := hs
    have c := Any8.slices_Grow_room seat_growT a 0 0 0 w (by omega) (by omega) (by omega) (by omega)
    refine does_calls Tryz.func121 rfl (by kernel_rfl) (Calls.mono c ?_)
    rintro e w' ⟨rfl, rfl⟩
    exact ⟨_, rfl, ρ, Stepd.refl h, .sl0 true a 0 (fun _ => rfl)⟩
  · split at hs
    rotate_left
    · cases hs
    rename_i hn0 hn
    simp only [Option.some.injEq, Prod.mk.injEq] at hs
    obtain ⟨rfl, rfl⟩ := hs
    obtain ⟨N, rfl⟩ : ∃ N : Nat, n = (N : Int) := ⟨n.toNat, by omega⟩
    have hinfo : ∃ i z, Pr.info? 84 = some i ∧ i.zero = some z ∧ i.size = 2 ∧ i.bytes = 24 := by
      have h1 : (Pr.info? 84).map (fun i => (i.size, i.bytes)) = some (2, 24) := by kernel_rfl
      cases hi : Pr.info? 84 with
      | none => rw [hi] at h1; cases h1
      | some i =>
        rw [hi] at h1
        simp only [Option.map_some, Option.some.injEq, Prod.mk.injEq] at h1
        obtain ⟨z, hz⟩ := seatP.hasZero 84 i (by kernel_rfl) hi
        exact ⟨i, z, rfl, hz, h1.1, h1.2⟩
    obtain ⟨i, z, hi, hz, hsz, hby⟩ := hinfo
    have hzs : z.cells.size = 2 := (seatP.zero 84 i z (by kernel_rfl) hi hz).trans hsz
    have c := Any8.slices_Grow_grow seat_growT i z hi hz (by omega) a 0 0 N [] w (by omega) (by omega) (by rw [hby]; omega) (by omega) (by simp) (fun _ => rfl) (fun a _ j v h => by simp at h)
    refine does_calls Tryz.func121 rfl (by kernel_rfl) (Calls.mono c ?_)
    rintro e w' ⟨rfl, rfl⟩
    have hB : Below w.heap.size w w.drew := (Below.refl _ w).drew
    have hd := h.below hB
    generalize hG : grownCap w (0 + N) 0 (seat_growT_ren.t 25) = G
    have hsize : ((#[] : Array Value) ++ Builtin.zeroCells z.cells (0 + N - 0) ++ Builtin.zeroCells z.cells (G - (0 + N))).size = G * 2 := by
      have hge : 0 + N ≤ grownCap w (0 + N) 0 (seat_growT_ren.t 25) := grownCap_ge w _ _ _
      rw [hG] at hge
      simp only [Array.size_append, size_zeroCells, hzs, List.size_toArray, List.length_nil]
      omega
    have L := laid_of hd [] 0 (.row 2 [] false) (.cells (([] : List Value).toArray ++ Builtin.zeroCells z.cells (0 + N - 0) ++ Builtin.zeroCells z.cells (G - (0 + N))) (seat_growT_ren.t 25)) (.ms (H.next [] 0) 2 0 0) (.slice (some ⟨w.heap.size, 0, none⟩) 0 G)
      (fun E ρ' M' E' => ⟨_, _, heap_new _ _, by simp, by omega, by simp, fun i x j c v hi => by simp at hi⟩)
      (fun ρ' M' hk => by
        have := Rep.ms (w := w.drew.alloc (.cells (([] : List Value).toArray ++ Builtin.zeroCells z.cells (0 + N - 0) ++ Builtin.zeroCells z.cells (G - (0 + N))) (seat_growT_ren.t 25))) (ρ := ρ') (M := M') (H.next [] 0) 2 0 0 w.heap.size G hk (by omega) ⟨_, _, heap_new _ _, by rw [hsize]; omega⟩
        simpa using this)
    exact ⟨_, rfl, _, ⟨(hB.mono h.size).trans (L.below.mono h.size), L.heap, (evo_below h hB _).trans L.evo⟩, L.rep⟩

theorem seatI : PrimIOk Pr pol primI0 := by
  intro f l H r H' hs ng base Ext ρ w vs hG h hv
  unfold primI0 at hs
  split at hs
  · rename_i e
    have e := Nat.eq_of_beq_eq_true e
    subst e
    exact sorted_ok hs h hv
  · split at hs
    · rename_i e
      have e := Nat.eq_of_beq_eq_true e
      subst e
      exact grow_okS hs h hv
    · cases hs
end

/-- The primitives of the first row. -/
def prim0 : FuncId → List PV → Option PV := addP 191 (fun l => match l with
  | [.str s, .int .u8 b] => some (.int .i64 (Lib.indexByte s.data.toList b.toNat.toUInt8))
  | _ => none) (fun _ _ => none)
theorem seat0 : PrimOk Pr pol prim0 := prim_ibs (primOk_none Pr pol) Tryz.func191 rfl (by kernel_rfl) (by kernel_rfl) (by kernel_rfl)
end Go.Proofs.YtigfgicjjhepoaaGreatDoor.VA
