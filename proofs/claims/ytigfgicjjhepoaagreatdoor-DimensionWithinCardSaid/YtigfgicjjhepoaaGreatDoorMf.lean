/- Parts of the proof: Sb, Sc, Sd, Ra -/
import Derived.Shelf.SlIterI.Nil
import Derived.Shelf.SortM.Plain
import Derived.Shelf.SortM.SortNone
import Derived.Shelf.Spec.SlicesGrow
import Derived.Test.YtigfgicjjhepoaaGreatDoorProg
import Derived.Test.YtigfgicjjhepoaaGreatDoorMc
import Derived.Test.YtigfgicjjhepoaaGreatDoorMe
import Derived.Test.YtigfgicjjhepoaaGreatDoorMd
namespace Go.Proofs.YtigfgicjjhepoaaGreatDoor.VA
open Go.Proofs
open Go.Shelf
set_option maxRecDepth 100000
def seat_keysA_ren : Go.Shelf.Ren := ⟨fun | 7 => 96 | 10 => 120 | n => n, fun | 23 => 117 | 26 => 3 | 3 => 43 | 28 => 146 | 0 => 0 | 27 => 145 | 33 => 70 | 4 => 4 | n => n, fun | n => n⟩
theorem seat_keysA : Go.Proofs.SlLaysZI.n7 Tryz.prog seat_keysA_ren := {
  mixed := by kernel_rfl
  f7 := ⟨Tryz.f96.name, by decide, Tryz.func96.trans (congrArg some (by kernel_rfl))⟩
  f10 := ⟨Tryz.f120.name, by decide, Tryz.func120.trans (congrArg some (by kernel_rfl))⟩
  t0 := Tryz.underlying0
  a0 := Tryz.isAgg0
  z0 := Tryz.sizeOf0
  v0 := Tryz.zeroValue0
  t4 := Tryz.underlying4
  a4 := Tryz.isAgg4
  z4 := Tryz.sizeOf4
  v4 := Tryz.zeroValue4
  t23 := Tryz.underlying117
  a23 := Tryz.isAgg117
  z23 := Tryz.sizeOf117
  v23 := Tryz.zeroValue117
  t26 := Tryz.underlying3
  a26 := Tryz.isAgg3
  z26 := Tryz.sizeOf3
  v26 := Tryz.zeroValue3
  t27 := Tryz.underlying145
  a27 := Tryz.isAgg145
  z27 := Tryz.sizeOf145
  v27 := Tryz.zeroValue145
  t28 := Tryz.underlying146
  a28 := Tryz.isAgg146
  z28 := Tryz.sizeOf146
  v28 := Tryz.zeroValue146
  t33 := Tryz.underlying70
  a33 := Tryz.isAgg70
  z33 := Tryz.sizeOf70
  v33 := Tryz.zeroValue70 }
def seat_sortedA_ren : Go.Shelf.Ren := ⟨fun | 6 => 95 | 8 => 118 | 9 => 119 | 11 => 144 | 13 => 146 | 12 => 145 | 23 => 123 | 24 => 157 | 14 => 161 | 15 => 162 | 16 => 163 | 17 => 164 | 18 => 165 | 19 => 166 | 20 => 167 | 21 => 168 | 22 => 169 | 25 => 185 | 26 => 186 | 27 => 187 | 28 => 188 | 29 => 189 | 30 => 190 | 31 => 197 | n => n, fun | 26 => 3 | 28 => 146 | 24 => 143 | 0 => 0 | 3 => 3 | 37 => 104 | 48 => 103 | 50 => 101 | 4 => 4 | 40 => 206 | 39 => 205 | 45 => 31 | 5 => 5 | 9 => 9 | 51 => 219 | 55 => 223 | 57 => 236 | 58 => 36 | 33 => 70 | n => n, fun | n => n⟩
theorem seat_sortedA : Go.Proofs.SlLaysZI.n6 Tryz.prog seat_sortedA_ren := {
  mixed := by kernel_rfl
  f6 := ⟨Tryz.f95.name, by decide, Tryz.func95.trans (congrArg some (by kernel_rfl))⟩
  f8 := ⟨Tryz.f118.name, by decide, Tryz.func118.trans (congrArg some (by kernel_rfl))⟩
  f11 := ⟨Tryz.f144.name, by decide, Tryz.func144.trans (congrArg some (by kernel_rfl))⟩
  t0 := Tryz.underlying0
  a0 := Tryz.isAgg0
  z0 := Tryz.sizeOf0
  v0 := Tryz.zeroValue0
  t24 := Tryz.underlying143
  a24 := Tryz.isAgg143
  z24 := Tryz.sizeOf143
  v24 := Tryz.zeroValue143
  t26 := Tryz.underlying3
  a26 := Tryz.isAgg3
  z26 := Tryz.sizeOf3
  v26 := Tryz.zeroValue3
  t28 := Tryz.underlying146
  a28 := Tryz.isAgg146
  z28 := Tryz.sizeOf146
  v28 := Tryz.zeroValue146
  i26 := by kernel_rfl }
def seat_sortA_ren : Go.Shelf.Ren := ⟨fun | 5 => 119 | 8 => 146 | 7 => 145 | 19 => 123 | 20 => 157 | 10 => 161 | 11 => 162 | 12 => 163 | 13 => 164 | 14 => 165 | 15 => 166 | 16 => 167 | 17 => 168 | 18 => 169 | 30 => 185 | 31 => 186 | 32 => 187 | 33 => 188 | 34 => 189 | 35 => 190 | 40 => 197 | n => n, fun | 23 => 143 | 25 => 3 | 3 => 3 | 32 => 104 | 22 => 143 | 0 => 0 | 44 => 103 | 46 => 101 | 4 => 4 | 36 => 206 | 35 => 205 | 41 => 31 | 5 => 5 | 9 => 9 | 53 => 219 | 57 => 223 | 63 => 236 | 64 => 36 | n => n, fun | n => n⟩
theorem seat_sortA : Go.Proofs.SlLaysM.n5 Tryz.prog seat_sortA_ren := {
  mixed := by kernel_rfl
  f5 := ⟨Tryz.f119.name, by decide, Tryz.func119.trans (congrArg some (by kernel_rfl))⟩
  f7 := ⟨Tryz.f145.name, by decide, Tryz.func145.trans (congrArg some (by kernel_rfl))⟩
  f8 := Tryz.func146.trans (congrArg some (by kernel_rfl))
  f10 := ⟨Tryz.f161.name, by decide, Tryz.func161.trans (congrArg some (by kernel_rfl))⟩
  f11 := ⟨Tryz.f162.name, by decide, Tryz.func162.trans (congrArg some (by kernel_rfl))⟩
  f12 := ⟨Tryz.f163.name, by decide, Tryz.func163.trans (congrArg some (by kernel_rfl))⟩
  f13 := ⟨Tryz.f164.name, by decide, Tryz.func164.trans (congrArg some (by kernel_rfl))⟩
  f14 := ⟨Tryz.f165.name, by decide, Tryz.func165.trans (congrArg some (by kernel_rfl))⟩
  f15 := ⟨Tryz.f166.name, by decide, Tryz.func166.trans (congrArg some (by kernel_rfl))⟩
  f16 := ⟨Tryz.f167.name, by decide, Tryz.func167.trans (congrArg some (by kernel_rfl))⟩
  f17 := ⟨Tryz.f168.name, by decide, Tryz.func168.trans (congrArg some (by kernel_rfl))⟩
  f18 := ⟨Tryz.f169.name, by decide, Tryz.func169.trans (congrArg some (by kernel_rfl))⟩
  f19 := Tryz.func123.trans (congrArg some (by kernel_rfl))
  f20 := Tryz.func157.trans (congrArg some (by kernel_rfl))
  f30 := ⟨Tryz.f185.name, by decide, Tryz.func185.trans (congrArg some (by kernel_rfl))⟩
  f31 := Tryz.func186.trans (congrArg some (by kernel_rfl))
  f32 := Tryz.func187.trans (congrArg some (by kernel_rfl))
  f33 := ⟨Tryz.f188.name, by decide, Tryz.func188.trans (congrArg some (by kernel_rfl))⟩
  f34 := ⟨Tryz.f189.name, by decide, Tryz.func189.trans (congrArg some (by kernel_rfl))⟩
  f35 := ⟨Tryz.f190.name, by decide, Tryz.func190.trans (congrArg some (by kernel_rfl))⟩
  f40 := ⟨Tryz.f197.name, by decide, Tryz.func197.trans (congrArg some (by kernel_rfl))⟩
  t0 := Tryz.underlying0
  a0 := Tryz.isAgg0
  z0 := Tryz.sizeOf0
  v0 := Tryz.zeroValue0
  t3 := Tryz.underlying3
  a3 := Tryz.isAgg3
  z3 := Tryz.sizeOf3
  v3 := Tryz.zeroValue3
  t4 := Tryz.underlying4
  a4 := Tryz.isAgg4
  z4 := Tryz.sizeOf4
  v4 := Tryz.zeroValue4
  t5 := Tryz.underlying5
  a5 := Tryz.isAgg5
  z5 := Tryz.sizeOf5
  v5 := Tryz.zeroValue5
  t9 := Tryz.underlying9
  a9 := Tryz.isAgg9
  z9 := Tryz.sizeOf9
  v9 := Tryz.zeroValue9
  t22 := Tryz.underlying143
  a22 := Tryz.isAgg143
  z22 := Tryz.sizeOf143
  v22 := Tryz.zeroValue143
  t23 := Tryz.underlying143
  a23 := Tryz.isAgg143
  z23 := Tryz.sizeOf143
  v23 := Tryz.zeroValue143
  t25 := Tryz.underlying3
  a25 := Tryz.isAgg3
  z25 := Tryz.sizeOf3
  v25 := Tryz.zeroValue3
  t32 := Tryz.underlying104
  a32 := Tryz.isAgg104
  z32 := Tryz.sizeOf104
  v32 := Tryz.zeroValue104
  t35 := Tryz.underlying205
  a35 := Tryz.isAgg205
  z35 := Tryz.sizeOf205
  v35 := Tryz.zeroValue205
  t36 := Tryz.underlying206
  a36 := Tryz.isAgg206
  z36 := Tryz.sizeOf206
  v36 := Tryz.zeroValue206
  t41 := Tryz.underlying31
  a41 := Tryz.isAgg31
  z41 := Tryz.sizeOf31
  v41 := Tryz.zeroValue31
  t44 := Tryz.underlying103
  a44 := Tryz.isAgg103
  z44 := Tryz.sizeOf103
  v44 := Tryz.zeroValue103
  t46 := Tryz.underlying101
  a46 := Tryz.isAgg101
  z46 := Tryz.sizeOf101
  v46 := Tryz.zeroValue101
  t53 := Tryz.underlying219
  a53 := Tryz.isAgg219
  z53 := Tryz.sizeOf219
  v53 := Tryz.zeroValue219
  t57 := Tryz.underlying223
  a57 := Tryz.isAgg223
  z57 := Tryz.sizeOf223
  v57 := Tryz.zeroValue223
  t63 := Tryz.underlying236
  a63 := Tryz.isAgg236
  z63 := Tryz.sizeOf236
  v63 := Tryz.zeroValue236
  t64 := Tryz.underlying36
  a64 := Tryz.isAgg36
  z64 := Tryz.sizeOf36
  v64 := Tryz.zeroValue36 }
def seat_growT_ren : Go.Shelf.Ren := ⟨fun _ => 121, fun | 22 => 57 | 25 => 84 | n => n, fun n => n⟩
theorem seat_growT : Go.Proofs.Lays8.n4 Tryz.prog seat_growT_ren := {
  mixed := by kernel_rfl
  f4 := ⟨Tryz.f121.name, by decide, Tryz.func121.trans (congrArg some (by kernel_rfl))⟩
  t0 := Tryz.underlying0
  a0 := Tryz.isAgg0
  z0 := Tryz.sizeOf0
  v0 := Tryz.zeroValue0
  t3 := Tryz.underlying3
  a3 := Tryz.isAgg3
  z3 := Tryz.sizeOf3
  v3 := Tryz.zeroValue3
  t4 := Tryz.underlying4
  a4 := Tryz.isAgg4
  z4 := Tryz.sizeOf4
  v4 := Tryz.zeroValue4
  t9 := Tryz.underlying9
  a9 := Tryz.isAgg9
  z9 := Tryz.sizeOf9
  v9 := Tryz.zeroValue9
  t20 := Tryz.underlying20
  a20 := Tryz.isAgg20
  z20 := Tryz.sizeOf20
  v20 := Tryz.zeroValue20
  t22 := Tryz.underlying57
  a22 := Tryz.isAgg57
  z22 := Tryz.sizeOf57
  v22 := Tryz.zeroValue57 }
end Go.Proofs.YtigfgicjjhepoaaGreatDoor.VA
set_option linter.unusedVariables false
set_option linter.unusedSimpArgs false
namespace Go.Proofs.YtigfgicjjhepoaaGreatDoor.VA
open Go Go.RowKit Go.Maps Go.Sort Go.Shelf Go.Proofs

def sortedS (l : List PV) (H : Heap) : Option (PV × Heap) :=
  match l with
  | [.fn g [] [.ptr k 1 0 0]] => if Nat.beq g 120 then match H.blk k with
    | some (.row 1 [.mapr m] _) => match H.blk m with
      | some (.map (some .i64) es) => match keyI es with
        | some ks => if ks.all (fun n => (Lit.int .i64 n).wf) && apartI ks && decide (ks.length ≤ 1000000) then
            some (if ks.isEmpty then .sl true [] else .sl false ((srtI ks).map (.int .i64)), H) else none
        | none => none
      | _ => none
    | _ => none
    else none
  | _ => none

def growS (l : List PV) (H : Heap) : Option (PV × Heap) :=
  match l with
  | [.sl true [], .int .i64 n] => if n = 0 then some (.sl true [], H) else if 0 < n ∧ n ≤ 1000000 then some (.ms (H.next [] 0) 2 0 0, H.alloc [] 0 (.row 2 [] false)) else none
  | _ => none

def primI0 (f : FuncId) (l : List PV) (H : Heap) : Option (PV × Heap) :=
  if Nat.beq f 95 then sortedS l H else if Nat.beq f 121 then growS l H else none

theorem seat_sorts (m : Nat) : AnyZI.SortsIn Pr seat_sortedA_ren Fence.wide m :=
  ⟨fun blk off cap ss W hH hblk hsz => callsIn_wide.2 (AnyM.slices_Sort_int seat_sortA blk off cap ss W hH hblk hsz),
   fun p cap W => callsIn_wide.2 (AnyM.slices_Sort_int_none seat_sortA p cap W)⟩

section
variable {ng base : Nat} {w : World} {Ext : Nat → Prop} {ρ : Key → Option Nat} {H : Heap}

theorem does_calls {f : FuncId} {fn : Func} {c : Code} {vs : Array Value} {R : Value → World → Prop} (hf : Pr.funcs[f]? = some fn) (hb : fn.body = some c) (hn : (fn.name == "runtime.NumGoroutine") = false)
    (h : Calls Pr f vs w (fun e w' => ∃ v, e = .returned v ∧ R v w')) : Does Pr f vs w R := .inl ⟨fn, c, hf, hb, hn, h⟩

theorem sorted_ok {l : List PV} {r : PV} {H' : Heap} (hs : sortedS l H = some (r, H')) {vs : Array Value} (h : HRel ng base Ext ρ H w) (hv : Reps w ρ (Mut Ext ρ H) l vs.toList) :
    Does Pr 95 vs w (fun v w' => ∃ ρ', Stepd ng base Ext ρ H w w' ρ' H' ∧ Rep w' ρ' (Mut Ext ρ' H') r v) := by
  unfold sortedS at hs
  split at hs
  rotate_left
  · cases hs
  rename_i g k
  split at hs
  rotate_left
  · cases hs
  rename_i hg
  have hg := Nat.eq_of_beq_eq_true hg
  subst hg
  split at hs
  rotate_left
  · cases hs
  rename_i m fz hk
  split at hs
  rotate_left
  · cases hs
  rename_i es hm
  split at hs
  rotate_left
  · cases hs
  rename_i ks hks
  split at hs
  rotate_left
  · cases hs
  rename_i hc
  simp only [Bool.and_eq_true, decide_eq_true_eq] at hc
  obtain ⟨⟨hwf, hap⟩, hlen⟩ := hc
  simp only [Option.some.injEq, Prod.mk.injEq] at hs
  obtain ⟨rfl, rfl⟩ := hs
  obtain ⟨vs⟩ := vs
  match vs, hv.1, hv with
  | [v], _, hv =>
  have q := hv.2 0 _ v rfl rfl
  cases q with
  | fn _ _ _ a b hx hy h1 h2 =>
  obtain ⟨a⟩ := a
  obtain ⟨b⟩ := b
  match a, hx with
  | [], _ =>
  match b, hy, h2 with
  | [u], _, h2 =>
  have qu := h2 0 _ u rfl rfl
  cases qu with
  | ptr _ _ _ _ bk hbk =>
  -- the box and the map
  have hbox : w.cell? ⟨bk, 0, none⟩ = some (.map (ρ m)) ∧ ∃ bm, ρ m = some bm ∧ BlkRel w ρ (Mut Ext ρ H) bm (.map (some .i64) es) := by
    rcases h.blk k _ hk with ⟨_, _, e, _⟩ | ⟨b', hb', hr⟩
    · cases e
    rw [hbk] at hb'; cases hb'
    obtain ⟨arr, e, g1, g2, g3, g4, g5⟩ := hr
    have hsz : 0 < arr.size := by simp only [List.length_cons, List.length_nil] at g2; omega
    have hx := g5 0 (.mapr m) 0 (.mapr m) arr[0] rfl rfl (by simp [hsz])
    generalize hq : arr[0] = q at hx
    cases hx with
    | mapr _ bm hbm =>
      refine ⟨?_, bm, hbm, ?_⟩
      · rw [hbm]
        have : arr[0]? = some (.map (some bm)) := by simp [hsz, hq]
        simp [World.cell?, g1, this]
      · rcases h.blk m _ hm with ⟨_, _, e, _⟩ | ⟨b2, hb2, hr2⟩
        · cases e
        rw [hbm] at hb2; cases hb2
        exact hr2
  obtain ⟨hcell, bm, hbm, hmap⟩ := hbox
  rw [hbm] at hcell
  obtain ⟨D, hown, hsize, hperm⟩ := owns_of (P := Pr) (kt := 3) Tryz.underlying3 hmap hks hwf hap hlen
  have hbkl : bk < w.heap.size := (h.dom k bk hbk).2
  have hseq : SeqGives Fence.wide 2 Pr 120 #[.pointer (some ⟨bk, 0, none⟩)] encZ (fun ss => ss.Perm (intKeys D)) (Maps.size D) w :=
    AnyZI.keys_gives (ρ := seat_keysA_ren) { seat_keysA with } Fence.wide _ trivial rfl (by omega) bk bm ks.length D w hbkl hcell hown
  have cS := AnyZI.sorted_in seat_sortedA Fence.wide 5 trivial trivial trivial trivial rfl (by omega) (seat_sorts _) (enters_of Tryz.func119 (by kernel_rfl) rfl) 120 #[.pointer (some ⟨bk, 0, none⟩)] trivial
    (enters_of Tryz.func120 (by kernel_rfl) rfl) _ (Maps.size D) (by unfold maxLen; omega) (by omega) w hseq
  change CallsIn _ _ Pr 95 _ _ _ at cS
  refine does_calls Tryz.func95 rfl (by kernel_rfl) (((callsIn_wide (n := 5)).1 cS).mono ?_)
  rintro e w' ⟨v, ss, rfl, hS, hrow, hnil, hB⟩
  have hss : ss.mergeSort (fun x y => decide (x ≤ y)) = srtI ks := merge_srtI (hS.trans hperm)
  have hlen' : ss.length = ks.length := (hS.trans hperm).length_eq
  refine ⟨v, rfl, ρ, ⟨hB.mono h.size, h.below hB, evo_below h hB _⟩, ?_⟩
  cases hks0 : ks with
  | nil =>
    have : ss = [] := List.eq_nil_of_length_eq_zero (by rw [hlen', hks0]; rfl)
    rw [hnil.2 this]
    exact .sl0 true none 0 (fun _ => rfl)
  | cons k0 ks' =>
    have hne : ss ≠ [] := fun e => by rw [e, hks0] at hlen'; cases hlen'
    rw [← hks0]
    have hemp : ks.isEmpty = false := by rw [hks0]; rfl
    rw [hemp]
    simp only [Bool.false_eq_true, if_false]
    obtain ⟨hx1, hx⟩ := hrow
    rcases hx with ⟨rfl, hz⟩ | ⟨gb, cap, cur, rfl, hbase, hgb, r1, r2, r3, r4⟩
    · exact absurd (hnil.1 rfl) hne
    · have hl : ss.length = ((srtI ks).map (PV.int .i64)).length := by rw [List.length_map, (srtI_perm ks).length_eq, hlen']
      rw [hl]
      refine .sl false _ gb 0 cap 1 (fun i _ => .int .i64 ((srtI ks).getD i 0)) (by omega) (fun e => by cases e) (fun v hv => ?_) (by omega) (fun hM => ?_) (fun i v j x hi hj => ?_) (fun i v j x hi hj => ?_)
      · obtain ⟨n, _, rfl⟩ := List.mem_map.1 hv; rfl
      · have := (mut_ng h hM).1; omega
      · rw [List.getElem?_map, Option.map_eq_some_iff] at hi
        obtain ⟨n, hn, rfl⟩ := hi
        have hj0 : j = 0 := by
          rcases j with _ | j
          · rfl
          · simp [PV.cells] at hj
        subst hj0
        have hil : i < (srtI ks).length := (List.getElem?_eq_some_iff.1 hn).1
        have hcur : cur[i]? = some (.int .i64 n) := by
          have := congrArg (fun l => l[i]?) r4
          rw [hss] at this
          simp only [List.getElem?_map, hn, Option.map_some] at this
          rw [List.getElem?_take, if_pos (by rw [(srtI_perm ks).length_eq] at hil; omega), Array.getElem?_toList] at this
          exact this
        have hgd : (srtI ks).getD i 0 = n := by simp [List.getD_eq_getElem?_getD, hn]
        show w'.cell? ⟨gb, 0 + i * 1 + 0, none⟩ = _
        rw [hgd, show 0 + i * 1 + 0 = i by omega]
        simp [World.cell?, hgb, hcur]
      · rw [List.getElem?_map, Option.map_eq_some_iff] at hi
        obtain ⟨n, hn, rfl⟩ := hi
        rcases j with _ | j
        · simp only [PV.cells, List.getElem?_cons_zero, Option.some.injEq] at hj
          subst hj
          have hgd : (srtI ks).getD i 0 = n := by simp [List.getD_eq_getElem?_getD, hn]
          show Rep _ _ _ _ (.int .i64 ((srtI ks).getD i 0))
          rw [hgd]; exact .int _ _
        · simp [PV.cells] at hj

theorem grow_okS {l : List PV} {r : PV} {H' : Heap} (hs : growS l H = some (r, H')) {vs : Array Value} (h : HRel ng base Ext ρ H w) (hv : Reps w ρ (Mut Ext ρ H) l vs.toList) :
    Does Pr 121 vs w (fun v w' => ∃ ρ', Stepd ng base Ext ρ H w w' ρ' H' ∧ Rep w' ρ' (Mut Ext ρ' H') r v) := by
  unfold growS at hs
  split at hs
  rotate_left
  · cases hs
  rename_i n
  obtain ⟨vs⟩ := vs
  match vs, hv.1, hv with
  | [v1, v2], _, hv =>
  have q1 := hv.2 0 _ v1 rfl rfl
  have q2 := hv.2 1 _ v2 rfl rfl
  cases q2
  have hbase : ∃ a, v1 = .slice a 0 0 := by
    generalize hp : PV.sl true [] = p at q1
    cases q1 with
    | sl0 f a c hf => cases hp; exact ⟨a, by rw [hf rfl]⟩
    | sl f l b o c sz val hc hf => cases hp; exact ⟨_, by have := hf rfl; simp only [List.length_nil] at this; subst this; rfl⟩
    | _ => cases hp
  obtain ⟨a, rfl⟩ := hbase
  split at hs
  · rename_i hn
    subst hn
    simp only [Option.some.injEq, Prod.mk.injEq] at hs
    obtain ⟨rfl, rfl⟩ := hs
    have c := Any8.slices_Grow_room seat_growT a 0 0 0 w (by omega) (by omega) (by omega) (by omega)
    refine does_calls Tryz.func121 rfl (by kernel_rfl) (Calls.mono c ?_)
    rintro e w' ⟨rfl, rfl⟩
    exact ⟨_, rfl, ρ, Stepd.refl h, .sl0 true a 0 (fun _ => rfl)⟩
  · split at hs
    rotate_left
    · cases hs
    rename_i hn0 hn
    simp only [Option.some.injEq, Prod.mk.injEq] at hs
    obtain ⟨rfl, rfl⟩ := hs
    obtain ⟨N, rfl⟩ : ∃ N : Nat, n = (N : Int) := ⟨n.toNat, by omega⟩
    have hinfo : ∃ i z, Pr.info? 84 = some i ∧ i.zero = some z ∧ i.size = 2 ∧ i.bytes = 24 := by
      have h1 : (Pr.info? 84).map (fun i => (i.size, i.bytes)) = some (2, 24) := by kernel_rfl
      cases hi : Pr.info? 84 with
      | none => rw [hi] at h1; cases h1
      | some i =>
        rw [hi] at h1
        simp only [Option.map_some, Option.some.injEq, Prod.mk.injEq] at h1
        obtain ⟨z, hz⟩ := seatP.hasZero 84 i (by kernel_rfl) hi
        exact ⟨i, z, rfl, hz, h1.1, h1.2⟩
    obtain ⟨i, z, hi, hz, hsz, hby⟩ := hinfo
    have hzs : z.cells.size = 2 := (seatP.zero 84 i z (by kernel_rfl) hi hz).trans hsz
    have c := Any8.slices_Grow_grow seat_growT i z hi hz (by omega) a 0 0 N [] w (by omega) (by omega) (by rw [hby]; omega) (by omega) (by simp) (fun _ => rfl) (fun a _ j v h => by simp at h)
    refine does_calls Tryz.func121 rfl (by kernel_rfl) (Calls.mono c ?_)
    rintro e w' ⟨rfl, rfl⟩
    have hB : Below w.heap.size w w.drew := (Below.refl _ w).drew
    have hd := h.below hB
    generalize hG : grownCap w (0 + N) 0 (seat_growT_ren.t 25) = G
    have hsize : ((#[] : Array Value) ++ Builtin.zeroCells z.cells (0 + N - 0) ++ Builtin.zeroCells z.cells (G - (0 + N))).size = G * 2 := by
      have hge : 0 + N ≤ grownCap w (0 + N) 0 (seat_growT_ren.t 25) := grownCap_ge w _ _ _
      rw [hG] at hge
      simp only [Array.size_append, size_zeroCells, hzs, List.size_toArray, List.length_nil]
      omega
    have L := laid_of hd [] 0 (.row 2 [] false) (.cells (([] : List Value).toArray ++ Builtin.zeroCells z.cells (0 + N - 0) ++ Builtin.zeroCells z.cells (G - (0 + N))) (seat_growT_ren.t 25)) (.ms (H.next [] 0) 2 0 0) (.slice (some ⟨w.heap.size, 0, none⟩) 0 G)
      (fun E ρ' M' E' => ⟨_, _, heap_new _ _, by simp, by omega, by simp, fun i x j c v hi => by simp at hi⟩)
      (fun ρ' M' hk => by
        have := Rep.ms (w := w.drew.alloc (.cells (([] : List Value).toArray ++ Builtin.zeroCells z.cells (0 + N - 0) ++ Builtin.zeroCells z.cells (G - (0 + N))) (seat_growT_ren.t 25))) (ρ := ρ') (M := M') (H.next [] 0) 2 0 0 w.heap.size G hk (by omega) ⟨_, _, heap_new _ _, by rw [hsize]; omega⟩
        simpa using this)
    exact ⟨_, rfl, _, ⟨(hB.mono h.size).trans (L.below.mono h.size), L.heap, (evo_below h hB _).trans L.evo⟩, L.rep⟩

theorem seatI : PrimIOk Pr pol primI0 := by
  intro f l H r H' hs ng base Ext ρ w vs hG h hv
  unfold primI0 at hs
  split at hs
  · rename_i e
    have e := Nat.eq_of_beq_eq_true e
    subst e
    exact sorted_ok hs h hv
  · split at hs
    · rename_i e
      have e := Nat.eq_of_beq_eq_true e
      subst e
      exact grow_okS hs h hv
    · cases hs
end

/-- The primitives of the first row. -/
def prim0 : FuncId → List PV → Option PV := addP 191 (fun l => match l with
  | [.str s, .int .u8 b] => some (.int .i64 (Lib.indexByte s.data.toList b.toNat.toUInt8))
  | _ => none) (fun _ _ => none)
theorem seat0 : PrimOk Pr pol prim0 := prim_ibs (primOk_none Pr pol) Tryz.func191 rfl (by kernel_rfl) (by kernel_rfl) (by kernel_rfl)
end Go.Proofs.YtigfgicjjhepoaaGreatDoor.VA
set_option linter.unusedVariables false
namespace Go.Proofs.YtigfgicjjhepoaaGreatDoor.VA
open Go Go.Proofs
theorem known_run : (orc Pr pol prim0 primI0 300).pure 6 [] = some (.bool true) := by kernel_rfl
def knownS (l : List PV) : Option PV := match l with
  | [] => some (.bool true)
  | _ => none
def prim1 : FuncId → List PV → Option PV := addP 6 knownS prim0
theorem seat1 : PrimOk Pr pol prim1 := primOk_add seatP seatC seat0 seatI (fun args r h => ⟨300, by
  unfold knownS at h
  split at h
  · cases h; exact known_run
  · cases h⟩)
end Go.Proofs.YtigfgicjjhepoaaGreatDoor.VA
set_option linter.unusedVariables false
set_option linter.unusedSimpArgs false
namespace Go.Proofs.YtigfgicjjhepoaaGreatDoor.VA
open Go Go.Proofs

/-- The operations at which something is told. -/
def flg (l : List (Nat × Nat × Way)) (a b : Nat) : Way :=
  match l with
  | [] => .no
  | (x, y, w) :: l => if Nat.beq x a && Nat.beq y b then w else flg l a b
def hts (l : List (Nat × Nat × Hint)) (a b : Nat) : Hint :=
  match l with
  | [] => .ev
  | (x, y, w) :: l => match Nat.beq x a && Nat.beq y b with
    | true => w
    | false => hts l a b

def seqL : Code → Code
  | .seq a _ => a
  | x => x
def seqR : Code → Code
  | .seq _ a => a
  | x => x
def inner : Code → Code
  | .block _ a => a
  | .loop a => a
  | x => x
def thenC : Code → Code
  | .cond _ a _ => a
  | x => x
def elseC : Code → Code
  | .cond _ _ a => a
  | x => x
def bodyOf (f : Func) : Code := f.body.getD .skip

theorem wrap_nat {k : Nat} (h : k < 2 ^ 62) : IntKind.i64.wrap ((k : Int) + 1) = ((k + 1 : Nat) : Int) := by
  rw [wrap_i64 (by omega) (by omega)]; omega

/-- What is known of a function at some depth, and at every greater one. -/
def Known (f : FuncId) (args : List PV) (r : PV) : Prop := ∃ m, ∀ m', m ≤ m' → (orc Pr pol prim1 primI0 m').pure f args = some r
/-- A word on oracles that holds from some depth on. -/
def Deep (Q : Orc → Prop) : Prop := ∃ m, ∀ m', m ≤ m' → Q (orc Pr pol prim1 primI0 m')
theorem Known.deep {f : FuncId} {args : List PV} {r : PV} (h : Known f args r) : Deep (fun O => O.pure f args = some r) := h
theorem Deep.and {Q R : Orc → Prop} (h : Deep Q) (g : Deep R) : Deep (fun O => Q O ∧ R O) := by
  obtain ⟨m, hm⟩ := h
  obtain ⟨k, hk⟩ := g
  exact ⟨max m k, fun m' h' => ⟨hm m' (by omega), hk m' (by omega)⟩⟩
theorem Deep.triv : Deep (fun _ => True) := ⟨0, fun _ _ => trivial⟩
theorem Known.of {Q : Orc → Prop} {f : FuncId} {args : List PV} {r : PV} (hQ : Deep Q) (hp : prim1 f args = none) (h : ∀ O, Q O → Runs Pr pol O f args r) : Known f args r := by
  obtain ⟨m, hm⟩ := hQ
  obtain ⟨n, hn⟩ := h _ (hm m (Nat.le_refl m))
  refine ⟨max m n + 1, fun m' h' => ?_⟩
  obtain ⟨k, rfl⟩ : ∃ k, m' = k + 1 := ⟨m' - 1, by omega⟩
  exact orc_pure hp (evPure_mono (evPure_le (orc_le' (by omega)) hn) (by omega))

theorem known_known : Known 6 [] (.bool true) := ⟨0, fun m' _ => by
  cases m' with
  | zero => rfl
  | succ m => rfl⟩

/-- All that is known. -/
noncomputable def OO : Orc := lim Pr pol prim1 primI0
/-- What a function hands back. -/
abbrev Kn (f : FuncId) (args : List PV) (r : PV) : Prop := OO.pure f args = some r
theorem Known.kn {f : FuncId} {args : List PV} {r : PV} (h : Known f args r) : Kn f args r := by
  obtain ⟨m, hm⟩ := h
  exact lim_pure.2 ⟨m, hm m (Nat.le_refl m)⟩
theorem Known.ofKn {f : FuncId} {args : List PV} {r : PV} (h : Kn f args r) : Known f args r := by
  obtain ⟨m, hm⟩ := lim_pure.1 h
  exact ⟨m, fun m' h' => (orc_le' h').pure _ _ _ hm⟩
theorem Kn.of {f : FuncId} {args : List PV} {r : PV} (hp : prim1 f args = none) (h : Runs Pr pol OO f args r) : Kn f args r := lim_run hp h

theorem Ev.as {c : Ctx} {O : Orc} {a b : Code} {st st' : St} {ex : Ex} (h : a = b) (e : Ev c O b st ex st') : Ev c O a st ex st' := by rw [h]; exact e
theorem Ev.block_n {c : Ctx} {O : Orc} {a : Code} {id : Nat} {st s : St} (h : Ev c O a st .normal s) : Ev c O (.block id a) st .normal s := by
  obtain ⟨n, hn⟩ := h
  exact ⟨n + 1, by simp only [evCode, hn]⟩
/-- A loop, round by round: what holds before round k. -/
theorem Ev.rounds {c : Ctx} {O : Orc} {body : Code} {id n : Nat} {I : Nat → St → Prop} {Q : St → Prop} {S : Ex → St → Prop}
    (he : ∀ st, I n st → ∃ st', Ev c O body st (.exit id) st' ∧ Q st')
    (hr : ∀ k, k < n → ∀ st, I k st → (∃ st', Ev c O body st .normal st' ∧ I (k + 1) st') ∨ (∃ ex st', ex ≠ .normal ∧ Ev c O body st ex st' ∧ S ex st')) :
    ∀ r k, k + r = n → ∀ st, I k st → (∃ st', Ev c O (.loop body) st (.exit id) st' ∧ Q st') ∨ (∃ ex st', ex ≠ .normal ∧ Ev c O (.loop body) st ex st' ∧ S ex st')
  | 0, k, hk, st, h => by
    obtain rfl : k = n := by omega
    obtain ⟨st', e, q⟩ := he st h
    exact .inl ⟨st', e.loop_stop (by intro q; cases q), q⟩
  | r + 1, k, hk, st, h => by
    rcases hr k (by omega) st h with ⟨s1, e, h1⟩ | ⟨ex, s1, hne, e, h1⟩
    · rcases Ev.rounds he hr r (k + 1) (by omega) s1 h1 with ⟨s2, e2, q⟩ | ⟨ex, s2, hne, e2, q⟩
      · exact .inl ⟨s2, e.loop e2, q⟩
      · exact .inr ⟨ex, s2, hne, e.loop e2, q⟩
    · exact .inr ⟨ex, s1, hne, e.loop_stop hne, h1⟩
/-- A loop that always comes to its end. -/
theorem Ev.roundsN {c : Ctx} {O : Orc} {body : Code} {id n : Nat} {I : Nat → St → Prop} {Q : St → Prop}
    (he : ∀ st, I n st → ∃ st', Ev c O body st (.exit id) st' ∧ Q st')
    (hr : ∀ k, k < n → ∀ st, I k st → ∃ st', Ev c O body st .normal st' ∧ I (k + 1) st') {st : St} (h : I 0 st) : ∃ st', Ev c O (.block id (.loop body)) st .normal st' ∧ Q st' := by
  rcases Ev.rounds (S := fun _ _ => False) he (fun k hk st h => .inl (hr k hk st h)) n 0 (by omega) st h with ⟨s, e, q⟩ | ⟨_, _, _, _, q⟩
  · exact ⟨s, e.block, q⟩
  · exact q.elim
/-- Code one after the other: a walk through a, a loop b, the rest. -/
theorem Ev.seq3 {c : Ctx} {O : Orc} {a b d : Code} {st s1 s2 s3 : St} {ex : Ex} (h1 : Ev c O a st .normal s1) (h2 : Ev c O b s1 .normal s2) (h3 : Ev c O d s2 ex s3) : Ev c O (.seq a (.seq b d)) st ex s3 := h1.seq (h2.seq h3)
/-- Temporaries that are known. -/
def AllT (R : Nat → PV) (ts : List (Nat × PV)) : List (Nat × PV) → Prop
  | [] => True
  | e :: l => getT ts R e.1 = e.2 ∧ AllT R ts l
theorem AllT.mem {R : Nat → PV} {ts : List (Nat × PV)} : ∀ {l : List (Nat × PV)}, AllT R ts l → ∀ e ∈ l, getT ts R e.1 = e.2
  | x :: l, h, e, he => by
    rcases List.mem_cons.1 he with rfl | he
    · exact h.1
    · exact AllT.mem h.2 e he
/-- Known otherwise. -/
theorem HasY.to {p : List Nat} {y y' : YS} {st : St} (h : HasY p y st) (ht : ∀ R, AllT R y.ts y'.ts) (hb : ∀ x ∈ y'.bs, x ∈ y.bs) (hc : ∀ x ∈ y'.cs, x ∈ y.cs) : HasY p y' st :=
  ⟨fun x hx => by rw [h.sat.t]; exact AllT.mem (ht st.tm) x hx, fun x hx => h.b x (hb x hx), fun x hx => h.c x (hc x hx)⟩
theorem nilM {α : Type} {l : List α} : ∀ x ∈ ([] : List α), x ∈ l := fun x h => by cases h
theorem HasY.t0 {p : List Nat} {n : Nat} {v : PV} {ts : List (Nat × PV)} {bs : List (Key × Blk)} {cs : List (Nat × Nat)} {st : St} (h : HasY p ⟨(n, v) :: ts, bs, cs⟩ st) : st.tm n = v := h.t (n, v) (List.mem_cons_self ..)

/-! ### code as a list of pieces -/
def flatC : Code → List Code
  | .seq a b => flatC a ++ flatC b
  | .skip => []
  | x => [x]
def seqsC : List Code → Code
  | [] => .skip
  | [a] => a
  | a :: b :: l => .seq a (seqsC (b :: l))
/-- So many pieces of code from a place on. -/
def pc (k n : Nat) (code : Code) : Code := seqsC (((flatC code).drop k).take n)
/-- The pieces from a place on. -/
def pcs (k : Nat) (code : Code) : Code := seqsC ((flatC code).drop k)
theorem Ev.skip {c : Ctx} {O : Orc} {st : St} : Ev c O .skip st .normal st := ⟨1, rfl⟩
theorem Ev.skip_inv {c : Ctx} {O : Orc} {st st' : St} {ex : Ex} (h : Ev c O .skip st ex st') : ex = .normal ∧ st' = st := by
  obtain ⟨n, hn⟩ := h
  cases n with
  | zero => simp [evCode] at hn
  | succ n => simp only [evCode, Option.some.injEq, Prod.mk.injEq] at hn; exact ⟨hn.1.symm, hn.2.symm⟩
theorem Ev.seq_inv {c : Ctx} {O : Orc} {a b : Code} {st st' : St} {ex : Ex} (h : Ev c O (.seq a b) st ex st') : (∃ s, Ev c O a st .normal s ∧ Ev c O b s ex st') ∨ (ex ≠ .normal ∧ Ev c O a st ex st') := by
  obtain ⟨n, hn⟩ := h
  cases n with
  | zero => simp [evCode] at hn
  | succ n =>
    simp only [evCode] at hn
    split at hn
    · rename_i s1 h1
      exact .inl ⟨s1, ⟨n, h1⟩, ⟨n, hn⟩⟩
    · rename_i hne
      refine .inr ⟨fun e => ?_, ⟨n, hn⟩⟩
      subst e
      exact hne _ hn
theorem seqsC_cons {c : Ctx} {O : Orc} {a : Code} {l : List Code} {st st' : St} {ex : Ex} : Ev c O (seqsC (a :: l)) st ex st' ↔ Ev c O (.seq a (seqsC l)) st ex st' := by
  cases l with
  | nil =>
    constructor
    · intro h
      by_cases e : ex = .normal
      · subst e; exact h.seq Ev.skip
      · exact h.seq_stop e
    · intro h
      rcases h.seq_inv with ⟨s, h1, h2⟩ | ⟨_, h1⟩
      · obtain ⟨rfl, rfl⟩ := h2.skip_inv; exact h1
      · exact h1
  | cons b l => exact Iff.rfl
theorem seqsC_app {c : Ctx} {O : Orc} : ∀ {l1 l2 : List Code} {st st' : St} {ex : Ex}, Ev c O (seqsC (l1 ++ l2)) st ex st' ↔ Ev c O (.seq (seqsC l1) (seqsC l2)) st ex st'
  | [], l2, st, st', ex => by
    constructor
    · intro h; exact Ev.skip.seq h
    · intro h
      rcases h.seq_inv with ⟨s, h1, h2⟩ | ⟨hne, h1⟩
      · obtain ⟨_, rfl⟩ := h1.skip_inv; exact h2
      · exact absurd h1.skip_inv.1 hne
  | a :: l1, l2, st, st', ex => by
    rw [List.cons_append, seqsC_cons]
    constructor
    · intro h
      rcases h.seq_inv with ⟨s, h1, h2⟩ | ⟨hne, h1⟩
      · rcases (seqsC_app.1 h2).seq_inv with ⟨s2, h3, h4⟩ | ⟨hne, h3⟩
        · exact (seqsC_cons.2 (h1.seq h3)).seq h4
        · exact (seqsC_cons.2 (h1.seq h3)).seq_stop hne
      · exact (seqsC_cons.2 (h1.seq_stop hne)).seq_stop hne
    · intro h
      rcases h.seq_inv with ⟨s, h1, h2⟩ | ⟨hne, h1⟩
      · rcases (seqsC_cons.1 h1).seq_inv with ⟨s2, h3, h4⟩ | ⟨hne, h3⟩
        · exact h3.seq (seqsC_app.2 (h4.seq h2))
        · exact absurd rfl hne
      · rcases (seqsC_cons.1 h1).seq_inv with ⟨s2, h3, h4⟩ | ⟨_, h3⟩
        · exact h3.seq (seqsC_app.2 (h4.seq_stop hne))
        · exact h3.seq_stop hne
theorem Ev.flat {c : Ctx} {O : Orc} : ∀ {code : Code} {st st' : St} {ex : Ex}, Ev c O (seqsC (flatC code)) st ex st' → Ev c O code st ex st' := by
  intro code
  induction code with
  | seq a b iha ihb =>
    intro st st' ex h
    rcases (seqsC_app.1 h).seq_inv with ⟨s, h1, h2⟩ | ⟨hne, h1⟩
    · exact (iha h1).seq (ihb h2)
    · exact (iha h1).seq_stop hne
  | skip => intro st st' ex h; exact h
  | _ => intro st st' ex h; exact h
/-- All pieces: the code. -/
theorem Ev.pcs0 {c : Ctx} {O : Orc} {code : Code} {st st' : St} {ex : Ex} (h : Ev c O (pcs 0 code) st ex st') : Ev c O code st ex st' := Ev.flat h
/-- Some pieces, then those behind. -/
theorem Ev.pcs {c : Ctx} {O : Orc} {code : Code} {k n m : Nat} {st s st' : St} {ex : Ex} (h : Ev c O (pc k n code) st .normal s) (g : Ev c O (VA.pcs m code) s ex st') (hm : m = k + n := by rfl) : Ev c O (VA.pcs k code) st ex st' := by
  subst hm
  unfold VA.pcs at g ⊢
  rw [← List.take_append_drop n ((flatC code).drop k), List.drop_drop]
  exact seqsC_app.2 (Ev.seq h g)
theorem Ev.pcs_stop {c : Ctx} {O : Orc} {code : Code} {k n : Nat} {st s : St} {ex : Ex} (h : Ev c O (pc k n code) st ex s) (hne : ex ≠ .normal) : Ev c O (VA.pcs k code) st ex s := by
  unfold VA.pcs
  rw [← List.take_append_drop n ((flatC code).drop k)]
  exact seqsC_app.2 (h.seq_stop hne)
/-- One piece. -/
def it (k : Nat) (code : Code) : Code := ((flatC code)[k]?).getD .skip
theorem Ev.pc1 {c : Ctx} {O : Orc} {code : Code} {k : Nat} {st s : St} {ex : Ex} (h : Ev c O (it k code) st ex s) : Ev c O (pc k 1 code) st ex s := by
  unfold it at h
  unfold pc
  cases hx : (flatC code)[k]? with
  | none =>
    rw [hx] at h
    have : (flatC code).drop k = [] := List.drop_eq_nil_of_le (List.getElem?_eq_none_iff.1 hx)
    rw [this]
    exact h
  | some x =>
    rw [hx] at h
    obtain ⟨hk, e⟩ := List.getElem?_eq_some_iff.1 hx
    have : (flatC code).drop k = x :: (flatC code).drop (k + 1) := by rw [← e, List.getElem_cons_drop]
    rw [this]
    exact h
/-- A function whose pieces have been gone through. -/
theorem Runs.endY {O : Orc} {f : FuncId} {fn : Func} {args : List PV} {st : St} {y : YS} {ex : Ex} {r : PV} {ns : List Nat} {rd : Rd} {ps : List Prop} (h : Ev ⟨Pr, pol, [], f⟩ O (VA.pcs 0 (bodyOf fn)) (startSt args Heap.empty) ex st) (hs : HasY [] y st) (hf : Pr.funcs[f]? = some fn) (hb : fn.body = some (bodyOf fn)) (hp : PV.persL args = true) (hl : args.length ≤ fn.ntmps) (hu : pol.use f = true)
    (hr : ∀ R, VA.endY Pr R ns rd fn.results.toList (ex, y, []) = some (r, ps)) (ho : AllP ps) : Runs Pr pol O f args r := by
  have hr := hr st.tm
  have hex : ex = .normal ∨ ex = .ret := by
    cases ex with
    | normal => exact .inl rfl
    | ret => exact .inr rfl
    | exit j => simp [VA.endY] at hr
  have hr : (match resY Pr st.tm y ns fn.results.toList with
    | none => none
    | some l => match rdV y.bs 12 rd (oneR l) with
      | some (x, us, qs) => some (x, ([] : List Prop) ++ qs)
      | none => none) = some (r, ps) := by
    rcases hex with rfl | rfl <;> exact hr
  split at hr
  · cases hr
  rename_i l hres
  split at hr
  rotate_left
  · cases hr
  rename_i x us qs hrd
  simp only [List.nil_append, Option.some.injEq, Prod.mk.injEq] at hr
  obtain ⟨rfl, rfl⟩ := hr
  obtain ⟨_, ks, d1, _, _⟩ := rdV_ok hs.b 12 rd (oneR l) x us qs hrd ho
  have hr := resultsV_of (resY_ok (c := ⟨Pr, pol, [], f⟩) rfl hs.sat hres) (resY_len hres)
  exact Runs.of_Ev hf hb hp hl hu h.pcs0 hex hr (by rw [d1]; rfl)
end Go.Proofs.YtigfgicjjhepoaaGreatDoor.VA
