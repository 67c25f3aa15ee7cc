/- From the evaluator to the rows. -/
import Derived.Test.YtigfgicjjhepoaaGreatDoorSh
import Derived.Test.YtigfgicjjhepoaaGreatDoorRows
import Derived.Test.YtigfgicjjhepoaaGreatDoorTie
import Derived.Test.YtigfgicjjhepoaaGreatDoorCards
import Derived.ProofKit
import Derived.OpenShut
import Derived.LaidMore
import Derived.Lay
import Derived.SevenTiedAt
import Derived.Stop.Joined
import Derived.Lib.SmallJoins
set_option linter.unusedVariables false
set_option linter.unusedSimpArgs false
namespace Go.Proofs.YtigfgicjjhepoaaGreatDoor.VA
open Go Go.Proofs Go.Proofs.YtigfgicjjhepoaaGreatDoor Go.ChangeShapes Go.WideShapes Go.ChangeAt Go.RowKit

theorem seat_own : ownKnob Pr.godebug = none := by kernel_rfl
theorem seat_laidOut : laidOutB Pr = true := by kernel_rfl

theorem trodAll_below {H : Type} {enc : TypeId × Value → H} {W W' : World} (hB : Below W.heap.size W W') : ∀ {ts : List TypeId} {vs : List Value} {ds : List (DataW H)} {ps : List MemPlace}, (∀ t ∈ ts, Pr.readableRec t = true ∧ t < Pr.types.size) →
    DataW.TrodAll enc Pr W 0 (fun _ => true) true ts vs ds ps → (∀ x ∈ ps, x.block < W.heap.size) → DataW.TrodAll enc Pr W' 0 (fun b => decide (b < W.heap.size)) true ts vs ds ps
  | [], vs, ds, ps, _, h, _ => by
    obtain ⟨rfl, rfl, rfl⟩ := trodAll_nil h
    exact trodAll_mk0
  | t :: ts, vs, ds, ps, ht, h, hlt => by
    obtain ⟨v, vs1, d, ds1, a, b, rfl, rfl, rfl, h1, h2⟩ := trodAll_cons h
    exact ⟨a, b, Below.trod seat_laidOut (ht t (by simp)).1 (ht t (by simp)).2 h1 hB (fun x hx => hlt x (by simp [hx])), trodAll_below hB (fun u hu => ht u (by simp [hu])) h2 (fun x hx => hlt x (by simp [hx])), rfl⟩

/-- What a law leaves that answers true and writes nothing that was there. -/
theorem post_true {H : Type} {enc : TypeId × Value → H} {f : Func} {s : ChangeSpec} {W W' : World} {args : Array Value} {ds gs : List (DataW H)} {before : List MemPlace} (hW : DataW.Whole enc Pr f.params.toList s.vars false W args.toList ds gs before) (hg : s.vars = [])
    (hts : ∀ t ∈ f.params.toList, Pr.readableRec t = true ∧ t < Pr.types.size) (hr : f.resultTypes = #[4]) (hs : s.fn H (ds ++ []) = { results := [.lit (.bool true)], args := ds }) (hB : Below W.heap.size W W') : s.post enc Pr f false true false false W args (.bool true) W' := by
  have hlt := hW.lt
  have hW' := hW
  obtain ⟨p, q, hA, hV, rfl, hfz, hnd⟩ := hW
  rw [hg] at hV
  obtain ⟨rfl, rfl⟩ := trodVars_none hV
  refine ⟨ds, [], _, [], p, [], hW', ?_, ?_, ?_, hB.frame _, fun h => by cases h⟩
  · rw [hs, hr]; exact trodAll_mk1 (shut_bool Tryz.underlying4 true)
  · rw [hs]
    exact trodAll_below hB hts hA (fun x hx => hlt x (by simp [hx]))
  · rw [hs, hg]; rfl

/-- From what is known of a law's function to its call. -/
theorem calls_true {f : FuncId} {fn : Func} {c : Code} {args : Array Value} {W : World} {l : List PV} (hf : Pr.funcs[f]? = some fn) (hb : fn.body = some c) (hn : (fn.name == "runtime.NumGoroutine") = false) (h : Known f l (.bool true)) (hv : Reps W (fun _ => none) (fun _ => False) l args.toList) :
    Calls Pr f args W (fun e W' => e = .returned (.bool true) ∧ Below W.heap.size W W') := by
  obtain ⟨m, hm⟩ := h
  have hD := (orc_ok seatP seatC seat1 seatI m).pure f l (.bool true) (hm m (Nat.le_refl m)) 0 W (fun _ => False) args (seatG 0 W) (Nat.zero_le _) (fun b h => h.elim) hv
  rcases hD with ⟨fn', c', h1, h2, h3, h4⟩ | ⟨v, w', h1, h2⟩
  · refine Calls.mono h4 ?_
    rintro e w' ⟨v, rfl, hB, hr⟩
    exact ⟨by rw [hr.bool_inv], hB⟩
  · exfalso
    have hne : fn.name ≠ "runtime.NumGoroutine" := by simpa using hn
    simp [callFunc, hf, hne, hb] at h1

theorem arr4 {cs : Array Value} (h : cs.size = 4) : ∃ c0 c1 c2 c3, cs = #[c0, c1, c2, c3] := by
  obtain ⟨l⟩ := cs
  match l, h with
  | [c0, c1, c2, c3], _ => exact ⟨c0, c1, c2, c3, rfl⟩

set_option maxRecDepth 100000 in
theorem dim_open {H : Type} {enc : TypeId × Value → H} {W : World} {base : Nat} {v : Value} {d : DataW H} {p : List MemPlace} (hv : Value.okWide Pr W .any base 23 v) (h : DataW.Trod enc Pr W 0 (fun _ => true) true 23 v d p) :
    ∃ s a b c, v = .agg #[.string s, .int .i64 a, .int .i64 b, .int .i64 c] := by
  unfold Value.okWide at hv
  rw [Tryz.underlying23] at hv
  obtain ⟨cs, rfl, hcs, _⟩ := hv
  have c23 : Pr.cellsOf 23 = 4 := by kernel_rfl
  have c9 : Pr.cellsOf 9 = 1 := by kernel_rfl
  have c3 : Pr.cellsOf 3 = 1 := by kernel_rfl
  rw [c23] at hcs
  obtain ⟨x0, x1, x2, x3, rfl⟩ := arr4 hcs
  obtain ⟨fuel, h⟩ := h
  obtain ⟨y0, y1, y2, y3, n, _, _, h0, h1, h2, h3⟩ := Joins.trod_struct4 Tryz.underlying23 h
  simp only [Value.cells, c9, c3, List.drop_zero, List.drop_succ_cons, List.take_succ_cons, List.take_zero] at h0 h1 h2 h3
  obtain ⟨s, e0, _⟩ := DataW.trod_string Tryz.underlying9 h0
  obtain ⟨a, e1, _⟩ := DataW.trod_int Tryz.underlying3 h1
  obtain ⟨b, e2, _⟩ := DataW.trod_int Tryz.underlying3 h2
  obtain ⟨c, e3, _⟩ := DataW.trod_int Tryz.underlying3 h3
  simp only [List.cons.injEq, and_true] at e0 e1 e2 e3
  subst e0 e1 e2 e3
  exact ⟨s, a, b, c, rfl⟩

theorem rep_dim {W : World} {ρ : Key → Option Nat} {M : Nat → Prop} (s : ByteArray) (a b c : Int) : Rep W ρ M (D s a b c) (.agg #[.string s, .int .i64 a, .int .i64 b, .int .i64 c]) := by
  have := Reps.cons (Rep.str (w := W) (ρ := ρ) (M := M) s) (Reps.cons (Rep.int .i64 a) (Reps.cons (Rep.int .i64 b) (Reps.cons (Rep.int .i64 c) Reps.nil)))
  exact .agg _ _ rfl (fun i c v hc hv => this.2 i c v hc (by simpa using hv))

end Go.Proofs.YtigfgicjjhepoaaGreatDoor.VA
