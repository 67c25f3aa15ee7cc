/- Parts of the proof: Ta, Tb, Tc, Td, Te, Tf, Tg, Th, Ti -/
import Derived.Test.YtigfgicjjhepoaaGreatDoorMf
set_option linter.unusedVariables false
set_option linter.unusedSimpArgs false
namespace Go.Proofs.YtigfgicjjhepoaaGreatDoor.VA.Z
open Go Go.Proofs

def u32 (n : Int) : PV := .int .u32 n
/-- States: named temporaries, named blocks, the rest. -/
def mkK (ts : List (Nat × PV)) (bs : List (Key × Blk)) (R : Nat → PV) (B : Key → Option Blk) (C : List Nat → Nat → Nat) : St :=
  ⟨fun i => pickT ts R i, ⟨fun j => pickB bs B j, C⟩⟩
where
  pickT : List (Nat × PV) → (Nat → PV) → Nat → PV
  | [], R, i => R i
  | (n, v) :: l, R, i => if i = n then v else pickT l R i
  pickB : List (Key × Blk) → (Key → Option Blk) → Key → Option Blk
  | [], B, j => B j
  | (k, b) :: l, B, j => if j = k then some b else pickB l B j
structure HasK (ts : List (Nat × PV)) (bs : List (Key × Blk)) (st : St) : Prop where
  t : ∀ x ∈ ts, st.tm x.1 = x.2
  b : ∀ x ∈ bs, st.hp.blk x.1 = some x.2
theorem HasK.eq {ts : List (Nat × PV)} {bs : List (Key × Blk)} {st : St} (h : HasK ts bs st) : st = mkK ts bs st.tm st.hp.blk st.hp.cnt := by
  obtain ⟨tm, ⟨blk, ct⟩⟩ := st
  obtain ⟨h1, h2⟩ := h
  simp only at h1 h2
  unfold mkK
  congr 1
  · funext i
    induction ts with
    | nil => rfl
    | cons x l ih =>
      obtain ⟨n, v⟩ := x
      unfold mkK.pickT
      split
      · rename_i e; rw [e]; exact h1 (n, v) (by simp)
      · exact ih (fun y hy => h1 y (by simp [hy]))
  · congr 1
    funext j
    induction bs with
    | nil => rfl
    | cons x l ih =>
      obtain ⟨n, v⟩ := x
      unfold mkK.pickB
      split
      · rename_i e; rw [e]; exact h2 (n, v) (by simp)
      · exact ih (fun y hy => h2 y (by simp [hy]))
theorem hasK_nil {st : St} : HasK [] [] st := ⟨fun _ h => (by cases h), fun _ h => (by cases h)⟩
theorem HasK.ct {ts : List (Nat × PV)} {bs : List (Key × Blk)} {st : St} {n : Nat} {v : PV} (h : HasK ts bs st) (hv : st.tm n = v) : HasK ((n, v) :: ts) bs st := ⟨fun x hx => by
  rcases List.mem_cons.1 hx with rfl | hx
  · exact hv
  · exact h.t x hx, h.b⟩
theorem HasK.cb {ts : List (Nat × PV)} {bs : List (Key × Blk)} {st : St} {n : Key} {v : Blk} (h : HasK ts bs st) (hv : st.hp.blk n = some v) : HasK ts ((n, v) :: bs) st := ⟨h.t, fun x hx => by
  rcases List.mem_cons.1 hx with rfl | hx
  · exact hv
  · exact h.b x hx⟩
theorem HasK.g0 {ts : List (Nat × PV)} {bs : List (Key × Blk)} {st : St} {n : Nat} {v : PV} (h : HasK ((n, v) :: ts) bs st) : st.tm n = v := h.t (n, v) (by simp)
theorem HasK.tl {ts : List (Nat × PV)} {bs : List (Key × Blk)} {st : St} {x : Nat × PV} (h : HasK (x :: ts) bs st) : HasK ts bs st := ⟨fun y hy => h.t y (by simp [hy]), h.b⟩
theorem HasK.g1 {ts : List (Nat × PV)} {bs : List (Key × Blk)} {st : St} {x : Nat × PV} {n : Nat} {v : PV} (h : HasK (x :: (n, v) :: ts) bs st) : st.tm n = v := h.tl.g0
theorem HasK.sub {ts ts' : List (Nat × PV)} {bs bs' : List (Key × Blk)} {st : St} (h : HasK ts bs st) (h1 : ∀ x ∈ ts', x ∈ ts) (h2 : ∀ x ∈ bs', x ∈ bs) : HasK ts' bs' st := ⟨fun x hx => h.t x (h1 x hx), fun x hx => h.b x (h2 x hx)⟩
theorem HasK.g2 {ts : List (Nat × PV)} {bs : List (Key × Blk)} {st : St} {x y : Nat × PV} {n : Nat} {v : PV} (h : HasK (x :: y :: (n, v) :: ts) bs st) : st.tm n = v := h.tl.tl.g0
theorem HasK.b0 {ts : List (Nat × PV)} {bs : List (Key × Blk)} {st : St} {k : Key} {b : Blk} (h : HasK ts ((k, b) :: bs) st) : st.hp.blk k = some b := h.b (k, b) (by simp)
/-- What temporaries and blocks are. -/
def tmsOf (l : List Nat) (st : St) : List PV := l.map st.tm
def blkOf (l : List Key) (st : St) : List (Option Blk) := l.map st.hp.blk
theorem hasK_of {ns : List Nat} {vs : List PV} {ks : List Key} {bs : List Blk} {st : St} (h1 : tmsOf ns st = vs) (h2 : blkOf ks st = bs.map some) : HasK (ns.zip vs) (ks.zip bs) st := by
  constructor
  · intro x hx
    subst h1
    induction ns with
    | nil => cases hx
    | cons n l ih =>
      simp only [tmsOf, List.map_cons, List.zip_cons_cons, List.mem_cons] at hx
      rcases hx with rfl | hx
      · rfl
      · exact ih hx
  · induction ks generalizing bs with
    | nil => intro x hx; simp at hx
    | cons k l ih =>
      cases bs with
      | nil => intro x hx; simp at hx
      | cons b m =>
        simp only [blkOf, List.map_cons, List.cons.injEq] at h2
        intro x hx
        rcases List.mem_cons.1 hx with rfl | hx
        · exact h2.1
        · exact ih h2.2 x hx

/-- What is asked of a walk at its end: how it ends, temporaries, blocks, what was told. -/
def atEnd (ns : List Nat) (ks : List Key) (ex : Ex) (st : St) (ob : Prop) : Ex × List PV × List (Option Blk) × Prop := (ex, tmsOf ns st, blkOf ks st, ob)
theorem Ev.walk {c : Ctx} {O : Orc} {fl : Nat → Nat → Way} {n : Nat} {code : Code} {st : St} {tr : List Told} (ns : List Nat) (ks : List Key) {ex : Ex} {vs : List PV} {bs : List Blk} {ob : Prop}
    (h : (evXCode c O fl n code st ⟨tr, True⟩).map (fun r => atEnd ns ks r.1 r.2.1 r.2.2.ob) = some (ex, vs, bs.map some, ob)) (ho : ob) : ∃ st', Ev c O code st ex st' ∧ HasK (ns.zip vs) (ks.zip bs) st' := by
  obtain ⟨ex', st', ob', hp, hev⟩ := Ev.of_X (c := c) (O := O) (fl := fl) (n := n) (code := code) (st := st) (tr := tr) (atEnd ns ks) h
  simp only [atEnd, Prod.mk.injEq] at hp
  obtain ⟨rfl, h1, h2, rfl⟩ := hp
  exact ⟨st', hev ho, hasK_of h1 h2⟩
/-- As Ev.walk, from a state of which something is known. -/
theorem Ev.walkH {c : Ctx} {O : Orc} {fl : Nat → Nat → Way} {n : Nat} {code : Code} {ts : List (Nat × PV)} {cs : List (Key × Blk)} {tr : List Told} (ns : List Nat) (ks : List Key) {ex : Ex} {vs : List PV} {bs : List Blk} {ob : Prop} {st : St} (hs : HasK ts cs st)
    (h : ∀ R B C, (evXCode c O fl n code (mkK ts cs R B C) ⟨tr, True⟩).map (fun r => atEnd ns ks r.1 r.2.1 r.2.2.ob) = some (ex, vs, bs.map some, ob)) (ho : ob) : ∃ st', Ev c O code st ex st' ∧ HasK (ns.zip vs) (ks.zip bs) st' := by
  rw [hs.eq]
  exact Ev.walk ns ks (h _ _ _) ho

/-- As mkK, HasK, with the numbers of blocks that have been laid at places. -/
def mkC (ts : List (Nat × PV)) (bs : List (Key × Blk)) (cs : List (Nat × Nat)) (R : Nat → PV) (B : Key → Option Blk) (C : List Nat → Nat → Nat) : St :=
  ⟨fun i => mkK.pickT ts R i, ⟨fun j => mkK.pickB bs B j, fun p d => pickC cs C p d⟩⟩
where
  pickC : List (Nat × Nat) → (List Nat → Nat → Nat) → List Nat → Nat → Nat
  | [], C, p, d => C p d
  | (x, n) :: l, C, p, d => if p = [] ∧ d = x then n else pickC l C p d
structure HasC (ts : List (Nat × PV)) (bs : List (Key × Blk)) (cs : List (Nat × Nat)) (st : St) : Prop where
  k : HasK ts bs st
  c : ∀ x ∈ cs, st.hp.cnt [] x.1 = x.2
theorem pickC_eq {ct : List Nat → Nat → Nat} : ∀ {cs : List (Nat × Nat)}, (∀ x ∈ cs, ct [] x.1 = x.2) → (fun p d => mkC.pickC cs ct p d) = ct
  | [], h => rfl
  | (n, v) :: l, h => by
    have ih := pickC_eq (ct := ct) (cs := l) (fun y hy => h y (by simp [hy]))
    funext p d
    unfold mkC.pickC
    split
    · rename_i e; obtain ⟨rfl, rfl⟩ := e; exact (h (d, v) (by simp)).symm
    · exact congrFun (congrFun ih p) d
theorem HasC.eq {ts : List (Nat × PV)} {bs : List (Key × Blk)} {cs : List (Nat × Nat)} {st : St} (h : HasC ts bs cs st) : st = mkC ts bs cs st.tm st.hp.blk st.hp.cnt := by
  have e := h.k.eq
  unfold mkC
  rw [pickC_eq h.c]
  exact e
def cntOf (l : List Nat) (st : St) : List Nat := l.map (st.hp.cnt [])
theorem hasC_of {ns : List Nat} {vs : List PV} {ks : List Key} {bs : List Blk} {ds : List Nat} {cs : List Nat} {st : St} (h1 : tmsOf ns st = vs) (h2 : blkOf ks st = bs.map some) (h3 : cntOf ds st = cs) : HasC (ns.zip vs) (ks.zip bs) (ds.zip cs) st := by
  refine ⟨hasK_of h1 h2, fun x hx => ?_⟩
  subst h3
  induction ds with
  | nil => cases hx
  | cons n l ih =>
    simp only [cntOf, List.map_cons, List.zip_cons_cons, List.mem_cons] at hx
    rcases hx with rfl | hx
    · rfl
    · exact ih hx
def atEndC (ns : List Nat) (ks : List Key) (ds : List Nat) (ex : Ex) (st : St) (ob : Prop) : Ex × List PV × List (Option Blk) × List Nat × Prop := (ex, tmsOf ns st, blkOf ks st, cntOf ds st, ob)
theorem Ev.walkS {c : Ctx} {O : Orc} {fl : Nat → Nat → Way} {n : Nat} {code : Code} {st : St} {tr : List Told} (ns : List Nat) (ks : List Key) (ds : List Nat) {ex : Ex} {vs : List PV} {bs : List Blk} {cs : List Nat} {ob : Prop}
    (h : (evXCode c O fl n code st ⟨tr, True⟩).map (fun r => atEndC ns ks ds r.1 r.2.1 r.2.2.ob) = some (ex, vs, bs.map some, cs, ob)) (ho : ob) : ∃ st', Ev c O code st ex st' ∧ HasC (ns.zip vs) (ks.zip bs) (ds.zip cs) st' := by
  obtain ⟨ex', st', ob', hp, hev⟩ := Ev.of_X (c := c) (O := O) (fl := fl) (n := n) (code := code) (st := st) (tr := tr) (atEndC ns ks ds) h
  simp only [atEndC, Prod.mk.injEq] at hp
  obtain ⟨rfl, h1, h2, h3, rfl⟩ := hp
  exact ⟨st', hev ho, hasC_of h1 h2 h3⟩
theorem Ev.walkC {c : Ctx} {O : Orc} {fl : Nat → Nat → Way} {n : Nat} {code : Code} {ts : List (Nat × PV)} {cs0 : List (Key × Blk)} {ct : List (Nat × Nat)} {tr : List Told} (ns : List Nat) (ks : List Key) (ds : List Nat) {ex : Ex} {vs : List PV} {bs : List Blk} {cs : List Nat} {ob : Prop} {st : St} (hs : HasC ts cs0 ct st)
    (h : ∀ R B C, (evXCode c O fl n code (mkC ts cs0 ct R B C) ⟨tr, True⟩).map (fun r => atEndC ns ks ds r.1 r.2.1 r.2.2.ob) = some (ex, vs, bs.map some, cs, ob)) (ho : ob) : ∃ st', Ev c O code st ex st' ∧ HasC (ns.zip vs) (ks.zip bs) (ds.zip cs) st' := by
  rw [hs.eq]
  exact Ev.walkS ns ks ds (h _ _ _) ho
/-- A piece of the head of a code that ends early. -/
theorem Ev.out {c : Ctx} {O : Orc} {a b x : Code} {st s : St} {ex : Ex} (h : Ev c O (.seq a b) st ex s) (hne : ex ≠ .normal) : Ev c O (.seq a (.seq b x)) st ex s := by
  obtain ⟨n, hn⟩ := h
  cases n with
  | zero => simp [evCode] at hn
  | succ n =>
    simp only [evCode] at hn
    split at hn
    · rename_i s1 h1
      exact Ev.seq ⟨n, h1⟩ (Ev.seq_stop ⟨n, hn⟩ hne)
    · exact Ev.seq_stop ⟨n, hn⟩ hne
/-- A piece of the head of a code that goes on. -/
theorem Ev.go {c : Ctx} {O : Orc} {a b x : Code} {st s s' : St} {ex : Ex} (h : Ev c O (.seq a b) st .normal s) (g : Ev c O x s ex s') : Ev c O (.seq a (.seq b x)) st ex s' := by
  obtain ⟨n, hn⟩ := h
  cases n with
  | zero => simp [evCode] at hn
  | succ n =>
    simp only [evCode] at hn
    split at hn
    · rename_i s1 h1
      exact Ev.seq ⟨n, h1⟩ (Ev.seq ⟨n, hn⟩ g)
    · rename_i hne
      exact absurd hn (hne _)
theorem Ev.go3 {c : Ctx} {O : Orc} {a b d l x : Code} {st s s2 s' : St} {ex : Ex} (h : Ev c O (.seq a (.seq b d)) st .normal s) (hl : Ev c O l s .normal s2) (g : Ev c O x s2 ex s') : Ev c O (.seq a (.seq b (.seq (.seq d l) x))) st ex s' := by
  obtain ⟨n, hn⟩ := h
  cases n with
  | zero => simp [evCode] at hn
  | succ n =>
    simp only [evCode] at hn
    split at hn
    rotate_left
    · rename_i hne
      exact absurd hn (hne _)
    rename_i s1 h1
    cases n with
    | zero => simp [evCode] at hn
    | succ n =>
      simp only [evCode] at hn
      split at hn
      rotate_left
      · rename_i hne
        exact absurd hn (hne _)
      rename_i s3 h3
      exact Ev.seq ⟨n + 1, h1⟩ (Ev.seq ⟨n, h3⟩ (Ev.seq (Ev.seq ⟨n, hn⟩ hl) g))
theorem Ev.go3r {c : Ctx} {O : Orc} {a b d l x : Code} {st s s' : St} {ex : Ex} (h : Ev c O (.seq a (.seq b d)) st .normal s) (hl : Ev c O l s ex s') (hne : ex ≠ .normal) : Ev c O (.seq a (.seq b (.seq (.seq d l) x))) st ex s' := by
  obtain ⟨n, hn⟩ := h
  cases n with
  | zero => simp [evCode] at hn
  | succ n =>
    simp only [evCode] at hn
    split at hn
    rotate_left
    · rename_i hne
      exact absurd hn (hne _)
    rename_i s1 h1
    cases n with
    | zero => simp [evCode] at hn
    | succ n =>
      simp only [evCode] at hn
      split at hn
      rotate_left
      · rename_i hne
        exact absurd hn (hne _)
      rename_i s3 h3
      exact Ev.seq ⟨n + 1, h1⟩ (Ev.seq ⟨n, h3⟩ (Ev.seq_stop (Ev.seq ⟨n, hn⟩ hl) hne))
theorem Ev.go4 {c : Ctx} {O : Orc} {a b b' d l x : Code} {st s s2 s' : St} {ex : Ex} (h : Ev c O (.seq a (.seq b (.seq b' d))) st .normal s) (hl : Ev c O l s .normal s2) (g : Ev c O x s2 ex s') : Ev c O (.seq a (.seq b (.seq b' (.seq (.seq d l) x)))) st ex s' := by
  obtain ⟨n, hn⟩ := h
  cases n with
  | zero => simp [evCode] at hn
  | succ n =>
    simp only [evCode] at hn
    split at hn
    rotate_left
    · rename_i hne
      exact absurd hn (hne _)
    rename_i s1 h1
    exact Ev.seq ⟨n, h1⟩ (Ev.go3 ⟨n, hn⟩ hl g)
theorem dr_pers {H : Heap} {v : PV} (h : v.pers = true) : dr H 12 v = some (v, []) := by
  unfold dr
  rw [if_pos h]
/-- A function whose code has been walked. -/
theorem Runs.fin {O : Orc} {f : FuncId} {fn : Func} {args : List PV} {st : St} {ex : Ex} {r : PV} (hf : Pr.funcs[f]? = some fn) (hb : fn.body = some (bodyOf fn)) (hp : PV.persL args = true) (hl : args.length ≤ fn.ntmps) (hu : pol.use f = true)
    (h : Ev ⟨Pr, pol, [], f⟩ O (bodyOf fn) (startSt args Heap.empty) ex st) (hex : ex = .normal ∨ ex = .ret) (hr : resultsV ⟨Pr, pol, [], f⟩ st fn.results.toList = some r) (hd : r.pers = true) : Runs Pr pol O f args r :=
  Runs.of_Ev hf hb hp hl hu h hex hr (by rw [dr_pers hd]; rfl)
/-- A function walked at one go. -/
theorem Runs.go {O : Orc} {fl : Nat → Nat → Way} {n : Nat} {f : FuncId} {args : List PV} {tr : List Told} {r : PV} {ob : Prop} (hp : PV.persL args = true)
    (h : (evXBody Pr pol O fl n [] f args Heap.empty ⟨tr, True⟩).map (fun x => (x.1, x.2.2.ob)) = some (r, ob)) (ho : ob) (hd : r.pers = true) : Runs Pr pol O f args r := by
  simp only [Option.map_eq_some_iff, Prod.mk.injEq] at h
  obtain ⟨⟨x, H, t⟩, hb, rfl, rfl⟩ := h
  refine ⟨n, ?_⟩
  unfold evPure
  simp only [hp, if_true, evXBody_ok hb ho, dr_pers hd, Option.map_some]

theorem wrapI {n : Int} (h1 : -9223372036854775808 ≤ n) (h2 : n < 9223372036854775808) : IntKind.i64.wrap n = n := by simp [IntKind.wrap, IntKind.bits, IntKind.signed]; omega
theorem wrapU {n : Int} (h1 : 0 ≤ n) (h2 : n < 18446744073709551616) : IntKind.u64.wrap n = n := by simp [IntKind.wrap, IntKind.bits, IntKind.signed]; omega
theorem wrapW (n : Int) : IntKind.u32.wrap n = n % 4294967296 := by simp [IntKind.wrap, IntKind.bits, IntKind.signed]
theorem cast_add (a b : Nat) : ((a : Int) + (b : Int)) = ((a + b : Nat) : Int) := (Int.natCast_add a b).symm
theorem wrap_k {k : Nat} (h : k < 2 ^ 62) : IntKind.i64.wrap ((k : Int) + 1) = ((k + 1 : Nat) : Int) := by rw [wrapI (by omega) (by omega)]; omega
/-! ### digits -/
abbrev BB : Nat := 4294967296
def dv (l : List Nat) : List PV := l.map fun (d : Nat) => u32 (d : Int)
def Dig (l : List Nat) : Prop := ∀ d ∈ l, d < BB
def val : List Nat → Nat
  | [] => 0
  | d :: l => d + BB * val l
theorem persD : ∀ l : List Nat, PV.persL (dv l) = true
  | [] => rfl
  | d :: l => by simp only [dv, List.map_cons, PV.persL]; rw [show PV.persL (List.map (fun (d : Nat) => u32 (d : Int)) l) = true from persD l]; rfl
theorem szD : ∀ l : List Nat, allSz 1 (dv l) = true
  | [] => rfl
  | d :: l => by simp only [dv, List.map_cons, allSz]; rw [show allSz 1 (List.map (fun (d : Nat) => u32 (d : Int)) l) = true from szD l]; rfl
theorem lenD (l : List Nat) : (dv l).length = l.length := by simp [dv]
theorem getD' (l : List Nat) (k : Nat) : (dv l)[k]? = (l[k]?).map fun (d : Nat) => u32 (d : Int) := by simp [dv]
theorem takeD (l : List Nat) (k : Nat) : (dv l).take k = dv (l.take k) := by simp [dv, List.map_take]
theorem dropD (l : List Nat) (k : Nat) : (dv l).drop k = dv (l.drop k) := by simp [dv, List.map_drop]
theorem setD (l : List Nat) (k d : Nat) : (dv l).set k (u32 (d : Int)) = dv (l.set k d) := by simp [dv, List.map_set]
theorem persS (f : Bool) (l : List Nat) : PV.pers (.sl f (dv l)) = true := by simp only [PV.pers, persD]
theorem dr_row {H : Heap} {K : Key} {l : List Nat} {fz : Bool} (hb : H.blk K = some (.row 1 (dv l) fz)) : dr H 12 (.ms K 1 0 l.length) = some (.sl false (dv l), if l = [] then [] else [K]) := by
  by_cases hn : l = []
  · subst hn
    unfold dr
    rw [if_neg (by simp [PV.pers])]
    simp [dv]
  have hn' : l.length ≠ 0 := by simpa using hn
  have hc : cut (dv l) 0 l.length = some (dv l) := by unfold cut; rw [if_pos (by rw [lenD]; omega), List.drop_zero, ← lenD l, List.take_length]
  have hd : drL H 11 (dv l) = some (dv l, []) := by unfold drL; rw [if_pos (persD l)]
  unfold dr
  rw [if_neg (by simp [PV.pers])]
  simp only [if_neg hn', hb, if_true, hc, hd, szD, if_neg hn]
theorem drL_row {H : Heap} {K : Key} {l : List Nat} {fz : Bool} (hb : H.blk K = some (.row 1 (dv l) fz)) : drL H 12 [.ms K 1 0 l.length] = some ([.sl false (dv l)], if l = [] then [] else [K]) := by
  unfold drL
  rw [if_neg (by simp [PV.persL, PV.pers])]
  have h : dr H 11 (.ms K 1 0 l.length) = some (.sl false (dv l), if l = [] then [] else [K]) := by
    by_cases hn : l = []
    · subst hn
      unfold dr
      rw [if_neg (by simp [PV.pers])]
      simp [dv]
    have hn' : l.length ≠ 0 := by simpa using hn
    have hc : cut (dv l) 0 l.length = some (dv l) := by unfold cut; rw [if_pos (by rw [lenD]; omega), List.drop_zero, ← lenD l, List.take_length]
    have hd : drL H 10 (dv l) = some (dv l, []) := by unfold drL; rw [if_pos (persD l)]
    unfold dr
    rw [if_neg (by simp [PV.pers])]
    simp only [if_neg hn', hb, if_true, hc, hd, szD, if_neg hn]
  have h2 : drL H 11 [] = some ([], []) := rfl
  simp only [h, h2, List.append_nil]

/-- Digits without zeros at the end. -/
def trimR : List Nat → List Nat
  | [] => []
  | d :: l => match trimR l with
    | [] => if d = 0 then [] else [d]
    | m => d :: m
def dg : Nat → Nat → List Nat
  | 0, _ => []
  | k + 1, n => if n = 0 then [] else n % BB :: dg k (n / BB)
/-- The digits of a number. -/
def digs (n : Nat) : List Nat := dg n n
theorem dg_ok : ∀ (k n : Nat), n ≤ k → val (dg k n) = n ∧ Dig (dg k n)
  | 0, n, h => by
    have : n = 0 := by omega
    subst this; exact ⟨rfl, fun d hd => (by cases hd)⟩
  | k + 1, n, h => by
    unfold dg
    split
    · rename_i e; subst e; exact ⟨rfl, fun d hd => (by cases hd)⟩
    · rename_i hn
      have hlt : n / BB ≤ k := by
        have : n / BB < n := Nat.div_lt_self (by omega) (by decide)
        omega
      obtain ⟨h1, h2⟩ := dg_ok k (n / BB) hlt
      refine ⟨?_, ?_⟩
      · simp only [val, h1]; exact Nat.mod_add_div n BB
      · intro d hd
        rcases List.mem_cons.1 hd with rfl | hd
        · exact Nat.mod_lt _ (by decide)
        · exact h2 d hd
theorem val_digs (n : Nat) : val (digs n) = n := (dg_ok n n (Nat.le_refl n)).1
theorem dig_digs (n : Nat) : Dig (digs n) := (dg_ok n n (Nat.le_refl n)).2
theorem dig_tail {d : Nat} {l : List Nat} (h : Dig (d :: l)) : Dig l := fun x hx => h x (List.mem_cons_of_mem _ hx)
theorem dg_fuel : ∀ (k m n : Nat), n ≤ k → n ≤ m → dg k n = dg m n
  | 0, m, n, h1, h2 => by
    have : n = 0 := by omega
    subst this
    cases m <;> simp [dg]
  | k + 1, 0, n, h1, h2 => by
    have : n = 0 := by omega
    subst this
    simp [dg]
  | k + 1, m + 1, n, h1, h2 => by
    unfold dg
    split
    · rfl
    · rename_i hn
      have : n / BB < n := Nat.div_lt_self (by omega) (by decide)
      rw [dg_fuel k m (n / BB) (by omega) (by omega)]
theorem digs_eq {n : Nat} (h : n ≠ 0) : digs n = n % BB :: digs (n / BB) := by
  obtain ⟨k, rfl⟩ : ∃ k, n = k + 1 := ⟨n - 1, by omega⟩
  have : (k + 1) / BB < k + 1 := Nat.div_lt_self (by omega) (by decide)
  show dg (k + 1) (k + 1) = _
  unfold dg
  rw [if_neg h, dg_fuel k ((k + 1) / BB) _ (by omega) (Nat.le_refl _)]
  rfl
theorem digs_zero : digs 0 = [] := rfl
/-- Trimmed digits are the number's. -/
theorem trim_digs : ∀ {l : List Nat}, Dig l → trimR l = digs (val l)
  | [], _ => rfl
  | d :: l, h => by
    have hd : d < BB := h d (by simp)
    have ih := trim_digs (dig_tail h)
    unfold trimR
    split
    · rename_i e
      rw [e] at ih
      have hv : val l = 0 := by
        have := val_digs (val l)
        rw [← ih] at this
        exact this.symm
      split
      · rename_i e0; subst e0; simp only [val, hv, Nat.mul_zero, Nat.add_zero]; rfl
      · rename_i e0
        simp only [val, hv, Nat.mul_zero, Nat.add_zero]
        rw [digs_eq e0, Nat.mod_eq_of_lt hd, Nat.div_eq_of_lt hd]; rfl
    · rename_i m hm
      have hv : val l ≠ 0 := by
        intro e
        rw [e] at ih
        exact hm ih
      have hv' : val (d :: l) ≠ 0 := by
        simp only [val]
        have : 0 < BB * val l := Nat.mul_pos (by decide) (by omega)
        omega
      rw [digs_eq hv', ih]
      simp only [val]
      rw [Nat.add_mul_mod_self_left, Nat.mod_eq_of_lt hd, Nat.add_mul_div_left _ _ (by decide : 0 < BB), Nat.div_eq_of_lt hd, Nat.zero_add]
theorem trimR_nil {l : List Nat} (h : l ≠ []) (h0 : trimR l = []) : l.getLast h = 0 := by
  induction l with
  | nil => exact absurd rfl h
  | cons d l ih =>
    unfold trimR at h0
    split at h0
    · rename_i e
      cases l with
      | nil =>
        split at h0
        · rename_i e0; simp [e0]
        · cases h0
      | cons x m => rw [List.getLast_cons (by simp)]; exact ih (by simp) e
    · cases h0
/-- A zero at the end goes. -/
theorem trimR_snoc (l : List Nat) (d : Nat) : trimR (l ++ [d]) = if d = 0 then trimR l else l ++ [d] := by
  induction l with
  | nil => simp [trimR]
  | cons x l ih =>
    simp only [List.cons_append]
    unfold trimR
    rw [ih]
    split
    · rename_i e
      split at e
      · simp only [e]
        rename_i e0
        simp [e0]
      · simp at e
    · rename_i m hm
      split
      · rename_i e0; simp [e0] at hm ⊢
        split
        · rename_i e; exact absurd e hm
        · rfl
      · rfl
theorem val_lt {l : List Nat} (h : Dig l) : val l < BB ^ l.length := by
  induction l with
  | nil => simp [val]
  | cons d l ih =>
    have h1 : d < BB := h d (by simp)
    have h2 := ih (dig_tail h)
    have h3 : BB * (val l + 1) ≤ BB * BB ^ l.length := Nat.mul_le_mul_left _ h2
    simp only [val, List.length_cons]
    rw [Nat.pow_succ, Nat.mul_comm (BB ^ l.length) BB]
    rw [Nat.mul_add, Nat.mul_one] at h3
    omega
theorem val_append (a b : List Nat) : val (a ++ b) = val a + BB ^ a.length * val b := by
  induction a with
  | nil => simp [val]
  | cons d l ih =>
    simp only [List.cons_append, val, ih, List.length_cons]
    rw [Nat.pow_succ, Nat.mul_add, ← Nat.mul_assoc, Nat.mul_comm (BB ^ l.length) BB, Nat.add_assoc]
theorem dig_append {a b : List Nat} : Dig (a ++ b) ↔ Dig a ∧ Dig b := by
  constructor
  · intro h; exact ⟨fun d hd => h d (by simp [hd]), fun d hd => h d (by simp [hd])⟩
  · rintro ⟨h1, h2⟩ d hd
    rcases List.mem_append.1 hd with h | h
    · exact h1 d h
    · exact h2 d h
theorem dig_take {l : List Nat} (h : Dig l) (k : Nat) : Dig (l.take k) := fun d hd => h d (List.mem_of_mem_take hd)
theorem dig_drop {l : List Nat} (h : Dig l) (k : Nat) : Dig (l.drop k) := fun d hd => h d (List.mem_of_mem_drop hd)
/-- More digits, more. -/
theorem digs_ge {n : Nat} (h : n ≠ 0) : BB ^ ((digs n).length - 1) ≤ n := by
  induction n using Nat.strongRecOn with
  | _ n ih =>
    rw [digs_eq h]
    simp only [List.length_cons, Nat.add_sub_cancel]
    by_cases h0 : n / BB = 0
    · rw [h0]; simp [digs_zero]; omega
    · have hlt : n / BB < n := Nat.div_lt_self (by omega) (by decide)
      have h1 := ih (n / BB) hlt h0
      have h2 : (digs (n / BB)).length ≠ 0 := fun e => h0 (digs_len_zero' e)
      obtain ⟨k, hk⟩ : ∃ k, (digs (n / BB)).length = k + 1 := ⟨_, (Nat.succ_pred_eq_of_ne_zero h2).symm⟩
      rw [hk] at h1 ⊢
      rw [Nat.add_sub_cancel] at h1
      rw [Nat.pow_succ]
      calc BB ^ k * BB ≤ n / BB * BB := Nat.mul_le_mul_right _ h1
        _ ≤ n := Nat.div_mul_le_self n BB
where
  digs_len_zero' {n : Nat} (h : (digs n).length = 0) : n = 0 := by
    have : digs n = [] := List.eq_nil_of_length_eq_zero h
    have h2 := val_digs n
    rw [this] at h2
    exact h2.symm
theorem digs_len_lt {a b : Nat} (h : (digs a).length < (digs b).length) : a < b := by
  have hb : b ≠ 0 := by rintro rfl; simp [digs_zero] at h
  have h1 := digs_ge hb
  have h2 := val_lt (dig_digs a)
  rw [val_digs] at h2
  have h3 : BB ^ (digs a).length ≤ BB ^ ((digs b).length - 1) := Nat.pow_le_pow_right (by decide) (by omega)
  omega
theorem digs_len_le {n k : Nat} (h : n < BB ^ k) : (digs n).length ≤ k := by
  by_cases h0 : n = 0
  · subst h0; simp [digs_zero]
  · have h1 := digs_ge h0
    have h2 : BB ^ ((digs n).length - 1) < BB ^ k := by omega
    have := (Nat.pow_lt_pow_iff_right (by decide : 1 < BB)).1 h2
    omega
/-- So many digits of a number. -/
def pad : Nat → Nat → List Nat
  | 0, _ => []
  | k + 1, v => v % BB :: pad k (v / BB)
theorem pad_len : ∀ (k v : Nat), (pad k v).length = k
  | 0, _ => rfl
  | k + 1, v => by simp only [pad, List.length_cons, pad_len]
theorem pad_dig : ∀ (k v : Nat), Dig (pad k v)
  | 0, _ => fun d hd => (by cases hd)
  | k + 1, v => fun d hd => by
    rcases List.mem_cons.1 hd with rfl | hd
    · exact Nat.mod_lt _ (by decide)
    · exact pad_dig k _ d hd
theorem pad_eq : ∀ {l : List Nat}, Dig l → l = pad l.length (val l)
  | [], _ => rfl
  | d :: l, h => by
    have hd : d < BB := h d (by simp)
    have e1 : (d + BB * val l) % BB = d := by rw [Nat.add_mul_mod_self_left, Nat.mod_eq_of_lt hd]
    have e2 : (d + BB * val l) / BB = val l := by rw [Nat.add_mul_div_left _ _ (by decide : 0 < BB), Nat.div_eq_of_lt hd, Nat.zero_add]
    simp only [List.length_cons, pad, val, e1, e2]
    rw [← pad_eq (dig_tail h)]
theorem pad_val {k v : Nat} (h : v < BB ^ k) : val (pad k v) = v := by
  induction k generalizing v with
  | zero => simp at h; subst h; rfl
  | succ k ih =>
    simp only [pad, val]
    rw [ih (by rw [Nat.pow_succ] at h; exact (Nat.div_lt_iff_lt_mul (by decide)).2 h)]
    exact Nat.mod_add_div v BB
theorem digs_one {n : Nat} (h0 : n ≠ 0) (h : n < BB) : digs n = [n] := by
  rw [digs_eq h0, Nat.mod_eq_of_lt h, Nat.div_eq_of_lt h]; rfl
theorem digs_len_zero {n : Nat} : (digs n).length = 0 ↔ n = 0 := by
  constructor
  · intro h
    have : digs n = [] := List.eq_nil_of_length_eq_zero h
    have h2 := val_digs n
    rw [this] at h2
    exact h2.symm
  · rintro rfl; rfl
end Go.Proofs.YtigfgicjjhepoaaGreatDoor.VA.Z
set_option linter.unusedVariables false
set_option linter.unusedSimpArgs false
namespace Go.Proofs.YtigfgicjjhepoaaGreatDoor.VA.Z
open Go Go.Proofs

/-! ### trim -/
noncomputable def tB : Code := bodyOf Tryz.f83
noncomputable def tL : Code := inner (inner (seqL (seqR tB)))
noncomputable def tC : Ctx := ⟨Pr, pol, [], 83⟩
theorem tB_eq : tB = .seq (seqL tB) (.seq (.block 0 (.loop tL)) (seqR (seqR tB))) := by kernel_rfl
theorem t_nil {f : Bool} {O : Orc} {st : St} (hs : HasK [(0, .sl f (dv []))] [] st) (ho : True) : ∃ st', Ev (tC) O (tL) st (Ex.exit 0) st' ∧ HasK [(0, PV.sl f [])] [] st' :=
  Ev.walkH (fl := flg []) (n := 50) (tr := []) [0] [] (ex := Ex.exit 0) (vs := [PV.sl f []]) (bs := []) hs (fun R B C => by kernel_rfl) ho
theorem t_stop {f : Bool} {l : List Nat} {d : Nat} {O : Orc} {st : St} (hs : HasK [(0, .sl f (dv (l ++ [d])))] [] st) (ho : decide ((↑d : Int) = (0 : Int)) = false ∧ ((0 : Int) ≤ IntKind.i64.wrap ((↑(dv (l ++ [d])).length : Int) - (1 : Int)) ∧ (dv (l ++ [d]))[(IntKind.i64.wrap ((↑(dv (l ++ [d])).length : Int) - (1 : Int))).toNat]? = some (PV.int IntKind.u32 (↑d : Int))) ∧ decide ((0 : Int) < (↑(dv (l ++ [d])).length : Int)) = true ∧ True) : ∃ st', Ev (tC) O (tL) st (Ex.exit 0) st' ∧ HasK [(0, PV.sl f (dv (l ++ [d])))] [] st' :=
  Ev.walkH (fl := flg [(1,2,.bit),(1,8,.elem),(1,10,.bit),(2,4,.cut)]) (n := 50) (tr := [.bit true, .val (u32 (d:Int)), .bit false]) [0] [] (ex := Ex.exit 0) (vs := [PV.sl f (dv (l ++ [d]))]) (bs := []) hs (fun R B C => by kernel_rfl) ho
theorem t_go {f : Bool} {l : List Nat} {d : Nat} {O : Orc} {st : St} (hs : HasK [(0, .sl f (dv (l ++ [d])))] [] st) (ho : (allSz 1 (dv (l ++ [d])) = true ∧ ((0 : Int) ≤ (0 : Int) ∧ (0 : Int) ≤ IntKind.i64.wrap ((↑(dv (l ++ [d])).length : Int) - (1 : Int)) ∧ IntKind.i64.wrap ((↑(dv (l ++ [d])).length : Int) - (1 : Int)) ≤ (↑(dv (l ++ [d])).length : Int)) ∧ PV.sl (f && decide (IntKind.i64.wrap ((↑(dv (l ++ [d])).length : Int) - (1 : Int)) = (↑(dv (l ++ [d])).length : Int))) (List.take ((IntKind.i64.wrap ((↑(dv (l ++ [d])).length : Int) - (1 : Int))).toNat - 0) (List.drop 0 (dv (l ++ [d])))) = PV.sl false (dv l)) ∧ decide ((↑d : Int) = (0 : Int)) = true ∧ ((0 : Int) ≤ IntKind.i64.wrap ((↑(dv (l ++ [d])).length : Int) - (1 : Int)) ∧ (dv (l ++ [d]))[(IntKind.i64.wrap ((↑(dv (l ++ [d])).length : Int) - (1 : Int))).toNat]? = some (PV.int IntKind.u32 (↑d : Int))) ∧ decide ((0 : Int) < (↑(dv (l ++ [d])).length : Int)) = true ∧ True) : ∃ st', Ev (tC) O (tL) st (Ex.normal) st' ∧ HasK [(0, PV.sl false (dv l))] [] st' :=
  Ev.walkH (fl := flg [(1,2,.bit),(1,8,.elem),(1,10,.bit),(2,4,.cut)]) (n := 50) (tr := [.bit true, .val (u32 (d:Int)), .bit true, .val (.sl false (dv l))]) [0] [] (ex := Ex.normal) (vs := [PV.sl false (dv l)]) (bs := []) hs (fun R B C => by kernel_rfl) ho
theorem t_in {f : Bool} {l : List Nat} {O : Orc} (ho : True) : ∃ st', Ev (tC) O (seqL tB) (startSt [.sl f (dv l)] Heap.empty) (Ex.normal) st' ∧ HasK [(0, PV.sl f (dv l))] [] st' :=
  Ev.walk (fl := flg []) (n := 50) (tr := []) [0] [] (ex := Ex.normal) (vs := [PV.sl f (dv l)]) (bs := []) (by kernel_rfl) ho
theorem t_out {f : Bool} {l : List Nat} {O : Orc} {st : St} (hs : HasK [(0, .sl f (dv l))] [] st) (ho : True) : ∃ st', Ev (tC) O (seqR (seqR tB)) st (Ex.ret) st' ∧ HasK [(2, PV.sl f (dv l))] [] st' :=
  Ev.walkH (fl := flg []) (n := 50) (tr := []) [2] [] (ex := Ex.ret) (vs := [PV.sl f (dv l)]) (bs := []) hs (fun R B C => by kernel_rfl) ho
/-- Whether the room is still known to be full. -/
def trimF (f : Bool) (l : List Nat) : Bool := f && decide (trimR l = l)
theorem trimR_len : ∀ l : List Nat, (trimR l).length ≤ l.length
  | [] => Nat.le_refl _
  | d :: l => by
    unfold trimR
    have := trimR_len l
    split
    · split <;> simp
    · rename_i m hm
      simp only [List.length_cons]; omega
theorem t_loop {O : Orc} : ∀ (n : Nat) (f : Bool) (l : List Nat), l.length = n → l.length < 2 ^ 62 → ∀ {st : St}, HasK [(0, .sl f (dv l))] [] st → ∃ st', Ev tC O (.loop tL) st (.exit 0) st' ∧ HasK [(0, .sl (trimF f l) (dv (trimR l)))] [] st'
  | 0, f, l, hn, hl, st, hs => by
    obtain rfl : l = [] := List.eq_nil_of_length_eq_zero hn
    obtain ⟨st', e, h⟩ := t_nil (O := O) hs trivial
    have : trimF f [] = f := by simp [trimF, trimR]
    exact ⟨st', e.loop_stop (by intro q; cases q), by rw [this]; exact h⟩
  | n + 1, f, l, hn, hl, st, hs => by
    obtain ⟨p, d, rfl⟩ : ∃ p d, l = p ++ [d] := ⟨l.dropLast, l.getLast (by intro q; simp [q] at hn), (List.dropLast_concat_getLast _).symm⟩
    have hp : p.length = n := by simpa using hn
    have e1 : IntKind.i64.wrap (((dv (p ++ [d])).length : Int) - 1) = (p.length : Int) := by
      rw [lenD, wrap_i64 (by simp) (by simp at hl ⊢; omega)]; simp
    have e2 : (dv (p ++ [d]))[p.length]? = some (u32 (d : Int)) := by rw [getD']; simp
    by_cases hd : d = 0
    · subst hd
      obtain ⟨st1, e, h1⟩ := t_go (O := O) hs ⟨⟨szD _, ⟨by omega, by rw [e1]; omega, by rw [e1, lenD]; simp; omega⟩, by
        rw [e1]
        have : decide ((p.length : Int) = ((dv (p ++ [0])).length : Int)) = false := by rw [lenD]; simp; omega
        rw [this, Bool.and_false, Int.toNat_natCast, List.drop_zero, Nat.sub_zero, takeD]; simp⟩, by simp, ⟨by rw [e1]; omega, by rw [e1, Int.toNat_natCast]; exact e2⟩, by rw [lenD]; simp, trivial⟩
      obtain ⟨st', e', h'⟩ := t_loop n false p hp (by simp at hl; omega) h1
      refine ⟨st', e.loop e', ?_⟩
      have : trimF f (p ++ [0]) = trimF false p := by
        have hne : trimR p ≠ p ++ [0] := by
          intro q
          have := trimR_len p
          rw [q] at this; simp at this
          omega
        simp [trimF, trimR_snoc, hne]
      rw [this, trimR_snoc, if_pos rfl]
      exact h'
    · obtain ⟨st', e, h'⟩ := t_stop (O := O) hs ⟨by simp; omega, ⟨by rw [e1]; omega, by rw [e1, Int.toNat_natCast]; exact e2⟩, by rw [lenD]; simp, trivial⟩
      refine ⟨st', e.loop_stop (by intro q; cases q), ?_⟩
      have h3 : trimR (p ++ [d]) = p ++ [d] := by rw [trimR_snoc, if_neg hd]
      have : trimF f (p ++ [d]) = f := by simp [trimF, h3]
      rw [this, h3]
      exact h'
theorem trim_run {f : Bool} {l : List Nat} (hl : l.length < 2 ^ 62) (O : Orc) : Runs Pr pol O 83 [.sl f (dv l)] (.sl (trimF f l) (dv (trimR l))) := by
  obtain ⟨st1, e1, h1⟩ := t_in (O := O) (f := f) (l := l) trivial
  obtain ⟨st2, e2, h2⟩ := t_loop (O := O) _ f l rfl hl h1
  obtain ⟨st3, e3, h3⟩ := t_out (O := O) h2 trivial
  refine Runs.fin (st := st3) Tryz.func83 (by kernel_rfl) (by simp only [PV.persL, persS, Bool.and_self]) (by rw [Tryz.ntmps83]; exact Nat.le_of_ble_eq_true rfl) rfl (Ev.as tB_eq (e1.seq (e2.block.seq e3))) (.inr rfl) ?_ (persS _ _)
  show some (st3.tm 2) = _
  rw [h3.t (2, _) (List.mem_cons_self ..)]
theorem known_trim {f : Bool} {l : List Nat} (hl : l.length < 2 ^ 62) : Known 83 [.sl f (dv l)] (.sl (trimF f l) (dv (trimR l))) :=
  Known.of (Q := fun _ => True) Deep.triv rfl (fun O _ => trim_run hl O)
end Go.Proofs.YtigfgicjjhepoaaGreatDoor.VA.Z
set_option linter.unusedVariables false
set_option linter.unusedSimpArgs false
namespace Go.Proofs.YtigfgicjjhepoaaGreatDoor.VA.Z
open Go Go.Proofs

/-- A whole number. -/
def iv (f : Bool) (z : Int) : PV := .agg [.bool (decide (z < 0)), .sl f (dv (digs z.natAbs))]
theorem persI (f : Bool) (z : Int) : PV.pers (iv f z) = true := by
  show PV.persL [PV.bool _, .sl f (dv (digs z.natAbs))] = true
  simp only [PV.persL, PV.pers, persD, Bool.and_self]

/-! ### signed -/
theorem signed_t {f g : Bool} {l q : List Nat} {c : Bool} {O : Orc} (hp : PV.persL [.bool true, .sl f (dv l)] = true) (hd : PV.pers (PV.agg [PV.bool c, PV.sl g (dv q)]) = true) (ho : decide ((0 : Int) < (↑(dv q).length : Int)) = c ∧ PV.persL [PV.sl f (dv l)] = true ∧ O.pure 83 [PV.sl f (dv l)] = some (PV.sl g (dv q)) ∧ True) : Runs Pr pol O (57) [.bool true, .sl f (dv l)] (PV.agg [PV.bool c, PV.sl g (dv q)]) :=
  Runs.go (fl := flg [(1,1,.pers),(2,4,.bit)]) (n := 50) (tr := [.val (.sl g (dv q)), .bit c]) hp (by kernel_rfl) ho hd
theorem signed_f {f g : Bool} {l q : List Nat} {O : Orc} (hp : PV.persL [.bool false, .sl f (dv l)] = true) (hd : PV.pers (PV.agg [PV.bool false, PV.sl g (dv q)]) = true) (ho : PV.persL [PV.sl f (dv l)] = true ∧ O.pure 83 [PV.sl f (dv l)] = some (PV.sl g (dv q)) ∧ True) : Runs Pr pol O (57) [.bool false, .sl f (dv l)] (PV.agg [PV.bool false, PV.sl g (dv q)]) :=
  Runs.go (fl := flg [(1,1,.pers)]) (n := 50) (tr := [.val (.sl g (dv q))]) hp (by kernel_rfl) ho hd

theorem known_signed {b f : Bool} {l : List Nat} (hd : Dig l) (hl : l.length < 2 ^ 62) : Known 57 [.bool b, .sl f (dv l)] (iv (trimF f l) (if b = true then -(val l : Int) else val l)) := by
  have hk := known_trim (f := f) hl
  rw [trim_digs hd] at hk
  refine Known.of hk.deep rfl (fun O hO => ?_)
  have hp : ∀ (g : Bool) (q : List Nat) (c : Bool), PV.pers (.agg [.bool c, .sl g (dv q)]) = true := fun g q c => by
    show PV.persL [PV.bool c, .sl g (dv q)] = true
    simp only [PV.persL, PV.pers, persD, Bool.and_self]
  have hq : PV.persL [PV.sl f (dv l)] = true := by simp only [PV.persL, persS, Bool.and_self]
  cases b with
  | true =>
    have hc : decide ((0 : Int) < ((dv (digs (val l))).length : Int)) = decide (val l ≠ 0) := by
      rw [lenD]
      by_cases h : val l = 0
      · rw [h]; rfl
      · have : (digs (val l)).length ≠ 0 := fun e => h (digs_len_zero.1 e)
        rw [decide_eq_true (show (0 : Int) < ((digs (val l)).length : Int) by omega), decide_eq_true h]
    have e : iv (trimF f l) (-(val l : Int)) = .agg [.bool (decide (val l ≠ 0)), .sl (trimF f l) (dv (digs (val l)))] := by
      unfold iv
      rw [show (-(val l : Int)).natAbs = val l by omega]
      congr 3
      by_cases h : val l = 0
      · rw [h]; rfl
      · rw [decide_eq_true h, decide_eq_true (show -(val l : Int) < 0 by omega)]
    rw [if_pos rfl, e]
    exact signed_t (by simp only [PV.persL, PV.pers, persD, Bool.and_self]) (hp _ _ _) ⟨hc, hq, hO, trivial⟩
  | false =>
    have e : iv (trimF f l) (val l : Int) = .agg [.bool false, .sl (trimF f l) (dv (digs (val l)))] := by
      unfold iv
      rw [Int.natAbs_natCast, decide_eq_false (by omega)]
    rw [if_neg (by simp), e]
    exact signed_f (by simp only [PV.persL, PV.pers, persD, Bool.and_self]) (hp _ _ _) ⟨hq, hO, trivial⟩

/-! ### order -/
noncomputable def oB : Code := bodyOf Tryz.f82
noncomputable def oL : Code := inner (inner (seqR (seqL (seqR (seqR oB)))))
noncomputable def oC : Ctx := ⟨Pr, pol, [], 82⟩
theorem oB_eq : oB = .seq (seqL oB) (.seq (seqL (seqR oB)) (.seq (.seq (seqL (seqL (seqR (seqR oB)))) (.block 0 (.loop oL))) (seqR (seqR (seqR oB))))) := by kernel_rfl
theorem o_lt {f g : Bool} {a b : List Nat} {O : Orc} (ho : decide ((↑(dv a).length : Int) < (↑(dv b).length : Int)) = true ∧ (!decide ((↑(dv a).length : Int) = (↑(dv b).length : Int))) = true ∧ True) : ∃ st', Ev (oC) O (.seq (seqL oB) (seqL (seqR oB))) (startSt [.sl f (dv a), .sl g (dv b)] Heap.empty) (Ex.ret) st' ∧ HasK [(4, PV.int IntKind.i64 (-1 : Int))] [] st' :=
  Ev.walk (fl := flg [(1,4,.bit),(2,4,.bit)]) (n := 50) (tr := [.bit true, .bit true]) [4] [] (ex := Ex.ret) (vs := [PV.int IntKind.i64 (-1 : Int)]) (bs := []) (by kernel_rfl) ho
theorem o_gt {f g : Bool} {a b : List Nat} {O : Orc} (ho : decide ((↑(dv a).length : Int) < (↑(dv b).length : Int)) = false ∧ (!decide ((↑(dv a).length : Int) = (↑(dv b).length : Int))) = true ∧ True) : ∃ st', Ev (oC) O (.seq (seqL oB) (seqL (seqR oB))) (startSt [.sl f (dv a), .sl g (dv b)] Heap.empty) (Ex.ret) st' ∧ HasK [(4, PV.int IntKind.i64 (1 : Int))] [] st' :=
  Ev.walk (fl := flg [(1,4,.bit),(2,4,.bit)]) (n := 50) (tr := [.bit true, .bit false]) [4] [] (ex := Ex.ret) (vs := [PV.int IntKind.i64 (1 : Int)]) (bs := []) (by kernel_rfl) ho
theorem o_in {f g : Bool} {a b : List Nat} {O : Orc} (ho : (!decide ((↑(dv a).length : Int) = (↑(dv b).length : Int))) = false ∧ True) : ∃ st', Ev (oC) O (.seq (seqL oB) (.seq (seqL (seqR oB)) (seqL (seqL (seqR (seqR oB)))))) (startSt [.sl f (dv a), .sl g (dv b)] Heap.empty) (Ex.normal) st' ∧ HasK [(0, PV.sl f (dv a)), (1, PV.sl g (dv b)), (5, PV.int IntKind.i64 (IntKind.i64.wrap ((↑(dv a).length : Int) - (1 : Int))))] [] st' :=
  Ev.walk (fl := flg [(1,4,.bit)]) (n := 50) (tr := [.bit false]) [0, 1, 5] [] (ex := Ex.normal) (vs := [PV.sl f (dv a), PV.sl g (dv b), PV.int IntKind.i64 (IntKind.i64.wrap ((↑(dv a).length : Int) - (1 : Int)))]) (bs := []) (by kernel_rfl) ho
theorem o_end {f g : Bool} {a b : List Nat} {O : Orc} {st : St} (hs : HasK [(0, .sl f (dv a)), (1, .sl g (dv b)), (5, .int .i64 (-1))] [] st) (ho : True) : ∃ st', Ev (oC) O (oL) st (Ex.exit 0) st' ∧ HasK [(0, PV.sl f (dv a)), (1, PV.sl g (dv b))] [] st' :=
  Ev.walkH (fl := flg []) (n := 50) (tr := []) [0, 1] [] (ex := Ex.exit 0) (vs := [PV.sl f (dv a), PV.sl g (dv b)]) (bs := []) hs (fun R B C => by kernel_rfl) ho
theorem o_eq {f g : Bool} {a b : List Nat} {k x y : Nat} {O : Orc} {st : St} (hs : HasK [(0, .sl f (dv a)), (1, .sl g (dv b)), (5, .int .i64 (k : Int))] [] st) (ho : (!decide ((↑x : Int) = (↑y : Int))) = false ∧ ((0 : Int) ≤ (↑k : Int) ∧ (dv b)[(↑k : Int).toNat]? = some (PV.int IntKind.u32 (↑y : Int))) ∧ ((0 : Int) ≤ (↑k : Int) ∧ (dv a)[(↑k : Int).toNat]? = some (PV.int IntKind.u32 (↑x : Int))) ∧ decide ((0 : Int) ≤ (↑k : Int)) = true ∧ True) : ∃ st', Ev (oC) O (oL) st (Ex.normal) st' ∧ HasK [(0, PV.sl f (dv a)), (1, PV.sl g (dv b)), (5, PV.int IntKind.i64 (IntKind.i64.wrap ((↑k : Int) - (1 : Int))))] [] st' :=
  Ev.walkH (fl := flg [(6,1,.bit),(8,2,.elem),(8,6,.elem),(8,8,.bit)]) (n := 50) (tr := [.bit true, .val (u32 (x : Int)), .val (u32 (y : Int)), .bit false]) [0, 1, 5] [] (ex := Ex.normal) (vs := [PV.sl f (dv a), PV.sl g (dv b), PV.int IntKind.i64 (IntKind.i64.wrap ((↑k : Int) - (1 : Int)))]) (bs := []) hs (fun R B C => by kernel_rfl) ho
theorem o_ne {f g : Bool} {a b : List Nat} {k x y : Nat} {O : Orc} {st : St} (hs : HasK [(0, .sl f (dv a)), (1, .sl g (dv b)), (5, .int .i64 (k : Int))] [] st) (ho : decide ((↑x : Int) < (↑y : Int)) = true ∧ ((0 : Int) ≤ (↑k : Int) ∧ (dv b)[(↑k : Int).toNat]? = some (PV.int IntKind.u32 (↑y : Int))) ∧ ((0 : Int) ≤ (↑k : Int) ∧ (dv a)[(↑k : Int).toNat]? = some (PV.int IntKind.u32 (↑x : Int))) ∧ (!decide ((↑x : Int) = (↑y : Int))) = true ∧ ((0 : Int) ≤ (↑k : Int) ∧ (dv b)[(↑k : Int).toNat]? = some (PV.int IntKind.u32 (↑y : Int))) ∧ ((0 : Int) ≤ (↑k : Int) ∧ (dv a)[(↑k : Int).toNat]? = some (PV.int IntKind.u32 (↑x : Int))) ∧ decide ((0 : Int) ≤ (↑k : Int)) = true ∧ True) : ∃ st', Ev (oC) O (oL) st (Ex.ret) st' ∧ HasK [(4, PV.int IntKind.i64 (-1 : Int))] [] st' :=
  Ev.walkH (fl := flg [(6,1,.bit),(8,2,.elem),(8,6,.elem),(8,8,.bit),(9,2,.elem),(9,6,.elem),(9,8,.bit)]) (n := 50) (tr := [.bit true, .val (u32 (x : Int)), .val (u32 (y : Int)), .bit true, .val (u32 (x : Int)), .val (u32 (y : Int)), .bit true]) [4] [] (ex := Ex.ret) (vs := [PV.int IntKind.i64 (-1 : Int)]) (bs := []) hs (fun R B C => by kernel_rfl) ho
theorem o_mt {f g : Bool} {a b : List Nat} {k x y : Nat} {O : Orc} {st : St} (hs : HasK [(0, .sl f (dv a)), (1, .sl g (dv b)), (5, .int .i64 (k : Int))] [] st) (ho : decide ((↑x : Int) < (↑y : Int)) = false ∧ ((0 : Int) ≤ (↑k : Int) ∧ (dv b)[(↑k : Int).toNat]? = some (PV.int IntKind.u32 (↑y : Int))) ∧ ((0 : Int) ≤ (↑k : Int) ∧ (dv a)[(↑k : Int).toNat]? = some (PV.int IntKind.u32 (↑x : Int))) ∧ (!decide ((↑x : Int) = (↑y : Int))) = true ∧ ((0 : Int) ≤ (↑k : Int) ∧ (dv b)[(↑k : Int).toNat]? = some (PV.int IntKind.u32 (↑y : Int))) ∧ ((0 : Int) ≤ (↑k : Int) ∧ (dv a)[(↑k : Int).toNat]? = some (PV.int IntKind.u32 (↑x : Int))) ∧ decide ((0 : Int) ≤ (↑k : Int)) = true ∧ True) : ∃ st', Ev (oC) O (oL) st (Ex.ret) st' ∧ HasK [(4, PV.int IntKind.i64 (1 : Int))] [] st' :=
  Ev.walkH (fl := flg [(6,1,.bit),(8,2,.elem),(8,6,.elem),(8,8,.bit),(9,2,.elem),(9,6,.elem),(9,8,.bit)]) (n := 50) (tr := [.bit true, .val (u32 (x : Int)), .val (u32 (y : Int)), .bit true, .val (u32 (x : Int)), .val (u32 (y : Int)), .bit false]) [4] [] (ex := Ex.ret) (vs := [PV.int IntKind.i64 (1 : Int)]) (bs := []) hs (fun R B C => by kernel_rfl) ho
theorem o_out {f g : Bool} {a b : List Nat} {O : Orc} {st : St} (hs : HasK [(0, .sl f (dv a)), (1, .sl g (dv b))] [] st) (ho : True) : ∃ st', Ev (oC) O (seqR (seqR (seqR oB))) st (Ex.ret) st' ∧ HasK [(4, PV.int IntKind.i64 (0 : Int))] [] st' :=
  Ev.walkH (fl := flg []) (n := 50) (tr := []) [4] [] (ex := Ex.ret) (vs := [PV.int IntKind.i64 (0 : Int)]) (bs := []) hs (fun R B C => by kernel_rfl) ho
/-- The order of two numbers. -/
def cmpN (m n : Nat) : Int := if m < n then -1 else if m = n then 0 else 1
theorem val_split {l : List Nat} {k x : Nat} (h : l[k]? = some x) : val l = val (l.take k) + BB ^ k * (x + BB * val (l.drop (k + 1))) := by
  obtain ⟨hk, e⟩ := List.getElem?_eq_some_iff.1 h
  have h1 : l.take k ++ x :: l.drop (k + 1) = l := by
    rw [← e, List.getElem_cons_drop]; exact List.take_append_drop k l
  have h2 := val_append (l.take k) (x :: l.drop (k + 1))
  rw [h1, List.length_take, Nat.min_eq_left (by omega)] at h2
  exact h2
theorem val_top {a b : List Nat} {k x y : Nat} (ha : Dig a) (hx : a[k]? = some x) (hy : b[k]? = some y) (hd : a.drop (k + 1) = b.drop (k + 1)) (h : x < y) : val a < val b := by
  have hk : k < a.length := (List.getElem?_eq_some_iff.1 hx).1
  rw [val_split hx, val_split hy, hd]
  have h1 : val (a.take k) < BB ^ k := by
    have := val_lt (dig_take ha k)
    rwa [List.length_take, Nat.min_eq_left (by omega)] at this
  have h2 : BB ^ k * (x + BB * val (b.drop (k + 1)) + 1) ≤ BB ^ k * (y + BB * val (b.drop (k + 1))) := Nat.mul_le_mul_left _ (by omega)
  rw [Nat.mul_add _ _ 1, Nat.mul_one] at h2
  omega

theorem o_loop {O : Orc} {f g : Bool} {a b : List Nat} (ha : Dig a) (hb : Dig b) (hlen : a.length = b.length) (hl : a.length < 2 ^ 62) : ∀ (k : Nat), k ≤ a.length → a.drop k = b.drop k → ∀ {st : St}, HasK [(0, .sl f (dv a)), (1, .sl g (dv b)), (5, .int .i64 ((k : Int) - 1))] [] st →
    (val a = val b ∧ ∃ st', Ev oC O (.loop oL) st (.exit 0) st' ∧ HasK [(0, .sl f (dv a)), (1, .sl g (dv b))] [] st') ∨ (val a ≠ val b ∧ ∃ st', Ev oC O (.loop oL) st .ret st' ∧ HasK [(4, .int .i64 (cmpN (val a) (val b)))] [] st')
  | 0, hk, hd, st, hs => by
    obtain ⟨st', e, h⟩ := o_end (O := O) hs trivial
    rw [List.drop_zero, List.drop_zero] at hd
    exact .inl ⟨by rw [hd], st', e.loop_stop (by intro q; cases q), h⟩
  | k + 1, hk, hd, st, hs => by
    have hka : k < a.length := by omega
    have hkb : k < b.length := by omega
    have hx : a[k]? = some a[k] := List.getElem?_eq_getElem hka
    have hy : b[k]? = some b[k] := List.getElem?_eq_getElem hkb
    have gx : (0 : Int) ≤ (k : Int) ∧ (dv a)[((k : Nat) : Int).toNat]? = some (u32 ((a[k] : Nat) : Int)) := ⟨by omega, by rw [Int.toNat_natCast, getD', hx]; rfl⟩
    have gy : (0 : Int) ≤ (k : Int) ∧ (dv b)[((k : Nat) : Int).toNat]? = some (u32 ((b[k] : Nat) : Int)) := ⟨by omega, by rw [Int.toNat_natCast, getD', hy]; rfl⟩
    have e0 : (((k + 1 : Nat) : Int) - 1) = (k : Int) := by omega
    rw [e0] at hs
    by_cases hxy : a[k] = b[k]
    · obtain ⟨st1, e, h⟩ := o_eq (O := O) (x := a[k]) (y := b[k]) hs ⟨by simp [hxy], gy, gx, by simp, trivial⟩
      rw [wrapI (by omega) (by omega)] at h
      have hd' : a.drop k = b.drop k := by rw [← List.getElem_cons_drop hka, ← List.getElem_cons_drop hkb, hd, hxy]
      rcases o_loop ha hb hlen hl k (by omega) hd' h with ⟨q, st', e', h'⟩ | ⟨q, st', e', h'⟩
      · exact .inl ⟨q, st', e.loop e', h'⟩
      · exact .inr ⟨q, st', e.loop e', h'⟩
    · have hn : (!decide (((a[k] : Nat) : Int) = ((b[k] : Nat) : Int))) = true := by simp; omega
      by_cases hlt : a[k] < b[k]
      · obtain ⟨st', e, h⟩ := o_ne (O := O) (x := a[k]) (y := b[k]) hs ⟨by simp; omega, gy, gx, hn, gy, gx, by simp, trivial⟩
        have hv := val_top ha hx hy hd hlt
        have : cmpN (val a) (val b) = -1 := by simp [cmpN, hv]
        rw [this]
        exact .inr ⟨by omega, st', e.loop_stop (by intro q; cases q), h⟩
      · obtain ⟨st', e, h⟩ := o_mt (O := O) (x := a[k]) (y := b[k]) hs ⟨by simp; omega, gy, gx, hn, gy, gx, by simp, trivial⟩
        have hv := val_top hb hy hx hd.symm (by omega)
        have : cmpN (val a) (val b) = 1 := by simp only [cmpN]; rw [if_neg (by omega), if_neg (by omega)]
        rw [this]
        exact .inr ⟨by omega, st', e.loop_stop (by intro q; cases q), h⟩

theorem order_run {f g : Bool} {a b : Nat} (hl : (digs a).length < 2 ^ 62) (O : Orc) : Runs Pr pol O 82 [.sl f (dv (digs a)), .sl g (dv (digs b))] (.int .i64 (cmpN a b)) := by
  have fin : ∀ st, Ev oC O oB (startSt [.sl f (dv (digs a)), .sl g (dv (digs b))] Heap.empty) .ret st → HasK [(4, .int .i64 (cmpN a b))] [] st → Runs Pr pol O 82 [.sl f (dv (digs a)), .sl g (dv (digs b))] (.int .i64 (cmpN a b)) := fun st e h => by
    refine Runs.fin (st := st) Tryz.func82 (by kernel_rfl) (by simp only [PV.persL, persS, Bool.and_self]) (by rw [Tryz.ntmps82]; exact Nat.le_of_ble_eq_true rfl) rfl e (.inr rfl) ?_ rfl
    show some (st.tm 4) = _
    rw [h.t (4, _) (List.mem_cons_self ..)]
  by_cases hlen : (digs a).length = (digs b).length
  · obtain ⟨st1, e1, h1⟩ := o_in (O := O) (f := f) (g := g) (a := digs a) (b := digs b) ⟨by simp [lenD, hlen], trivial⟩
    rw [lenD, wrapI (by omega) (by omega)] at h1
    rcases o_loop (O := O) (dig_digs a) (dig_digs b) hlen hl _ (Nat.le_refl _) (by rw [List.drop_length, hlen, List.drop_length]) h1 with ⟨q, st2, e2, h2⟩ | ⟨q, st2, e2, h2⟩
    · obtain ⟨st3, e3, h3⟩ := o_out (O := O) h2 trivial
      rw [val_digs, val_digs] at q
      have : cmpN a b = 0 := by simp [cmpN, q]
      rw [this] at fin ⊢
      obtain ⟨m, hm⟩ := e1
      exact fin st3 (Ev.as oB_eq (Ev.go3 ⟨m, hm⟩ e2.block e3)) h3
    · rw [val_digs, val_digs] at h2
      obtain ⟨m, hm⟩ := e1
      exact fin st2 (Ev.as oB_eq (Ev.go3r ⟨m, hm⟩ e2.block_ret (by intro q; cases q))) h2
  · by_cases hlt : (digs a).length < (digs b).length
    · obtain ⟨st1, e1, h1⟩ := o_lt (O := O) (f := f) (g := g) (a := digs a) (b := digs b) ⟨by simp [lenD]; omega, by simp [lenD]; omega, trivial⟩
      have : cmpN a b = -1 := by have := digs_len_lt hlt; simp [cmpN, this]
      rw [this] at fin ⊢
      exact fin st1 (Ev.as oB_eq (Ev.out e1 (by intro q; cases q))) h1
    · obtain ⟨st1, e1, h1⟩ := o_gt (O := O) (f := f) (g := g) (a := digs a) (b := digs b) ⟨by simp [lenD]; omega, by simp [lenD]; omega, trivial⟩
      have : cmpN a b = 1 := by have := digs_len_lt (a := b) (b := a) (by omega); simp only [cmpN]; rw [if_neg (by omega), if_neg (by omega)]
      rw [this] at fin ⊢
      exact fin st1 (Ev.as oB_eq (Ev.out e1 (by intro q; cases q))) h1
theorem known_order {f g : Bool} {a b : Nat} (hl : (digs a).length < 2 ^ 62) : Known 82 [.sl f (dv (digs a)), .sl g (dv (digs b))] (.int .i64 (cmpN a b)) :=
  Known.of (Q := fun _ => True) Deep.triv rfl (fun O _ => order_run hl O)

/-! ### Compare, Neg, Sign -/
theorem cmp_pn {f g : Bool} {p q : List Nat} {O : Orc} (hp : PV.persL [.agg [.bool false, .sl f (dv p)], .agg [.bool true, .sl g (dv q)]] = true) (hd : PV.pers (PV.int IntKind.i64 (1 : Int)) = true) (ho : True) : Runs Pr pol O (56) [.agg [.bool false, .sl f (dv p)], .agg [.bool true, .sl g (dv q)]] (PV.int IntKind.i64 (1 : Int)) :=
  Runs.go (fl := flg []) (n := 50) (tr := []) hp (by kernel_rfl) ho hd
theorem cmp_np {f g : Bool} {p q : List Nat} {O : Orc} (hp : PV.persL [.agg [.bool true, .sl f (dv p)], .agg [.bool false, .sl g (dv q)]] = true) (hd : PV.pers (PV.int IntKind.i64 (-1 : Int)) = true) (ho : True) : Runs Pr pol O (56) [.agg [.bool true, .sl f (dv p)], .agg [.bool false, .sl g (dv q)]] (PV.int IntKind.i64 (-1 : Int)) :=
  Runs.go (fl := flg []) (n := 50) (tr := []) hp (by kernel_rfl) ho hd
theorem cmp_pp {f g : Bool} {p q : List Nat} {n : Int} {O : Orc} (hp : PV.persL [.agg [.bool false, .sl f (dv p)], .agg [.bool false, .sl g (dv q)]] = true) (hd : PV.pers (PV.int IntKind.i64 n) = true) (ho : PV.persL [PV.sl f (dv p), PV.sl g (dv q)] = true ∧ O.pure 82 [PV.sl f (dv p), PV.sl g (dv q)] = some (PV.int IntKind.i64 n) ∧ True) : Runs Pr pol O (56) [.agg [.bool false, .sl f (dv p)], .agg [.bool false, .sl g (dv q)]] (PV.int IntKind.i64 n) :=
  Runs.go (fl := flg [(7,4,.pers)]) (n := 50) (tr := [.val (.int .i64 n)]) hp (by kernel_rfl) ho hd
theorem cmp_nn {f g : Bool} {p q : List Nat} {n : Int} {O : Orc} (hp : PV.persL [.agg [.bool true, .sl f (dv p)], .agg [.bool true, .sl g (dv q)]] = true) (hd : PV.pers (PV.int IntKind.i64 n) = true) (ho : PV.persL [PV.sl g (dv q), PV.sl f (dv p)] = true ∧ O.pure 82 [PV.sl g (dv q), PV.sl f (dv p)] = some (PV.int IntKind.i64 n) ∧ True) : Runs Pr pol O (56) [.agg [.bool true, .sl f (dv p)], .agg [.bool true, .sl g (dv q)]] (PV.int IntKind.i64 n) :=
  Runs.go (fl := flg [(6,4,.pers)]) (n := 50) (tr := [.val (.int .i64 n)]) hp (by kernel_rfl) ho hd
theorem neg_t {f : Bool} {p : List Nat} {O : Orc} (hp : PV.persL [.agg [.bool true, .sl f (dv p)]] = true) (hd : PV.pers (PV.agg [PV.bool false, PV.sl f (dv p)]) = true) (ho : True) : Runs Pr pol O (59) [.agg [.bool true, .sl f (dv p)]] (PV.agg [PV.bool false, PV.sl f (dv p)]) :=
  Runs.go (fl := flg []) (n := 50) (tr := []) hp (by kernel_rfl) ho hd
theorem neg_f {f : Bool} {p : List Nat} {c : Bool} {O : Orc} (hp : PV.persL [.agg [.bool false, .sl f (dv p)]] = true) (hd : PV.pers (PV.agg [PV.bool c, PV.sl f (dv p)]) = true) (ho : decide ((0 : Int) < (↑(dv p).length : Int)) = c ∧ True) : Runs Pr pol O (59) [.agg [.bool false, .sl f (dv p)]] (PV.agg [PV.bool c, PV.sl f (dv p)]) :=
  Runs.go (fl := flg [(1,7,.bit)]) (n := 50) (tr := [.bit c]) hp (by kernel_rfl) ho hd
theorem sign_0 {f b : Bool} {O : Orc} (hp : PV.persL [.agg [.bool b, .sl f []]] = true) (hd : PV.pers (PV.int IntKind.i64 (0 : Int)) = true) (ho : True) : Runs Pr pol O (58) [.agg [.bool b, .sl f []]] (PV.int IntKind.i64 (0 : Int)) :=
  Runs.go (fl := flg []) (n := 50) (tr := []) hp (by kernel_rfl) ho hd
theorem sign_p {f : Bool} {p : List Nat} {O : Orc} (hp : PV.persL [.agg [.bool false, .sl f (dv p)]] = true) (hd : PV.pers (PV.int IntKind.i64 (1 : Int)) = true) (ho : decide ((↑(dv p).length : Int) = (0 : Int)) = false ∧ True) : Runs Pr pol O (58) [.agg [.bool false, .sl f (dv p)]] (PV.int IntKind.i64 (1 : Int)) :=
  Runs.go (fl := flg [(1,3,.bit)]) (n := 50) (tr := [.bit false]) hp (by kernel_rfl) ho hd
theorem sign_n {f : Bool} {p : List Nat} {O : Orc} (hp : PV.persL [.agg [.bool true, .sl f (dv p)]] = true) (hd : PV.pers (PV.int IntKind.i64 (-1 : Int)) = true) (ho : decide ((↑(dv p).length : Int) = (0 : Int)) = false ∧ True) : Runs Pr pol O (58) [.agg [.bool true, .sl f (dv p)]] (PV.int IntKind.i64 (-1 : Int)) :=
  Runs.go (fl := flg [(1,3,.bit)]) (n := 50) (tr := [.bit false]) hp (by kernel_rfl) ho hd
/-- Not too large for a machine. -/
def Ok (z : Int) : Prop := z.natAbs < BB ^ 100
theorem Ok.len {z : Int} (h : Ok z) : (digs z.natAbs).length ≤ 100 := digs_len_le h
theorem Ok.neg {z : Int} (h : Ok z) : Ok (-z) := by unfold Ok; rw [Int.natAbs_neg]; exact h
def cmpZ (a b : Int) : Int := if a < b then -1 else if a = b then 0 else 1
theorem persA (b f : Bool) (l : List Nat) : PV.pers (.agg [.bool b, .sl f (dv l)]) = true := by
  show PV.persL [PV.bool b, .sl f (dv l)] = true
  simp only [PV.persL, PV.pers, persD, Bool.and_self]
theorem pers2 {a b : PV} (ha : a.pers = true) (hb : b.pers = true) : PV.persL [a, b] = true := by simp only [PV.persL, ha, hb, Bool.and_self]
theorem pers1 {a : PV} (ha : a.pers = true) : PV.persL [a] = true := by simp only [PV.persL, ha, Bool.and_self]
theorem iv_neg {f : Bool} {z : Int} (h : z < 0) : iv f z = .agg [.bool true, .sl f (dv (digs z.natAbs))] := by unfold iv; rw [decide_eq_true h]
theorem iv_pos {f : Bool} {z : Int} (h : ¬ z < 0) : iv f z = .agg [.bool false, .sl f (dv (digs z.natAbs))] := by unfold iv; rw [decide_eq_false h]
theorem known_icmp {f g : Bool} {a b : Int} (ha : Ok a) (hb : Ok b) : Known 56 [iv f a, iv g b] (.int .i64 (cmpZ a b)) := by
  have la := ha.len
  have lb := hb.len
  by_cases h1 : a < 0
  · rw [iv_neg h1]
    by_cases h2 : b < 0
    · rw [iv_neg h2]
      have e : cmpZ a b = cmpN b.natAbs a.natAbs := by
        unfold cmpZ cmpN
        (repeat' split) <;> omega
      rw [e]
      exact Known.of (known_order (f := g) (g := f) (a := b.natAbs) (b := a.natAbs) (by omega)).deep rfl (fun O hO => cmp_nn (pers2 (persA ..) (persA ..)) rfl ⟨pers2 (persS ..) (persS ..), hO, trivial⟩)
    · rw [iv_pos h2]
      have e : cmpZ a b = -1 := by unfold cmpZ; rw [if_pos (by omega)]
      rw [e]
      exact Known.of (Q := fun _ => True) Deep.triv rfl (fun O _ => cmp_np (pers2 (persA ..) (persA ..)) rfl trivial)
  · rw [iv_pos h1]
    by_cases h2 : b < 0
    · rw [iv_neg h2]
      have e : cmpZ a b = 1 := by unfold cmpZ; rw [if_neg (by omega), if_neg (by omega)]
      rw [e]
      exact Known.of (Q := fun _ => True) Deep.triv rfl (fun O _ => cmp_pn (pers2 (persA ..) (persA ..)) rfl trivial)
    · rw [iv_pos h2]
      have e : cmpZ a b = cmpN a.natAbs b.natAbs := by
        unfold cmpZ cmpN
        (repeat' split) <;> omega
      rw [e]
      exact Known.of (known_order (f := f) (g := g) (a := a.natAbs) (b := b.natAbs) (by omega)).deep rfl (fun O hO => cmp_pp (pers2 (persA ..) (persA ..)) rfl ⟨pers2 (persS ..) (persS ..), hO, trivial⟩)

theorem known_ineg {f : Bool} {z : Int} : Known 59 [iv f z] (iv f (-z)) := by
  by_cases h : z < 0
  · rw [iv_neg h, iv_pos (show ¬ -z < 0 by omega), Int.natAbs_neg]
    exact Known.of (Q := fun _ => True) Deep.triv rfl (fun O _ => neg_t (pers1 (persA ..)) (persA ..) trivial)
  · have hc : decide ((0 : Int) < ((dv (digs z.natAbs)).length : Int)) = decide (-z < 0) := by
      rw [lenD]
      by_cases h0 : z = 0
      · subst h0; rfl
      · have : (digs z.natAbs).length ≠ 0 := fun e => h0 (by have := digs_len_zero.1 e; omega)
        rw [decide_eq_true (show (0 : Int) < ((digs z.natAbs).length : Int) by omega), decide_eq_true (show -z < 0 by omega)]
    rw [iv_pos h]
    unfold iv
    rw [Int.natAbs_neg]
    exact Known.of (Q := fun _ => True) Deep.triv rfl (fun O _ => neg_f (pers1 (persA ..)) (persA ..) ⟨hc, trivial⟩)

def sgn (z : Int) : Int := if z < 0 then -1 else if z = 0 then 0 else 1
theorem known_isign {f : Bool} {z : Int} : Known 58 [iv f z] (.int .i64 (sgn z)) := by
  by_cases h0 : z = 0
  · subst h0
    exact Known.of (Q := fun _ => True) Deep.triv rfl (fun O _ => sign_0 (f := f) (b := false) (pers1 (persA _ _ [])) rfl trivial)
  have hl : decide (((dv (digs z.natAbs)).length : Int) = 0) = false := by
    rw [lenD]
    have : (digs z.natAbs).length ≠ 0 := fun e => h0 (by have := digs_len_zero.1 e; omega)
    exact decide_eq_false (by omega)
  by_cases h : z < 0
  · have e : sgn z = -1 := by unfold sgn; rw [if_pos h]
    rw [iv_neg h, e]
    exact Known.of (Q := fun _ => True) Deep.triv rfl (fun O _ => sign_n (pers1 (persA ..)) rfl ⟨hl, trivial⟩)
  · have e : sgn z = 1 := by unfold sgn; rw [if_neg h, if_neg h0]
    rw [iv_pos h, e]
    exact Known.of (Q := fun _ => True) Deep.triv rfl (fun O _ => sign_p (pers1 (persA ..)) rfl ⟨hl, trivial⟩)
end Go.Proofs.YtigfgicjjhepoaaGreatDoor.VA.Z
set_option linter.unusedVariables false
set_option linter.unusedSimpArgs false
namespace Go.Proofs.YtigfgicjjhepoaaGreatDoor.VA.Z
open Go Go.Proofs

noncomputable def sB : Code := bodyOf Tryz.f66
noncomputable def sT : Code := seqR (seqR (seqR sB))
noncomputable def sL : Code := inner (inner (seqR (seqL sT)))
noncomputable def sC : Ctx := ⟨Pr, pol, [], 66⟩
def sK : Key := ([], 11, 0)
theorem sB_eq : sB = .seq (seqL sB) (.seq (seqL (seqR sB)) (.seq (seqL (seqR (seqR sB))) (.seq (.seq (seqL (seqL sT)) (.block 0 (.loop sL))) (seqR sT)))) := by kernel_rfl
theorem s_in {f : Bool} {a : List Nat} {b : Nat} {O : Orc} (ho : ((↑(dv a).length : Int) = (↑(dv a).length : Int) ∧ (0 : Int) ≤ (↑(dv a).length : Int) ∧ (4 : Int) * (↑(dv a).length : Int) ≤ (281474976710656 : Int) ∧ (↑(dv a).length : Int) ≤ (281474976710656 : Int)) ∧ True) : ∃ st', Ev (sC) O (.seq (seqL sB) (.seq (seqL (seqR sB)) (.seq (seqL (seqR (seqR sB))) (seqL (seqL sT))))) (startSt [.sl f (dv a), u32 b] Heap.empty) (Ex.normal) st' ∧ HasK [(0, PV.sl f (dv a)), (1, PV.int IntKind.u32 (↑b : Int)), (6, PV.ms ([], 11, 0) 1 0 (↑(dv a).length : Int).toNat), (7, PV.int IntKind.u64 (0 : Int)), (8, PV.int IntKind.i64 (IntKind.i64.wrap ((↑(dv a).length : Int) - (1 : Int))))] [(sK, Blk.row 1 (List.replicate (↑(dv a).length : Int).toNat (PV.int IntKind.u32 (0 : Int))) false)] st' :=
  Ev.walk (fl := flg [(1,2,.mk)]) (n := 50) (tr := []) [0, 1, 6, 7, 8] [sK] (ex := Ex.normal) (vs := [PV.sl f (dv a), PV.int IntKind.u32 (↑b : Int), PV.ms ([], 11, 0) 1 0 (↑(dv a).length : Int).toNat, PV.int IntKind.u64 (0 : Int), PV.int IntKind.i64 (IntKind.i64.wrap ((↑(dv a).length : Int) - (1 : Int)))]) (bs := [Blk.row 1 (List.replicate (↑(dv a).length : Int).toNat (PV.int IntKind.u32 (0 : Int))) false]) (by kernel_rfl) ho
theorem s_end {f : Bool} {a o : List Nat} {b n : Nat} {r : Int} {O : Orc} {st : St} (hs : HasK [(0, .sl f (dv a)), (1, u32 b), (6, .ms sK 1 0 n), (7, .int .u64 r), (8, .int .i64 (-1))] [(sK, .row 1 (dv o) false)] st) (ho : True) : ∃ st', Ev (sC) O (sL) st (Ex.exit 0) st' ∧ HasK [(0, PV.sl f (dv a)), (1, PV.int IntKind.u32 (↑b : Int)), (6, PV.ms ([], 11, 0) 1 0 n), (7, PV.int IntKind.u64 r)] [(sK, Blk.row 1 (dv o) false)] st' :=
  Ev.walkH (fl := flg []) (n := 50) (tr := []) [0, 1, 6, 7] [sK] (ex := Ex.exit 0) (vs := [PV.sl f (dv a), PV.int IntKind.u32 (↑b : Int), PV.ms ([], 11, 0) 1 0 n, PV.int IntKind.u64 r]) (bs := [Blk.row 1 (dv o) false]) hs (fun R B C => by kernel_rfl) ho
theorem s_go {f : Bool} {a o : List Nat} {b n k r d e q s : Nat} {O : Orc} {st : St} (hs : HasK [(0, .sl f (dv a)), (1, u32 b), (6, .ms sK 1 0 n), (7, .int .u64 r), (8, .int .i64 (k : Int))] [(sK, .row 1 (dv o) false)] st) (ho : ((↑b : Int) ≠ (0 : Int) ∧ PV.int IntKind.u64 ((↑(r * 4294967296 + d) : Int).tmod (↑b : Int)) = PV.int IntKind.u64 (↑s : Int)) ∧ some (PV.int IntKind.u64 (IntKind.u64.wrap (↑b : Int))) = some (PV.int IntKind.u64 (↑b : Int)) ∧ (dv o)[0 + (↑k : Int).toNat]? = some (PV.int IntKind.u32 (↑e : Int)) ∧ ((0 : Int) ≤ (↑k : Int) ∧ (↑k : Int) < (↑n : Int)) ∧ some (PV.int IntKind.u32 (IntKind.u32.wrap (↑q : Int))) = some (PV.int IntKind.u32 (↑q : Int)) ∧ ((↑b : Int) ≠ (0 : Int) ∧ PV.int IntKind.u64 (IntKind.u64.wrap ((↑(r * 4294967296 + d) : Int).tdiv (↑b : Int))) = PV.int IntKind.u64 (↑q : Int)) ∧ some (PV.int IntKind.u64 (IntKind.u64.wrap (↑b : Int))) = some (PV.int IntKind.u64 (↑b : Int)) ∧ some (PV.int IntKind.u64 (IntKind.u64.wrap (↑(BitVec.ofInt 64 (↑(r * 4294967296) : Int) ||| BitVec.ofInt 64 (↑d : Int)).toNat : Int))) = some (PV.int IntKind.u64 (↑(r * 4294967296 + d) : Int)) ∧ some (PV.int IntKind.u64 (IntKind.u64.wrap (↑d : Int))) = some (PV.int IntKind.u64 (↑d : Int)) ∧ ((0 : Int) ≤ (↑k : Int) ∧ (dv a)[(↑k : Int).toNat]? = some (PV.int IntKind.u32 (↑d : Int))) ∧ some (PV.int IntKind.u64 (IntKind.u64.wrap ((↑r : Int) * (4294967296 : Int)))) = some (PV.int IntKind.u64 (↑(r * 4294967296) : Int)) ∧ decide ((0 : Int) ≤ (↑k : Int)) = true ∧ True) : ∃ st', Ev (sC) O (sL) st (Ex.normal) st' ∧ HasK [(0, PV.sl f (dv a)), (1, PV.int IntKind.u32 (↑b : Int)), (6, PV.ms ([], 11, 0) 1 0 n), (7, PV.int IntKind.u64 (↑s : Int)), (8, PV.int IntKind.i64 (IntKind.i64.wrap ((↑k : Int) - (1 : Int))))] [(sK, Blk.row 1 ((dv o).set (0 + (↑k : Int).toNat) (PV.int IntKind.u32 (↑q : Int))) false)] st' :=
  Ev.walkH (fl := flg [(4,1,.bit),(6,1,.val),(6,4,.elem),(6,6,.val),(6,7,.val),(7,4,.val),(7,5,.div),(7,6,.val),(7,7,.elem),(7,8,.put),(8,2,.val),(8,3,.div)]) (n := 50) (tr := [.bit true, .val (.int .u64 ((r * BB : Nat) : Int)), .val (u32 (d : Int)), .val (.int .u64 (d : Int)), .val (.int .u64 ((r * BB + d : Nat) : Int)), .val (.int .u64 (b : Int)), .val (.int .u64 (q : Int)), .val (u32 (q : Int)), .val .junk, .val (u32 (e : Int)), .val (.int .u64 (b : Int)), .val (.int .u64 (s : Int))]) [0, 1, 6, 7, 8] [sK] (ex := Ex.normal) (vs := [PV.sl f (dv a), PV.int IntKind.u32 (↑b : Int), PV.ms ([], 11, 0) 1 0 n, PV.int IntKind.u64 (↑s : Int), PV.int IntKind.i64 (IntKind.i64.wrap ((↑k : Int) - (1 : Int)))]) (bs := [Blk.row 1 ((dv o).set (0 + (↑k : Int).toNat) (PV.int IntKind.u32 (↑q : Int))) false]) hs (fun R B C => by kernel_rfl) ho
theorem s_out {f g : Bool} {a o q : List Nat} {b n s : Nat} {js : List Key} {O : Orc} {st : St} (hs : HasK [(0, .sl f (dv a)), (1, u32 b), (6, .ms sK 1 0 n), (7, .int .u64 s)] [(sK, .row 1 (dv o) false)] st) (ho : some (PV.int IntKind.u32 (IntKind.u32.wrap (↑s : Int))) = some (PV.int IntKind.u32 (↑s : Int)) ∧ (((n = (dv o).length ∧ PV.persL (dv o) = true ∧ allSz 1 (dv o) = true) ∧ True) ∧ (if (PV.sl g (dv q)).flat = true then ([] : List Key) else (if n = 0 then [] else [([], 11, 0)]) ++ []) = js ∧ O.pure 83 [PV.sl false (dv o)] = some (PV.sl g (dv q))) ∧ True) : ∃ st', Ev (sC) O (seqR sT) st (Ex.ret) st' ∧ HasK [(4, PV.sl g (dv q)), (5, PV.int IntKind.u32 (↑s : Int))] [] st' :=
  Ev.walkH (fl := flg [(9,1,.rows),(9,3,.val)]) (n := 50) (tr := [.res [] js (.sl g (dv q)), .val (u32 s)]) [4, 5] [] (ex := Ex.ret) (vs := [PV.sl g (dv q), PV.int IntKind.u32 (↑s : Int)]) (bs := []) hs (fun R B C => by kernel_rfl) ho
theorem or_add {r d : Nat} (hr : r < BB) (hd : d < BB) : IntKind.u64.wrap ((BitVec.ofInt 64 ((r * 4294967296 : Nat) : Int) ||| BitVec.ofInt 64 (d : Int)).toNat : Int) = ((r * 4294967296 + d : Nat) : Int) := by
  have h1 : (BitVec.ofInt 64 ((r * 4294967296 : Nat) : Int)).toNat = r * 4294967296 := by
    rw [BitVec.ofInt_natCast, BitVec.toNat_ofNat]
    exact Nat.mod_eq_of_lt (by have : r < 4294967296 := hr; omega)
  have h2 : (BitVec.ofInt 64 (d : Int)).toNat = d := by
    rw [BitVec.ofInt_natCast, BitVec.toNat_ofNat]
    exact Nat.mod_eq_of_lt (by have : d < 4294967296 := hd; omega)
  rw [BitVec.toNat_or, h1, h2]
  have h3 : r * 4294967296 ||| d = r * 4294967296 + d := by
    have := Nat.two_pow_add_eq_or_of_lt (i := 32) (b := d) hd r
    rw [Nat.mul_comm]
    exact this.symm
  rw [h3]
  have : r < 4294967296 := hr
  have : d < 4294967296 := hd
  exact wrapU (by omega) (by omega)
theorem dv_rep (n : Nat) : List.replicate n (PV.int .u32 0) = dv (List.replicate n 0) := by simp [dv, u32]
theorem drop_cons_val {l : List Nat} {k x : Nat} (h : l[k]? = some x) : l.drop k = x :: l.drop (k + 1) := by
  obtain ⟨hk, e⟩ := List.getElem?_eq_some_iff.1 h
  rw [← e, List.getElem_cons_drop]
theorem drop_set {l : List Nat} {k x : Nat} (h : k < l.length) : (l.set k x).drop k = x :: l.drop (k + 1) := by
  have hg : (l.set k x)[k]? = some x := by simp [h]
  rw [drop_cons_val hg, List.drop_set_of_lt (by omega)]

theorem s_loop {O : Orc} {f : Bool} {a : List Nat} {b : Nat} (ha : Dig a) (hb0 : b ≠ 0) (hb : b < BB) (hl : a.length < 2 ^ 62) : ∀ (k : Nat) (o : List Nat) (r : Nat), k ≤ a.length → o.length = a.length → Dig o → r < b → val (a.drop k) = val (o.drop k) * b + r →
    ∀ {st : St}, HasK [(0, .sl f (dv a)), (1, u32 b), (6, .ms sK 1 0 a.length), (7, .int .u64 r), (8, .int .i64 ((k : Int) - 1))] [(sK, .row 1 (dv o) false)] st →
    ∃ st' o' s, Ev sC O (.loop sL) st (.exit 0) st' ∧ o'.length = a.length ∧ Dig o' ∧ s < b ∧ val a = val o' * b + s ∧ HasK [(0, .sl f (dv a)), (1, u32 b), (6, .ms sK 1 0 a.length), (7, .int .u64 (s : Nat))] [(sK, .row 1 (dv o') false)] st'
  | 0, o, r, hk, ho, hdo, hr, hv, st, hs => by
    obtain ⟨st', e, h⟩ := s_end (O := O) hs trivial
    exact ⟨st', o, r, e.loop_stop (by intro q; cases q), ho, hdo, hr, hv, h⟩
  | k + 1, o, r, hk, ho, hdo, hr, hv, st, hs => by
    have hka : k < a.length := by omega
    have hx : a[k]? = some a[k] := List.getElem?_eq_getElem hka
    have hy : o[k]? = some (o[k]'(by omega)) := List.getElem?_eq_getElem (by omega)
    have hdk : a[k] < BB := ha _ (List.getElem_mem hka)
    generalize hD : a[k] = d at hx hdk
    generalize hE : o[k]'(by omega) = e0 at hy
    have hr4 : r < BB := by omega
    have hr5 : r < 4294967296 := hr4
    have hd5 : d < 4294967296 := hdk
    have hb5 : b < 4294967296 := hb
    have hw : r * 4294967296 + d < 18446744073709551616 := by omega
    have hqlt : (r * 4294967296 + d) / b < 4294967296 := by
      rw [Nat.div_lt_iff_lt_mul (by omega)]
      have : (r + 1) * 4294967296 ≤ b * 4294967296 := Nat.mul_le_mul_right _ hr
      rw [Nat.mul_comm 4294967296 b]
      omega
    generalize hq : (r * 4294967296 + d) / b = q at hqlt
    generalize hs' : (r * 4294967296 + d) % b = s
    have hsb : s < b := by rw [← hs']; exact Nat.mod_lt _ (by omega)
    have hdm : r * 4294967296 + d = b * q + s := by rw [← hq, ← hs']; exact (Nat.div_add_mod _ _).symm
    have e1 : (((k + 1 : Nat) : Int) - 1) = (k : Int) := by omega
    rw [e1] at hs
    obtain ⟨st1, e, h⟩ := s_go (O := O) (d := d) (e := e0) (q := q) (s := s) hs ⟨⟨by omega, by rw [← Int.ofNat_tmod, hs']⟩, by rw [wrapU (by omega) (by omega)], by rw [Int.toNat_natCast, Nat.zero_add, getD', hy]; rfl, ⟨by omega, by omega⟩, by rw [wrapW]; congr 2; omega,
      ⟨by omega, by rw [← Int.ofNat_tdiv, hq, wrapU (by omega) (by omega)]⟩, by rw [wrapU (by omega) (by omega)], by rw [or_add hr4 hdk], by rw [wrapU (by omega) (by omega)], ⟨by omega, by rw [Int.toNat_natCast, getD', hx]; rfl⟩, by
        rw [wrapU (by omega) (by omega)]; congr 2, by simp, trivial⟩
    rw [Int.toNat_natCast, Nat.zero_add, wrapI (by omega) (by omega)] at h
    have hset : (dv o).set k (PV.int .u32 (q : Int)) = dv (o.set k q) := setD o k q
    rw [hset] at h
    have hdo' : Dig (o.set k q) := by
      intro z hz
      rcases List.mem_or_eq_of_mem_set hz with g | rfl
      · exact hdo z g
      · exact hqlt
    have hv' : val (a.drop k) = val ((o.set k q).drop k) * b + s := by
      rw [drop_cons_val hx, drop_set (by omega)]
      simp only [val, hv]
      have h4 : b * q = q * b := Nat.mul_comm _ _
      rw [Nat.mul_add, Nat.add_mul, ← Nat.mul_assoc]
      simp only [BB]
      omega
    obtain ⟨st', o', s', g1, g2⟩ := s_loop ha hb0 hb hl k (o.set k q) s (by omega) (by simp [ho]) hdo' hsb hv' h
    exact ⟨st', o', s', e.loop g1, g2⟩

theorem short_run {O : Orc} {f : Bool} {a : List Nat} {b : Nat} (ha : Dig a) (hb0 : b ≠ 0) (hb : b < BB) (hl : a.length ≤ 200) (hO : O.pure 83 [.sl false (dv (pad a.length (val a / b)))] = some (.sl false (dv (digs (val a / b))))) :
    Runs Pr pol O 66 [.sl f (dv a), u32 b] (.tup [.sl false (dv (digs (val a / b))), u32 ((val a % b : Nat) : Int)]) := by
  obtain ⟨st1, e1, h1⟩ := s_in (O := O) (f := f) (a := a) (b := b) ⟨⟨rfl, by omega, by rw [lenD]; omega, by rw [lenD]; omega⟩, trivial⟩
  rw [dv_rep, lenD, Int.toNat_natCast, wrapI (by omega) (by omega)] at h1
  obtain ⟨st2, o, s, e2, ho, hdo, hs, hv, h2⟩ := s_loop (O := O) ha hb0 hb (by omega) a.length (List.replicate a.length 0) 0 (Nat.le_refl _) (by simp) (fun z hz => by rw [(List.mem_replicate.1 hz).2]; decide) (by omega) (by simp [val]) h1
  have hq : val o = val a / b := by rw [hv, Nat.mul_comm, Nat.mul_add_div (by omega), Nat.div_eq_of_lt hs, Nat.add_zero]
  have hr : s = val a % b := by rw [hv, Nat.mul_comm, Nat.mul_add_mod, Nat.mod_eq_of_lt hs]
  have hop := pad_eq hdo
  rw [ho, hq] at hop
  rw [← hop] at hO
  obtain ⟨st3, e3, h3⟩ := s_out (O := O) (g := false) (q := digs (val a / b)) (js := if (PV.sl false (dv (digs (val a / b)))).flat = true then [] else (if a.length = 0 then [] else [([], 11, 0)]) ++ []) h2 ⟨by rw [wrapW]; congr 2; have : b < 4294967296 := hb; omega, ⟨⟨⟨by rw [lenD, ho], persD o, szD o⟩, trivial⟩, rfl, hO⟩, trivial⟩
  rw [hr] at h3
  refine Runs.fin (st := st3) Tryz.func66 (by kernel_rfl) (by simp only [PV.persL, persS, Bool.and_self]; rfl) (by rw [Tryz.ntmps66]; exact Nat.le_of_ble_eq_true rfl) rfl (Ev.as sB_eq (Ev.go4 e1 e2.block e3)) (.inr rfl) ?_ (by simp only [PV.pers, PV.persL, persD, Bool.and_self]; rfl)
  show some (PV.tup [st3.tm 4, st3.tm 5]) = _
  rw [h3.g0, h3.g1]; rfl
theorem known_short {f : Bool} {a : List Nat} {b : Nat} (ha : Dig a) (hb0 : b ≠ 0) (hb : b < BB) (hl : a.length ≤ 200) : Known 66 [.sl f (dv a), u32 b] (.tup [.sl false (dv (digs (val a / b))), u32 ((val a % b : Nat) : Int)]) := by
  have hk := known_trim (f := false) (l := pad a.length (val a / b)) (by rw [pad_len]; omega)
  have hlt : val a / b < BB ^ a.length := Nat.lt_of_le_of_lt (Nat.div_le_self _ _) (val_lt ha)
  rw [trim_digs (pad_dig _ _), pad_val hlt] at hk
  exact Known.of hk.deep rfl (fun O hO => short_run ha hb0 hb hl hO)
end Go.Proofs.YtigfgicjjhepoaaGreatDoor.VA.Z
set_option linter.unusedVariables false
set_option linter.unusedSimpArgs false
namespace Go.Proofs.YtigfgicjjhepoaaGreatDoor.VA.Z
open Go Go.Proofs

/-! ### divide -/
theorem div_lt {f g : Bool} {a b : List Nat} {O : Orc} (hp : PV.persL [.sl f (dv a), .sl g (dv b)] = true) (hd : PV.pers (PV.tup [PV.sl true [], PV.sl f (dv a)]) = true) (ho : PV.persL [PV.sl f (dv a), PV.sl g (dv b)] = true ∧ O.pure 82 [PV.sl f (dv a), PV.sl g (dv b)] = some (PV.int IntKind.i64 (-1 : Int)) ∧ True) : Runs Pr pol O (84) [.sl f (dv a), .sl g (dv b)] (PV.tup [PV.sl true [], PV.sl f (dv a)]) :=
  Runs.go (fl := flg [(1,2,.pers)]) (n := 50) (tr := [.val (.int .i64 (-1))]) hp (by kernel_rfl) ho hd
theorem div_one {f g h : Bool} {a q s : List Nat} {b r : Nat} {n : Int} {O : Orc} (hp : PV.persL [.sl f (dv a), .sl g (dv [b])] = true) (hd : PV.pers (PV.tup [PV.sl false (dv q), PV.sl h (dv s)]) = true) (ho : PV.persL [PV.sl true [PV.int IntKind.u32 (↑r : Int)]] = true ∧ O.pure 83 [PV.sl true [PV.int IntKind.u32 (↑r : Int)]] = some (PV.sl h (dv s)) ∧ PV.persL [PV.sl f (dv a), PV.int IntKind.u32 (↑b : Int)] = true ∧ O.pure 66 [PV.sl f (dv a), PV.int IntKind.u32 (↑b : Int)] = some (PV.tup [PV.sl false (dv q), PV.int IntKind.u32 (↑r : Int)]) ∧ decide (n < (0 : Int)) = false ∧ PV.persL [PV.sl f (dv a), PV.sl g [PV.int IntKind.u32 (↑b : Int)]] = true ∧ O.pure 82 [PV.sl f (dv a), PV.sl g [PV.int IntKind.u32 (↑b : Int)]] = some (PV.int IntKind.i64 n) ∧ True) : Runs Pr pol O (84) [.sl f (dv a), .sl g (dv [b])] (PV.tup [PV.sl false (dv q), PV.sl h (dv s)]) :=
  Runs.go (fl := flg [(1,2,.pers),(1,3,.bit),(4,4,.pers),(5,3,.pers)]) (n := 50) (tr := [.val (.int .i64 n), .bit false, .val (.tup [.sl false (dv q), u32 r]), .val (.sl h (dv s))]) hp (by kernel_rfl) ho hd

theorem dv_one {b : Nat} (h0 : b ≠ 0) (h : b < BB) : dv (digs b) = dv [b] := by rw [digs_one h0 h]
theorem len_nat {n : Nat} (h : n < BB ^ 100) : (digs n).length ≤ 100 := digs_len_le h
theorem known_divide {f g : Bool} {a b : Nat} (ha : a < BB ^ 100) (hb0 : b ≠ 0) (hb : b < BB ∨ a < b) : ∃ p q, Known 84 [.sl f (dv (digs a)), .sl g (dv (digs b))] (.tup [.sl p (dv (digs (a / b))), .sl q (dv (digs (a % b)))]) := by
  have la := len_nat ha
  have ko := known_order (f := f) (g := g) (a := a) (b := b) (by omega)
  by_cases hlt : a < b
  · refine ⟨true, f, ?_⟩
    rw [Nat.div_eq_of_lt hlt, Nat.mod_eq_of_lt hlt]
    have e : cmpN a b = -1 := by unfold cmpN; rw [if_pos hlt]
    rw [e] at ko
    exact Known.of ko.deep rfl (fun O hO => div_lt (pers2 (persS ..) (persS ..)) (by simp only [PV.pers, PV.persL, persD, Bool.and_self]) ⟨pers2 (persS ..) (persS ..), hO, trivial⟩)
  · have hB : b < BB := hb.resolve_right hlt
    have hn : decide (cmpN a b < 0) = false := by
      apply decide_eq_false
      unfold cmpN; rw [if_neg hlt]; split <;> omega
    rw [dv_one hb0 hB] at ko ⊢
    have ks := known_short (f := f) (a := digs a) (dig_digs a) hb0 hB (by omega)
    rw [val_digs] at ks
    have hr : a % b < BB := Nat.lt_trans (Nat.mod_lt _ (by omega)) hB
    have kt := known_trim (f := true) (l := [a % b]) (by simp)
    rw [trim_digs (fun d hd => by rw [List.mem_singleton.1 hd]; exact hr)] at kt
    rw [show val [a % b] = a % b by simp [val]] at kt
    refine ⟨false, trimF true [a % b], ?_⟩
    exact Known.of (ko.deep.and (ks.deep.and kt.deep)) rfl (fun O hO => div_one (pers2 (persS ..) (persS ..)) (by simp only [PV.pers, PV.persL, persD, Bool.and_self]) ⟨rfl, hO.2.2, pers2 (persS ..) rfl, hO.2.1, hn, pers2 (persS ..) rfl, hO.1, trivial⟩)

/-! ### Gcd -/
noncomputable def gB : Code := bodyOf Tryz.f60
noncomputable def gL : Code := inner (inner (seqL (seqR (seqR gB))))
noncomputable def gC : Ctx := ⟨Pr, pol, [], 60⟩
theorem gB_eq : gB = .seq (seqL gB) (.seq (seqL (seqR gB)) (.seq (.block 0 (.loop gL)) (seqR (seqR (seqR gB))))) := by kernel_rfl
theorem g_in {f g s t : Bool} {a b : List Nat} {O : Orc} (ho : True) : ∃ st', Ev (gC) O (.seq (seqL gB) (seqL (seqR gB))) (startSt [.agg [.bool s, .sl f (dv a)], .agg [.bool t, .sl g (dv b)]] Heap.empty) (Ex.normal) st' ∧ HasK [(4, PV.ptr ([], 4, 0) 2 0 0), (5, PV.sl f (dv a)), (6, PV.sl g (dv b))] [(([],4,0), Blk.row 2 [PV.agg [PV.bool false, PV.sl true []]] false)] st' :=
  Ev.walk (fl := flg []) (n := 50) (tr := []) [4, 5, 6] [([],4,0)] (ex := Ex.normal) (vs := [PV.ptr ([], 4, 0) 2 0 0, PV.sl f (dv a), PV.sl g (dv b)]) (bs := [Blk.row 2 [PV.agg [PV.bool false, PV.sl true []]] false]) (by kernel_rfl) ho
theorem g_end {f g : Bool} {a : List Nat} {O : Orc} {st : St} (hs : HasK [(4, .ptr ([],4,0) 2 0 0), (5, .sl f (dv a)), (6, .sl g [])] [(([],4,0), .row 2 [.agg [.bool false, .sl true []]] false)] st) (ho : True) : ∃ st', Ev (gC) O (gL) st (Ex.exit 0) st' ∧ HasK [(4, PV.ptr ([], 4, 0) 2 0 0), (5, PV.sl f (dv a))] [(([],4,0), Blk.row 2 [PV.agg [PV.bool false, PV.sl true []]] false)] st' :=
  Ev.walkH (fl := flg []) (n := 50) (tr := []) [4, 5] [([],4,0)] (ex := Ex.exit 0) (vs := [PV.ptr ([], 4, 0) 2 0 0, PV.sl f (dv a)]) (bs := [Blk.row 2 [PV.agg [PV.bool false, PV.sl true []]] false]) hs (fun R B C => by kernel_rfl) ho
theorem g_go {f g p q : Bool} {a b d r : List Nat} {O : Orc} {st : St} (hs : HasK [(4, .ptr ([],4,0) 2 0 0), (5, .sl f (dv a)), (6, .sl g (dv b))] [(([],4,0), .row 2 [.agg [.bool false, .sl true []]] false)] st) (ho : PV.persL [PV.sl f (dv a), PV.sl g (dv b)] = true ∧ O.pure 84 [PV.sl f (dv a), PV.sl g (dv b)] = some (PV.tup [PV.sl p (dv d), PV.sl q (dv r)]) ∧ decide ((0 : Int) < (↑(dv b).length : Int)) = true ∧ True) : ∃ st', Ev (gC) O (gL) st (Ex.normal) st' ∧ HasK [(4, PV.ptr ([], 4, 0) 2 0 0), (5, PV.sl g (dv b)), (6, PV.sl q (dv r))] [(([],4,0), Blk.row 2 [PV.agg [PV.bool false, PV.sl true []]] false)] st' :=
  Ev.walkH (fl := flg [(2,2,.bit),(3,2,.pers)]) (n := 50) (tr := [.bit true, .val (.tup [.sl p (dv d), .sl q (dv r)])]) [4, 5, 6] [([],4,0)] (ex := Ex.normal) (vs := [PV.ptr ([], 4, 0) 2 0 0, PV.sl g (dv b), PV.sl q (dv r)]) (bs := [Blk.row 2 [PV.agg [PV.bool false, PV.sl true []]] false]) hs (fun R B C => by kernel_rfl) ho
theorem g_out {f : Bool} {a : List Nat} {O : Orc} {st : St} (hs : HasK [(4, .ptr ([],4,0) 2 0 0), (5, .sl f (dv a))] [(([],4,0), .row 2 [.agg [.bool false, .sl true []]] false)] st) (ho : True) : ∃ st', Ev (gC) O (seqR (seqR (seqR gB))) st (Ex.ret) st' ∧ HasK [(4, PV.ptr ([], 4, 0) 2 0 0)] [(([],4,0), Blk.row 2 [PV.agg [PV.bool false, PV.sl f (dv a)]] false)] st' :=
  Ev.walkH (fl := flg []) (n := 50) (tr := []) [4] [([],4,0)] (ex := Ex.ret) (vs := [PV.ptr ([], 4, 0) 2 0 0]) (bs := [Blk.row 2 [PV.agg [PV.bool false, PV.sl f (dv a)]] false]) hs (fun R B C => by kernel_rfl) ho

/-! ### DivMod without a rest -/
theorem dm_exact {f g s t p r u v c e : Bool} {a b q d : List Nat} {n : Int} {O : Orc} (hp : PV.persL [.agg [.bool s, .sl f (dv a)], .agg [.bool t, .sl g (dv b)]] = true) (hd : PV.pers (PV.tup [PV.agg [PV.bool c, PV.sl u (dv d)], PV.agg [PV.bool e, PV.sl v []], PV.int IntKind.i64 (0 : Int)]) = true) (ho : ((PV.agg [PV.bool c, PV.sl u (dv d)] = PV.agg [PV.bool c, PV.sl u (dv d)] ∧ PV.agg [PV.bool e, PV.sl v []] = PV.agg [PV.bool e, PV.sl v []] ∧ PV.int IntKind.i64 (0 : Int) = PV.int IntKind.i64 (0 : Int) ∧ (true = true ∧ some (Blk.row 2 [PV.agg [PV.bool c, PV.sl u (dv d)]] false) = some (Blk.row 2 [PV.agg [PV.bool c, PV.sl u (dv d)]] false)) ∧ (true = true ∧ some (Blk.row 2 [PV.agg [PV.bool e, PV.sl v []]] false) = some (Blk.row 2 [PV.agg [PV.bool e, PV.sl v []]] false)) ∧ True) ∧ True) ∧ PV.persL [PV.agg [PV.bool e, PV.sl v []]] = true ∧ O.pure 58 [PV.agg [PV.bool e, PV.sl v []]] = some (PV.int IntKind.i64 (0 : Int)) ∧ PV.persL [PV.bool s, PV.sl r []] = true ∧ O.pure 57 [PV.bool s, PV.sl r []] = some (PV.agg [PV.bool e, PV.sl v []]) ∧ PV.persL [PV.bool (s != t), PV.sl p (dv q)] = true ∧ O.pure 57 [PV.bool (s != t), PV.sl p (dv q)] = some (PV.agg [PV.bool c, PV.sl u (dv d)]) ∧ PV.persL [PV.sl f (dv a), PV.sl g (dv b)] = true ∧ O.pure 84 [PV.sl f (dv a), PV.sl g (dv b)] = some (PV.tup [PV.sl p (dv q), PV.sl r []]) ∧ decide (n = (0 : Int)) = false ∧ PV.persL [PV.agg [PV.bool t, PV.sl g (dv b)]] = true ∧ O.pure 58 [PV.agg [PV.bool t, PV.sl g (dv b)]] = some (PV.int IntKind.i64 n) ∧ True) : Runs Pr pol O (62) [.agg [.bool s, .sl f (dv a)], .agg [.bool t, .sl g (dv b)]] (PV.tup [PV.agg [PV.bool c, PV.sl u (dv d)], PV.agg [PV.bool e, PV.sl v []], PV.int IntKind.i64 (0 : Int)]) :=
  Runs.go (fl := flg [(1,1,.pers),(1,2,.bit),(3,4,.pers),(4,6,.pers),(4,10,.pers),(5,1,.pers)]) (n := 50) (tr := [.val (.int .i64 n), .bit false, .val (.tup [.sl p (dv q), .sl r (dv [])]), .val (.agg [.bool c, .sl u (dv d)]), .val (.agg [.bool e, .sl v (dv [])]), .val (.int .i64 0)]) hp (by kernel_rfl) ho hd
theorem Deep.mono {Q R : Orc → Prop} (h : Deep Q) (hi : ∀ O, Q O → R O) : Deep R := by
  obtain ⟨m, hm⟩ := h
  exact ⟨m, fun m' h' => hi _ (hm m' h')⟩
theorem Deep.all {Q : Nat → Orc → Prop} : ∀ n, (∀ i, i < n → Deep (Q i)) → Deep (fun O => ∀ i, i < n → Q i O)
  | 0, _ => ⟨0, fun _ _ i h => by omega⟩
  | n + 1, h => by
    obtain ⟨m, hm⟩ := (Deep.all n (fun i hi => h i (by omega))).and (h n (by omega))
    refine ⟨m, fun m' h' i hi => ?_⟩
    by_cases e : i = n
    · subst e; exact (hm m' h').2
    · exact (hm m' h').1 i (by omega)
def gK : List (Key × Blk) := [(([],4,0), .row 2 [.agg [.bool false, .sl true []]] false)]
theorem g_loop : ∀ (n x y : Nat) (f g : Bool), y ≤ n → x < BB ^ 100 → y < BB ^ 100 → (x < BB ∨ y < BB) →
    ∃ h, Deep (fun O => ∀ st, HasK [(4, .ptr ([],4,0) 2 0 0), (5, .sl f (dv (digs x))), (6, .sl g (dv (digs y)))] gK st → ∃ st', Ev gC O (.loop gL) st (.exit 0) st' ∧ HasK [(4, .ptr ([],4,0) 2 0 0), (5, .sl h (dv (digs (Nat.gcd x y))))] gK st')
  | n, x, 0, f, g, hn, hx, hy, hs => ⟨f, Deep.mono Deep.triv fun O _ st hs => by
    obtain ⟨st', e, h⟩ := g_end (O := O) hs trivial
    rw [Nat.gcd_zero_right]
    exact ⟨st', e.loop_stop (by intro q; cases q), h⟩⟩
  | 0, x, y + 1, f, g, hn, hx, hy, hs => by omega
  | n + 1, x, y + 1, f, g, hn, hx, hy, hs => by
    have hr : x % (y + 1) < y + 1 := Nat.mod_lt _ (by omega)
    have hr2 : x % (y + 1) ≤ x := Nat.mod_le _ _
    obtain ⟨p, q, kd⟩ := known_divide (f := f) (g := g) (a := x) (b := y + 1) hx (by omega) (by omega)
    obtain ⟨h, ih⟩ := g_loop n (y + 1) (x % (y + 1)) g q (by omega) hy (Nat.lt_of_le_of_lt (Nat.mod_le _ _) hx) (by omega)
    refine ⟨h, Deep.mono (kd.deep.and ih) fun O hO st hs => ?_⟩
    have hlen : (digs (y + 1)).length ≠ 0 := fun e => by have := digs_len_zero.1 e; omega
    obtain ⟨st1, e1, h1⟩ := g_go (O := O) hs ⟨pers2 (persS ..) (persS ..), hO.1, by rw [lenD]; simp; omega, trivial⟩
    obtain ⟨st', e, h'⟩ := hO.2 st1 h1
    refine ⟨st', e1.loop e, ?_⟩
    rw [Nat.gcd_comm x (y + 1), Nat.gcd_rec (y + 1) x, Nat.gcd_comm]
    exact h'
theorem known_igcd {f g : Bool} {a b : Int} (ha : Ok a) (hb : Ok b) (h : a.natAbs < BB ∨ b.natAbs < BB) : ∃ p, Known 60 [iv f a, iv g b] (iv p (Int.gcd a b)) := by
  obtain ⟨p, hd⟩ := g_loop _ a.natAbs b.natAbs f g (Nat.le_refl _) ha hb h
  refine ⟨p, ?_⟩
  refine Known.of hd rfl (fun O hO => ?_)
  obtain ⟨st1, e1, h1⟩ := g_in (O := O) (f := f) (g := g) (s := decide (a < 0)) (t := decide (b < 0)) (a := digs a.natAbs) (b := digs b.natAbs) trivial
  obtain ⟨st2, e2, h2⟩ := hO st1 h1
  obtain ⟨st3, e3, h3⟩ := g_out (O := O) h2 trivial
  have e : iv p (Int.gcd a b : Int) = .agg [.bool false, .sl p (dv (digs (Nat.gcd a.natAbs b.natAbs)))] := by
    rw [iv_pos (by omega)]; rfl
  rw [e]
  refine Runs.fin (st := st3) Tryz.func60 (by kernel_rfl) (pers2 (persI ..) (persI ..)) (by rw [Tryz.ntmps60]; exact Nat.le_of_ble_eq_true rfl) rfl (Ev.as gB_eq (Ev.go e1 (e2.block.seq e3))) (.inr rfl) (by rw [h3.eq]; kernel_rfl) (persA ..)

theorem known_dmx {f g : Bool} {a b : Int} (ha : Ok a) (hb0 : b ≠ 0) (hb : b.natAbs < BB ∨ a.natAbs < b.natAbs) (hd : b ∣ a) : ∃ p q, Known 62 [iv f a, iv g b] (.tup [iv p (a / b), iv q 0, .int .i64 0]) := by
  obtain ⟨c, rfl⟩ := hd
  have hbn : b.natAbs ≠ 0 := by omega
  have hab : (b * c).natAbs = b.natAbs * c.natAbs := Int.natAbs_mul b c
  obtain ⟨p, r, kd⟩ := known_divide (f := f) (g := g) (a := (b * c).natAbs) (b := b.natAbs) ha hbn hb
  have hq : (b * c).natAbs / b.natAbs = c.natAbs := by rw [hab, Nat.mul_div_cancel_left _ (by omega)]
  have hm : (b * c).natAbs % b.natAbs = 0 := by rw [hab]; exact Nat.mul_mod_right _ _
  rw [hq, hm] at kd
  have hc : c.natAbs < BB ^ 100 := by
    have : c.natAbs ≤ (b * c).natAbs := by rw [hab]; exact Nat.le_mul_of_pos_left _ (by omega)
    exact Nat.lt_of_le_of_lt this ha
  have hdiv : b * c / b = c := Int.mul_ediv_cancel_left _ hb0
  rw [hdiv]
  have kb := known_isign (f := g) (z := b)
  have ks := known_signed (b := (decide (b * c < 0) != decide (b < 0))) (f := p) (l := digs c.natAbs) (dig_digs _) (by have := len_nat hc; omega)
  have kz := known_signed (b := decide (b * c < 0)) (f := r) (l := []) (fun d hd => by cases hd) (by simp)
  rw [val_digs] at ks
  have e1 : (if (decide (b * c < 0) != decide (b < 0)) = true then -(c.natAbs : Int) else c.natAbs) = c := by
    by_cases h0 : c = 0
    · subst h0; simp
    by_cases h1 : b < 0
    · by_cases h2 : c < 0
      · have : ¬ b * c < 0 := by have := Int.mul_pos_of_neg_of_neg h1 h2; omega
        simp [this, h1]; omega
      · have : b * c < 0 := Int.mul_neg_of_neg_of_pos h1 (by omega)
        simp [this, h1]; omega
    · by_cases h2 : c < 0
      · have : b * c < 0 := Int.mul_neg_of_pos_of_neg (by omega) h2
        simp [this, h1]; omega
      · have : ¬ b * c < 0 := by have := Int.mul_pos (show 0 < b by omega) (show 0 < c by omega); omega
        simp [this, h1]; omega
  have e2 : (if decide (b * c < 0) = true then -(val [] : Int) else val []) = 0 := by simp [val]
  rw [e1] at ks
  rw [e2] at kz
  have kz' : Known 58 [iv (trimF r []) 0] (.int .i64 (sgn 0)) := known_isign
  have hn : decide (sgn b = 0) = false := by
    apply decide_eq_false
    unfold sgn
    (repeat' split) <;> omega
  refine ⟨trimF p (digs c.natAbs), trimF r [], ?_⟩
  refine Known.of (kd.deep.and (kb.deep.and (ks.deep.and (kz.deep.and kz'.deep)))) rfl (fun O hO => ?_)
  obtain ⟨h1, h2, h3, h4, h5⟩ := hO
  exact dm_exact (pers2 (persI ..) (persI ..)) (by simp only [PV.pers, PV.persL, persD, Bool.and_self]) ⟨⟨⟨rfl, rfl, rfl, ⟨rfl, rfl⟩, ⟨rfl, rfl⟩, trivial⟩, trivial⟩, rfl, h5, rfl, h4, pers2 rfl (persS ..), h3, pers2 (persS ..) (persS ..), h1, hn, pers1 (persI ..), h2, trivial⟩
end Go.Proofs.YtigfgicjjhepoaaGreatDoor.VA.Z
set_option linter.unusedVariables false
set_option linter.unusedSimpArgs false
namespace Go.Proofs.YtigfgicjjhepoaaGreatDoor.VA.Z
open Go Go.Proofs

noncomputable def mB : Code := bodyOf Tryz.f36
noncomputable def mT : Code := seqR (seqR mB)
noncomputable def mL : Code := inner (inner (seqR (seqL mT)))
noncomputable def mS : Code := inner (seqL (seqR (seqR mL)))
noncomputable def mS2 : Code := seqR (seqR mS)
noncomputable def mI : Code := inner (inner (seqR (seqL mS2)))
noncomputable def mC : Ctx := ⟨Pr, pol, [], 36⟩
def mK2 : Key := ([], 2, 0)
def mK3 : Key := ([], 3, 0)
def mK4 : Key := ([], 4, 0)
def mK5 : Key := ([], 18, 0)
theorem mB_eq : mB = .seq (seqL mB) (.seq (seqL (seqR mB)) (.seq (.seq (seqL (seqL mT)) (.block 0 (.loop mL))) (seqR mT))) := by kernel_rfl
theorem mL_eq : mL = .seq (seqL mL) (.seq (seqL (seqR mL)) (.seq (.block 1 mS) (seqR (seqR (seqR mL))))) := by kernel_rfl
theorem mS_eq : mS = .seq (seqL mS) (.seq (seqL (seqR mS)) (.seq (.seq (seqL (seqL mS2)) (.block 2 (.loop mI))) (seqR mS2))) := by kernel_rfl
abbrev mR (f : Bool) (s : Bool) (a : List Nat) : Blk := .row 2 [.agg [.bool s, .sl f (dv a)]] false
abbrev mBs (f g s t : Bool) (a b o : List Nat) : List (Key × Blk) := [(mK2, mR f s a), (mK3, mR g t b), (mK4, .row 2 [.agg [.bool false, .sl true []]] false), (mK5, .row 1 (dv o) false)]
abbrev mTs (n : Nat) : List (Nat × PV) := [(2, .ptr mK2 2 0 0), (3, .ptr mK3 2 0 0), (4, .ptr mK4 2 0 0), (5, .ms mK5 1 0 n)]
theorem m_in {f g s t : Bool} {a b : List Nat} {O : Orc} (ho : (IntKind.i64.wrap ((↑(dv a).length : Int) + (↑(dv b).length : Int)) = IntKind.i64.wrap ((↑(dv a).length : Int) + (↑(dv b).length : Int)) ∧ (0 : Int) ≤ IntKind.i64.wrap ((↑(dv a).length : Int) + (↑(dv b).length : Int)) ∧ (4 : Int) * IntKind.i64.wrap ((↑(dv a).length : Int) + (↑(dv b).length : Int)) ≤ (281474976710656 : Int) ∧ IntKind.i64.wrap ((↑(dv a).length : Int) + (↑(dv b).length : Int)) ≤ (281474976710656 : Int)) ∧ True) : ∃ st', Ev (mC) O (.seq (seqL mB) (.seq (seqL (seqR mB)) (seqL (seqL mT)))) (startSt [.agg [.bool s, .sl f (dv a)], .agg [.bool t, .sl g (dv b)]] Heap.empty) (Ex.normal) st' ∧ HasK [(20, PV.sl f (dv a)), (21, PV.int IntKind.i64 (↑(dv a).length : Int)), (22, PV.int IntKind.i64 (0 : Int)), (2, PV.ptr ([], 2, 0) [PV.bool s, PV.sl f (dv a)].length 0 0), (3, PV.ptr ([], 3, 0) [PV.bool t, PV.sl g (dv b)].length 0 0), (4, PV.ptr ([], 4, 0) 2 0 0), (5, PV.ms ([], 18, 0) 1 0 (IntKind.i64.wrap ((↑(dv a).length : Int) + (↑(dv b).length : Int))).toNat)] [(mK2, Blk.row [PV.bool s, PV.sl f (dv a)].length [PV.agg [PV.bool s, PV.sl f (dv a)]] false), (mK3, Blk.row [PV.bool t, PV.sl g (dv b)].length [PV.agg [PV.bool t, PV.sl g (dv b)]] false), (mK4, Blk.row 2 [PV.agg [PV.bool false, PV.sl true []]] false), (mK5, Blk.row 1 (List.replicate (IntKind.i64.wrap ((↑(dv a).length : Int) + (↑(dv b).length : Int))).toNat (PV.int IntKind.u32 (0 : Int))) false)] st' :=
  Ev.walk (fl := flg [(1,7,.mk)]) (n := 50) (tr := []) [20, 21, 22, 2, 3, 4, 5] [mK2, mK3, mK4, mK5] (ex := Ex.normal) (vs := [PV.sl f (dv a), PV.int IntKind.i64 (↑(dv a).length : Int), PV.int IntKind.i64 (0 : Int), PV.ptr ([], 2, 0) [PV.bool s, PV.sl f (dv a)].length 0 0, PV.ptr ([], 3, 0) [PV.bool t, PV.sl g (dv b)].length 0 0, PV.ptr ([], 4, 0) 2 0 0, PV.ms ([], 18, 0) 1 0 (IntKind.i64.wrap ((↑(dv a).length : Int) + (↑(dv b).length : Int))).toNat]) (bs := [Blk.row [PV.bool s, PV.sl f (dv a)].length [PV.agg [PV.bool s, PV.sl f (dv a)]] false, Blk.row [PV.bool t, PV.sl g (dv b)].length [PV.agg [PV.bool t, PV.sl g (dv b)]] false, Blk.row 2 [PV.agg [PV.bool false, PV.sl true []]] false, Blk.row 1 (List.replicate (IntKind.i64.wrap ((↑(dv a).length : Int) + (↑(dv b).length : Int))).toNat (PV.int IntKind.u32 (0 : Int))) false]) (by kernel_rfl) ho
theorem m_end {f g s t : Bool} {a b o : List Nat} {n k : Nat} {h : Int} {O : Orc} {st : St} (hs : HasK ((20, .sl f (dv a)) :: (21, .int .i64 h) :: (22, .int .i64 (k : Int)) :: mTs n) (mBs f g s t a b o) st) (ho : decide ((↑k : Int) < h) = false ∧ True) : ∃ st', Ev (mC) O (mL) st (Ex.exit 0) st' ∧ HasK [(2, PV.ptr ([], 2, 0) 2 0 0), (3, PV.ptr ([], 3, 0) 2 0 0), (4, PV.ptr ([], 4, 0) 2 0 0), (5, PV.ms ([], 18, 0) 1 0 n)] [(mK2, Blk.row 2 [PV.agg [PV.bool s, PV.sl f (dv a)]] false), (mK3, Blk.row 2 [PV.agg [PV.bool t, PV.sl g (dv b)]] false), (mK4, Blk.row 2 [PV.agg [PV.bool false, PV.sl true []]] false), (mK5, Blk.row 1 (dv o) false)] st' :=
  Ev.walkH (fl := flg [(3,0,.bit)]) (n := 50) (tr := [.bit false]) [2, 3, 4, 5] [mK2, mK3, mK4, mK5] (ex := Ex.exit 0) (vs := [PV.ptr ([], 2, 0) 2 0 0, PV.ptr ([], 3, 0) 2 0 0, PV.ptr ([], 4, 0) 2 0 0, PV.ms ([], 18, 0) 1 0 n]) (bs := [Blk.row 2 [PV.agg [PV.bool s, PV.sl f (dv a)]] false, Blk.row 2 [PV.agg [PV.bool t, PV.sl g (dv b)]] false, Blk.row 2 [PV.agg [PV.bool false, PV.sl true []]] false, Blk.row 1 (dv o) false]) hs (fun R B C => by kernel_rfl) ho
theorem m_row {f g s t : Bool} {a b o : List Nat} {n k : Nat} {h : Int} {O : Orc} {st : St} (hs : HasK ((20, .sl f (dv a)) :: (21, .int .i64 h) :: (22, .int .i64 (k : Int)) :: mTs n) (mBs f g s t a b o) st) (ho : decide ((↑k : Int) < h) = true ∧ True) : ∃ st', Ev (mC) O (.seq (seqL mL) (seqL (seqR mL))) st (Ex.normal) st' ∧ HasK [(20, PV.sl f (dv a)), (21, PV.int IntKind.i64 h), (22, PV.int IntKind.i64 (↑k : Int)), (2, PV.ptr ([], 2, 0) 2 0 0), (3, PV.ptr ([], 3, 0) 2 0 0), (4, PV.ptr ([], 4, 0) 2 0 0), (5, PV.ms ([], 18, 0) 1 0 n)] [(mK2, Blk.row 2 [PV.agg [PV.bool s, PV.sl f (dv a)]] false), (mK3, Blk.row 2 [PV.agg [PV.bool t, PV.sl g (dv b)]] false), (mK4, Blk.row 2 [PV.agg [PV.bool false, PV.sl true []]] false), (mK5, Blk.row 1 (dv o) false)] st' :=
  Ev.walkH (fl := flg [(3,0,.bit)]) (n := 50) (tr := [.bit true]) [20, 21, 22, 2, 3, 4, 5] [mK2, mK3, mK4, mK5] (ex := Ex.normal) (vs := [PV.sl f (dv a), PV.int IntKind.i64 h, PV.int IntKind.i64 (↑k : Int), PV.ptr ([], 2, 0) 2 0 0, PV.ptr ([], 3, 0) 2 0 0, PV.ptr ([], 4, 0) 2 0 0, PV.ms ([], 18, 0) 1 0 n]) (bs := [Blk.row 2 [PV.agg [PV.bool s, PV.sl f (dv a)]] false, Blk.row 2 [PV.agg [PV.bool t, PV.sl g (dv b)]] false, Blk.row 2 [PV.agg [PV.bool false, PV.sl true []]] false, Blk.row 1 (dv o) false]) hs (fun R B C => by kernel_rfl) ho
theorem m_row2 {f g s t : Bool} {a b o : List Nat} {n k x : Nat} {h : Int} {O : Orc} {st : St} (hs : HasK ((20, .sl f (dv a)) :: (21, .int .i64 h) :: (22, .int .i64 (k : Int)) :: mTs n) (mBs f g s t a b o) st) (ho : ((0 : Int) ≤ (↑k : Int) ∧ (dv a)[(↑k : Int).toNat]? = some (PV.int IntKind.u32 (↑x : Int))) ∧ True) : ∃ st', Ev (mC) O (.seq (seqL mS) (.seq (seqL (seqR mS)) (seqL (seqL mS2)))) st (Ex.normal) st' ∧ HasK [(6, PV.int IntKind.i64 (↑k : Int)), (7, PV.int IntKind.u32 (↑x : Int)), (8, PV.int IntKind.u64 (0 : Int)), (28, PV.sl g (dv b)), (29, PV.int IntKind.i64 (↑(dv b).length : Int)), (30, PV.int IntKind.i64 (0 : Int)), (20, PV.sl f (dv a)), (21, PV.int IntKind.i64 h), (22, PV.int IntKind.i64 (↑k : Int)), (2, PV.ptr ([], 2, 0) 2 0 0), (3, PV.ptr ([], 3, 0) 2 0 0), (4, PV.ptr ([], 4, 0) 2 0 0), (5, PV.ms ([], 18, 0) 1 0 n)] [(mK2, Blk.row 2 [PV.agg [PV.bool s, PV.sl f (dv a)]] false), (mK3, Blk.row 2 [PV.agg [PV.bool t, PV.sl g (dv b)]] false), (mK4, Blk.row 2 [PV.agg [PV.bool false, PV.sl true []]] false), (mK5, Blk.row 1 (dv o) false)] st' :=
  Ev.walkH (fl := flg [(4,1,.elem)]) (n := 50) (tr := [.val (u32 (x : Int))]) [6, 7, 8, 28, 29, 30, 20, 21, 22, 2, 3, 4, 5] [mK2, mK3, mK4, mK5] (ex := Ex.normal) (vs := [PV.int IntKind.i64 (↑k : Int), PV.int IntKind.u32 (↑x : Int), PV.int IntKind.u64 (0 : Int), PV.sl g (dv b), PV.int IntKind.i64 (↑(dv b).length : Int), PV.int IntKind.i64 (0 : Int), PV.sl f (dv a), PV.int IntKind.i64 h, PV.int IntKind.i64 (↑k : Int), PV.ptr ([], 2, 0) 2 0 0, PV.ptr ([], 3, 0) 2 0 0, PV.ptr ([], 4, 0) 2 0 0, PV.ms ([], 18, 0) 1 0 n]) (bs := [Blk.row 2 [PV.agg [PV.bool s, PV.sl f (dv a)]] false, Blk.row 2 [PV.agg [PV.bool t, PV.sl g (dv b)]] false, Blk.row 2 [PV.agg [PV.bool false, PV.sl true []]] false, Blk.row 1 (dv o) false]) hs (fun R B C => by kernel_rfl) ho
abbrev mTi (f g : Bool) (a b : List Nat) (n k x j c : Nat) (h e : Int) : List (Nat × PV) := (6, .int .i64 (k : Int)) :: (7, u32 (x : Int)) :: (8, .int .u64 (c : Int)) :: (28, .sl g (dv b)) :: (29, .int .i64 e) :: (30, .int .i64 (j : Int)) :: (20, .sl f (dv a)) :: (21, .int .i64 h) :: (22, .int .i64 (k : Int)) :: mTs n
theorem i_end {f g s t : Bool} {a b o : List Nat} {n k x j c : Nat} {h e : Int} {O : Orc} {st : St} (hs : HasK (mTi f g a b n k x j c h e) (mBs f g s t a b o) st) (ho : decide ((↑j : Int) < e) = false ∧ True) : ∃ st', Ev (mC) O (mI) st (Ex.exit 2) st' ∧ HasK [(6, PV.int IntKind.i64 (↑k : Int)), (7, PV.int IntKind.u32 (↑x : Int)), (8, PV.int IntKind.u64 (↑c : Int)), (20, PV.sl f (dv a)), (21, PV.int IntKind.i64 h), (22, PV.int IntKind.i64 (↑k : Int)), (2, PV.ptr ([], 2, 0) 2 0 0), (3, PV.ptr ([], 3, 0) 2 0 0), (4, PV.ptr ([], 4, 0) 2 0 0), (5, PV.ms ([], 18, 0) 1 0 n)] [(mK2, Blk.row 2 [PV.agg [PV.bool s, PV.sl f (dv a)]] false), (mK3, Blk.row 2 [PV.agg [PV.bool t, PV.sl g (dv b)]] false), (mK4, Blk.row 2 [PV.agg [PV.bool false, PV.sl true []]] false), (mK5, Blk.row 1 (dv o) false)] st' :=
  Ev.walkH (fl := flg [(7,0,.bit)]) (n := 50) (tr := [.bit false]) [6, 7, 8, 20, 21, 22, 2, 3, 4, 5] [mK2, mK3, mK4, mK5] (ex := Ex.exit 2) (vs := [PV.int IntKind.i64 (↑k : Int), PV.int IntKind.u32 (↑x : Int), PV.int IntKind.u64 (↑c : Int), PV.sl f (dv a), PV.int IntKind.i64 h, PV.int IntKind.i64 (↑k : Int), PV.ptr ([], 2, 0) 2 0 0, PV.ptr ([], 3, 0) 2 0 0, PV.ptr ([], 4, 0) 2 0 0, PV.ms ([], 18, 0) 1 0 n]) (bs := [Blk.row 2 [PV.agg [PV.bool s, PV.sl f (dv a)]] false, Blk.row 2 [PV.agg [PV.bool t, PV.sl g (dv b)]] false, Blk.row 2 [PV.agg [PV.bool false, PV.sl true []]] false, Blk.row 1 (dv o) false]) hs (fun R B C => by kernel_rfl) ho
theorem i_go {f g s t : Bool} {a b o : List Nat} {n k x j c y z w v : Nat} {h e : Int} {O : Orc} {st : St} (hs : HasK (mTi f g a b n k x j c h e) (mBs f g s t a b o) st) (ho : some (PV.int IntKind.u64 ((↑(c + (x * y + z)) : Int).fdiv (4294967296 : Int))) = some (PV.int IntKind.u64 (↑v : Int)) ∧ (dv o)[0 + (↑(k + j) : Int).toNat]? = some (PV.int IntKind.u32 (↑z : Int)) ∧ ((0 : Int) ≤ (↑(k + j) : Int) ∧ (↑(k + j) : Int) < (↑n : Int)) ∧ some (PV.int IntKind.u32 (IntKind.u32.wrap (↑(c + (x * y + z)) : Int))) = some (PV.int IntKind.u32 (↑w : Int)) ∧ some (PV.int IntKind.i64 (IntKind.i64.wrap ((↑k : Int) + (↑j : Int)))) = some (PV.int IntKind.i64 (↑(k + j) : Int)) ∧ some (PV.int IntKind.u64 (IntKind.u64.wrap ((↑c : Int) + IntKind.u64.wrap (IntKind.u64.wrap ((↑x : Int) * (↑y : Int)) + (↑z : Int))))) = some (PV.int IntKind.u64 (↑(c + (x * y + z)) : Int)) ∧ some (PV.int IntKind.u64 (IntKind.u64.wrap (↑z : Int))) = some (PV.int IntKind.u64 (↑z : Int)) ∧ (dv o)[0 + (↑(k + j) : Int).toNat]? = some (PV.int IntKind.u32 (↑z : Int)) ∧ ((0 : Int) ≤ (↑(k + j) : Int) ∧ (↑(k + j) : Int) < (↑n : Int)) ∧ some (PV.int IntKind.i64 (IntKind.i64.wrap ((↑k : Int) + (↑j : Int)))) = some (PV.int IntKind.i64 (↑(k + j) : Int)) ∧ some (PV.int IntKind.u64 (IntKind.u64.wrap (↑y : Int))) = some (PV.int IntKind.u64 (↑y : Int)) ∧ some (PV.int IntKind.u64 (IntKind.u64.wrap (↑x : Int))) = some (PV.int IntKind.u64 (↑x : Int)) ∧ ((0 : Int) ≤ (↑j : Int) ∧ (dv b)[(↑j : Int).toNat]? = some (PV.int IntKind.u32 (↑y : Int))) ∧ decide ((↑j : Int) < e) = true ∧ True) : ∃ st', Ev (mC) O (mI) st (Ex.normal) st' ∧ HasK [(6, PV.int IntKind.i64 (↑k : Int)), (7, PV.int IntKind.u32 (↑x : Int)), (8, PV.int IntKind.u64 (↑v : Int)), (28, PV.sl g (dv b)), (29, PV.int IntKind.i64 e), (30, PV.int IntKind.i64 (IntKind.i64.wrap ((↑j : Int) + (1 : Int)))), (20, PV.sl f (dv a)), (21, PV.int IntKind.i64 h), (22, PV.int IntKind.i64 (↑k : Int)), (2, PV.ptr ([], 2, 0) 2 0 0), (3, PV.ptr ([], 3, 0) 2 0 0), (4, PV.ptr ([], 4, 0) 2 0 0), (5, PV.ms ([], 18, 0) 1 0 n)] [(mK2, Blk.row 2 [PV.agg [PV.bool s, PV.sl f (dv a)]] false), (mK3, Blk.row 2 [PV.agg [PV.bool t, PV.sl g (dv b)]] false), (mK4, Blk.row 2 [PV.agg [PV.bool false, PV.sl true []]] false), (mK5, Blk.row 1 ((dv o).set (0 + (↑(k + j) : Int).toNat) (PV.int IntKind.u32 (↑w : Int))) false)] st' :=
  Ev.walkH (fl := flg [(7,0,.bit),(8,1,.elem),(9,2,.val),(9,4,.val),(9,9,.val),(9,10,.elem),(9,11,.get),(9,12,.val),(9,14,.val),(10,3,.val),(10,5,.val),(10,6,.elem),(10,7,.put),(11,1,.val)]) (n := 50) (tr := [.bit true, .val (u32 (y : Int)), .val (.int .u64 (x : Int)), .val (.int .u64 (y : Int)), .val (.int .i64 ((k + j : Nat) : Int)), .val .junk, .val (u32 (z : Int)), .val (.int .u64 (z : Int)), .val (.int .u64 ((c + (x * y + z) : Nat) : Int)), .val (.int .i64 ((k + j : Nat) : Int)), .val (u32 (w : Int)), .val .junk, .val (u32 (z : Int)), .val (.int .u64 (v : Int))]) [6, 7, 8, 28, 29, 30, 20, 21, 22, 2, 3, 4, 5] [mK2, mK3, mK4, mK5] (ex := Ex.normal) (vs := [PV.int IntKind.i64 (↑k : Int), PV.int IntKind.u32 (↑x : Int), PV.int IntKind.u64 (↑v : Int), PV.sl g (dv b), PV.int IntKind.i64 e, PV.int IntKind.i64 (IntKind.i64.wrap ((↑j : Int) + (1 : Int))), PV.sl f (dv a), PV.int IntKind.i64 h, PV.int IntKind.i64 (↑k : Int), PV.ptr ([], 2, 0) 2 0 0, PV.ptr ([], 3, 0) 2 0 0, PV.ptr ([], 4, 0) 2 0 0, PV.ms ([], 18, 0) 1 0 n]) (bs := [Blk.row 2 [PV.agg [PV.bool s, PV.sl f (dv a)]] false, Blk.row 2 [PV.agg [PV.bool t, PV.sl g (dv b)]] false, Blk.row 2 [PV.agg [PV.bool false, PV.sl true []]] false, Blk.row 1 ((dv o).set (0 + (↑(k + j) : Int).toNat) (PV.int IntKind.u32 (↑w : Int))) false]) hs (fun R B C => by kernel_rfl) ho
theorem m_nx {f g s t : Bool} {a b o : List Nat} {n k x c z : Nat} {h : Int} {O : Orc} {st : St} (hs : HasK ((6, .int .i64 (k : Int)) :: (7, u32 (x : Int)) :: (8, .int .u64 (c : Int)) :: (20, .sl f (dv a)) :: (21, .int .i64 h) :: (22, .int .i64 (k : Int)) :: mTs n) (mBs f g s t a b o) st) (ho : (dv o)[0 + (↑(k + b.length) : Int).toNat]? = some (PV.int IntKind.u32 (↑z : Int)) ∧ ((0 : Int) ≤ (↑(k + b.length) : Int) ∧ (↑(k + b.length) : Int) < (↑n : Int)) ∧ some (PV.int IntKind.u32 (IntKind.u32.wrap (↑c : Int))) = some (PV.int IntKind.u32 (↑c : Int)) ∧ some (PV.int IntKind.i64 (IntKind.i64.wrap ((↑k : Int) + (↑(dv b).length : Int)))) = some (PV.int IntKind.i64 (↑(k + b.length) : Int)) ∧ True) : ∃ st', Ev (mC) O (seqR mS2) st (Ex.normal) st' ∧ HasK [(20, PV.sl f (dv a)), (21, PV.int IntKind.i64 h), (22, PV.int IntKind.i64 (↑k : Int)), (2, PV.ptr ([], 2, 0) 2 0 0), (3, PV.ptr ([], 3, 0) 2 0 0), (4, PV.ptr ([], 4, 0) 2 0 0), (5, PV.ms ([], 18, 0) 1 0 n)] [(mK2, Blk.row 2 [PV.agg [PV.bool s, PV.sl f (dv a)]] false), (mK3, Blk.row 2 [PV.agg [PV.bool t, PV.sl g (dv b)]] false), (mK4, Blk.row 2 [PV.agg [PV.bool false, PV.sl true []]] false), (mK5, Blk.row 1 ((dv o).set (0 + (↑(k + b.length) : Int).toNat) (PV.int IntKind.u32 (↑c : Int))) false)] st' :=
  Ev.walkH (fl := flg [(13,5,.val),(13,7,.val),(13,8,.elem),(13,9,.put)]) (n := 50) (tr := [.val (.int .i64 ((k + b.length : Nat) : Int)), .val (u32 (c : Int)), .val .junk, .val (u32 (z : Int))]) [20, 21, 22, 2, 3, 4, 5] [mK2, mK3, mK4, mK5] (ex := Ex.normal) (vs := [PV.sl f (dv a), PV.int IntKind.i64 h, PV.int IntKind.i64 (↑k : Int), PV.ptr ([], 2, 0) 2 0 0, PV.ptr ([], 3, 0) 2 0 0, PV.ptr ([], 4, 0) 2 0 0, PV.ms ([], 18, 0) 1 0 n]) (bs := [Blk.row 2 [PV.agg [PV.bool s, PV.sl f (dv a)]] false, Blk.row 2 [PV.agg [PV.bool t, PV.sl g (dv b)]] false, Blk.row 2 [PV.agg [PV.bool false, PV.sl true []]] false, Blk.row 1 ((dv o).set (0 + (↑(k + b.length) : Int).toNat) (PV.int IntKind.u32 (↑c : Int))) false]) hs (fun R B C => by kernel_rfl) ho
theorem m_nx2 {f g s t : Bool} {a b o : List Nat} {n k : Nat} {h : Int} {O : Orc} {st : St} (hs : HasK ((20, .sl f (dv a)) :: (21, .int .i64 h) :: (22, .int .i64 (k : Int)) :: mTs n) (mBs f g s t a b o) st) (ho : True) : ∃ st', Ev (mC) O (seqR (seqR (seqR mL))) st (Ex.normal) st' ∧ HasK [(20, PV.sl f (dv a)), (21, PV.int IntKind.i64 h), (22, PV.int IntKind.i64 (IntKind.i64.wrap ((↑k : Int) + (1 : Int)))), (2, PV.ptr ([], 2, 0) 2 0 0), (3, PV.ptr ([], 3, 0) 2 0 0), (4, PV.ptr ([], 4, 0) 2 0 0), (5, PV.ms ([], 18, 0) 1 0 n)] [(mK2, Blk.row 2 [PV.agg [PV.bool s, PV.sl f (dv a)]] false), (mK3, Blk.row 2 [PV.agg [PV.bool t, PV.sl g (dv b)]] false), (mK4, Blk.row 2 [PV.agg [PV.bool false, PV.sl true []]] false), (mK5, Blk.row 1 (dv o) false)] st' :=
  Ev.walkH (fl := flg []) (n := 50) (tr := []) [20, 21, 22, 2, 3, 4, 5] [mK2, mK3, mK4, mK5] (ex := Ex.normal) (vs := [PV.sl f (dv a), PV.int IntKind.i64 h, PV.int IntKind.i64 (IntKind.i64.wrap ((↑k : Int) + (1 : Int))), PV.ptr ([], 2, 0) 2 0 0, PV.ptr ([], 3, 0) 2 0 0, PV.ptr ([], 4, 0) 2 0 0, PV.ms ([], 18, 0) 1 0 n]) (bs := [Blk.row 2 [PV.agg [PV.bool s, PV.sl f (dv a)]] false, Blk.row 2 [PV.agg [PV.bool t, PV.sl g (dv b)]] false, Blk.row 2 [PV.agg [PV.bool false, PV.sl true []]] false, Blk.row 1 (dv o) false]) hs (fun R B C => by kernel_rfl) ho
theorem m_out {f g s t u c : Bool} {a b o q : List Nat} {n : Nat} {O : Orc} {st : St} (hs : HasK (mTs n) (mBs f g s t a b o) st) (ho : (((PV.bool (s != t)).pers = true ∧ (n = (dv o).length ∧ PV.persL (dv o) = true ∧ allSz 1 (dv o) = true) ∧ True) ∧ (if (PV.agg [PV.bool c, PV.sl u (dv q)]).flat = true then ([] : List Key) else [] ++ ((if n = 0 then [] else [([], 18, 0)]) ++ [])) = [] ∧ O.pure 57 [PV.bool (s != t), PV.sl false (dv o)] = some (PV.agg [PV.bool c, PV.sl u (dv q)])) ∧ True) : ∃ st', Ev (mC) O (seqR mT) st (Ex.ret) st' ∧ HasK [(4, PV.ptr ([], 4, 0) 2 0 0)] [(mK4, Blk.row 2 [PV.agg [PV.bool c, PV.sl u (dv q)]] false)] st' :=
  Ev.walkH (fl := flg [(15,6,.rows)]) (n := 50) (tr := [.res [] [] (.agg [.bool c, .sl u (dv q)])]) [4] [mK4] (ex := Ex.ret) (vs := [PV.ptr ([], 4, 0) 2 0 0]) (bs := [Blk.row 2 [PV.agg [PV.bool c, PV.sl u (dv q)]] false]) hs (fun R B C => by kernel_rfl) ho
theorem m_out1 {f g s t u c : Bool} {a b o q : List Nat} {n : Nat} {O : Orc} {st : St} (hs : HasK (mTs n) (mBs f g s t a b o) st) (ho : (((PV.bool (s != t)).pers = true ∧ (n = (dv o).length ∧ PV.persL (dv o) = true ∧ allSz 1 (dv o) = true) ∧ True) ∧ (if (PV.agg [PV.bool c, PV.sl u (dv q)]).flat = true then ([] : List Key) else [] ++ ((if n = 0 then [] else [([], 18, 0)]) ++ [])) = [([], 18, 0)] ∧ O.pure 57 [PV.bool (s != t), PV.sl false (dv o)] = some (PV.agg [PV.bool c, PV.sl u (dv q)])) ∧ True) : ∃ st', Ev (mC) O (seqR mT) st (Ex.ret) st' ∧ HasK [(4, PV.ptr ([], 4, 0) 2 0 0)] [(mK4, Blk.row 2 [PV.agg [PV.bool c, PV.sl u (dv q)]] false)] st' :=
  Ev.walkH (fl := flg [(15,6,.rows)]) (n := 50) (tr := [.res [] [mK5] (.agg [.bool c, .sl u (dv q)])]) [4] [mK4] (ex := Ex.ret) (vs := [PV.ptr ([], 4, 0) 2 0 0]) (bs := [Blk.row 2 [PV.agg [PV.bool c, PV.sl u (dv q)]] false]) hs (fun R B C => by kernel_rfl) ho
theorem val_set : ∀ {l : List Nat} {i z : Nat} (w : Nat), l[i]? = some z → val (l.set i w) + z * BB ^ i = val l + w * BB ^ i
  | [], i, z, w, h => by simp at h
  | d :: l, 0, z, w, h => by
    simp at h; subst h
    simp only [List.set_cons_zero, val, Nat.pow_zero, Nat.mul_one]; omega
  | d :: l, i + 1, z, w, h => by
    simp at h
    have ih := val_set w h
    simp only [List.set_cons_succ, val, Nat.pow_succ]
    grind
theorem dig_set {l : List Nat} {i w : Nat} (h : Dig l) (hw : w < BB) : Dig (l.set i w) := by
  intro z hz
  rcases List.mem_or_eq_of_mem_set hz with g | rfl
  · exact h z g
  · exact hw
theorem get_set_ne {l : List Nat} {i k w : Nat} (h : i ≠ k) : (l.set k w)[i]? = l[i]? := by
  rw [List.getElem?_set_ne (by omega)]

theorem i_loop {O : Orc} {f g s t : Bool} {a b : List Nat} {n k x : Nat} {h : Int} (hb : Dig b) (hx : x < BB) (hkn : k + b.length ≤ n) (hn : n < 2 ^ 40) : ∀ (r j : Nat), j + r = b.length → ∀ (o : List Nat) (c : Nat), o.length = n → Dig o → c < BB →
    ∀ {st : St}, HasK (mTi f g a b n k x j c h b.length) (mBs f g s t a b o) st → ∃ st' o' c', Ev mC O (.loop mI) st (.exit 2) st' ∧ o'.length = n ∧ Dig o' ∧ c' < BB ∧
      val o' + c' * BB ^ (k + b.length) = val o + c * BB ^ (k + j) + x * val (b.drop j) * BB ^ (k + j) ∧ (∀ i, k + b.length ≤ i → o'[i]? = o[i]?) ∧
      HasK ((6, .int .i64 (k : Int)) :: (7, u32 (x : Int)) :: (8, .int .u64 (c' : Int)) :: (20, .sl f (dv a)) :: (21, .int .i64 h) :: (22, .int .i64 (k : Int)) :: mTs n) (mBs f g s t a b o') st'
  | 0, j, hj, o, c, ho, hdo, hc, st, hs => by
    obtain ⟨st', e, h'⟩ := i_end (O := O) hs ⟨by simp; omega, trivial⟩
    have hj' : j = b.length := by omega
    subst hj'
    exact ⟨st', o, c, e.loop_stop (by intro q; cases q), ho, hdo, hc, by simp [val], fun i hi => rfl, h'⟩
  | r + 1, j, hj, o, c, ho, hdo, hc, st, hs => by
    have hjb : j < b.length := by omega
    have hy : b[j]? = some b[j] := List.getElem?_eq_getElem hjb
    have hyd : b[j] < BB := hb _ (List.getElem_mem hjb)
    have hz : o[k + j]? = some (o[k + j]'(by omega)) := List.getElem?_eq_getElem (by omega)
    have hzd : o[k + j]'(by omega) < BB := hdo _ (List.getElem_mem _)
    have hdrop : val (b.drop j) = b[j] + BB * val (b.drop (j + 1)) := by rw [drop_cons_val hy]; rfl
    generalize b[j] = y at hy hyd hdrop
    generalize o[k + j]'(by omega) = z at hz hzd
    have hxy : x * y ≤ (BB - 1) * (BB - 1) := Nat.mul_le_mul (by omega) (by omega)
    have hxy' : x * y ≤ 18446744065119617025 := hxy
    have hc' : c < 4294967296 := hc
    have hy' : y < 4294967296 := hyd
    have hz' : z < 4294967296 := hzd
    have hx' : x < 4294967296 := hx
    generalize hT : c + (x * y + z) = T
    have hTlt : T < 18446744073709551616 := by omega
    have hv : T / 4294967296 < 4294967296 := by omega
    have hw : T % 4294967296 < 4294967296 := Nat.mod_lt _ (by decide)
    have hcast : ((x * y : Nat) : Int) = (x : Int) * (y : Int) := Int.natCast_mul x y
    obtain ⟨st1, e1, h1⟩ := i_go (O := O) (y := y) (z := z) (w := T % 4294967296) (v := T / 4294967296) hs
      ⟨by rw [hT, Int.fdiv_eq_ediv_of_nonneg _ (by omega)]; rfl, by rw [Int.toNat_natCast, Nat.zero_add, getD', hz]; rfl, ⟨by omega, by omega⟩, by rw [hT, wrapW]; rfl, by rw [wrapI (by omega) (by omega)]; rfl,
        by rw [hT, ← hcast, wrapU (n := ((x * y : Nat) : Int)) (by omega) (by omega), wrapU (n := ((x * y : Nat) : Int) + (z : Int)) (by omega) (by omega), wrapU (by omega) (by omega)]; congr 2; omega,
        by rw [wrapU (by omega) (by omega)], by rw [Int.toNat_natCast, Nat.zero_add, getD', hz]; rfl, ⟨by omega, by omega⟩, by rw [wrapI (by omega) (by omega)]; rfl, by rw [wrapU (by omega) (by omega)], by rw [wrapU (by omega) (by omega)],
        ⟨by omega, by rw [Int.toNat_natCast, getD', hy]; rfl⟩, by simp; omega, trivial⟩
    rw [Int.toNat_natCast, Nat.zero_add, wrap_k (by omega)] at h1
    have hset : (dv o).set (k + j) (PV.int .u32 ((T % 4294967296 : Nat) : Int)) = dv (o.set (k + j) (T % 4294967296)) := setD o (k + j) _
    rw [hset] at h1
    obtain ⟨st', o', c', g1, g2, g3, g4, g5, g6, g7⟩ := i_loop hb hx hkn hn r (j + 1) (by omega) (o.set (k + j) (T % 4294967296)) (T / 4294967296) (by simp [ho]) (dig_set hdo hw) hv h1
    refine ⟨st', o', c', e1.loop g1, g2, g3, g4, ?_, fun i hi => by rw [g6 i hi, get_set_ne (by omega)], g7⟩
    rw [g5, hdrop]
    have h2 := val_set (T % 4294967296) hz
    have h3 : T % 4294967296 + 4294967296 * (T / 4294967296) = c + x * y + z := by rw [Nat.mod_add_div]; omega
    have h4 : BB ^ (k + (j + 1)) = BB ^ (k + j) * BB := by rw [← Nat.add_assoc, Nat.pow_succ]
    rw [h4]
    generalize BB ^ (k + j) = P at h2 ⊢
    generalize val (b.drop (j + 1)) = D
    generalize T % 4294967296 = w at h2 h3 ⊢
    generalize T / 4294967296 = v at h3 ⊢
    generalize val (o.set (k + j) w) = o1 at h2 ⊢
    generalize val o = o2 at h2 ⊢
    simp only [BB]
    grind

theorem m_loop {O : Orc} {f g s t : Bool} {a b : List Nat} {n : Nat} (ha : Dig a) (hb : Dig b) (hkn : n = a.length + b.length) (hn : n < 2 ^ 40) : ∀ (r k : Nat), k + r = a.length → ∀ (o : List Nat), o.length = n → Dig o → (∀ i, k + b.length ≤ i → i < n → o[i]? = some 0) →
    ∀ {st : St}, HasK ((20, .sl f (dv a)) :: (21, .int .i64 (a.length : Int)) :: (22, .int .i64 (k : Int)) :: mTs n) (mBs f g s t a b o) st → ∃ st' o', Ev mC O (.loop mL) st (.exit 0) st' ∧ o'.length = n ∧ Dig o' ∧
      val o' = val o + val (a.drop k) * val b * BB ^ k ∧ HasK (mTs n) (mBs f g s t a b o') st'
  | 0, k, hk, o, ho, hdo, hz, st, hs => by
    obtain ⟨st', e, h'⟩ := m_end (O := O) hs ⟨by simp; omega, trivial⟩
    have hk' : k = a.length := by omega
    subst hk'
    exact ⟨st', o, e.loop_stop (by intro q; cases q), ho, hdo, by simp [val], h'⟩
  | r + 1, k, hk, o, ho, hdo, hz, st, hs => by
    have hka : k < a.length := by omega
    have hx : a[k]? = some a[k] := List.getElem?_eq_getElem hka
    have hxd : a[k] < BB := ha _ (List.getElem_mem hka)
    have hdrop : val (a.drop k) = a[k] + BB * val (a.drop (k + 1)) := by rw [drop_cons_val hx]; rfl
    generalize a[k] = x at hx hxd hdrop
    obtain ⟨st1, e1, h1⟩ := m_row (O := O) hs ⟨by simp; omega, trivial⟩
    obtain ⟨st2, e2, h2⟩ := m_row2 (O := O) (x := x) h1 ⟨⟨by omega, by rw [Int.toNat_natCast, getD', hx]; rfl⟩, trivial⟩
    rw [lenD] at h2
    obtain ⟨st3, o3, c3, e3, i1, i2, i3, i4, i5, h3⟩ := i_loop (O := O) hb hxd (by omega) hn b.length 0 (by omega) o 0 ho hdo (by decide) h2
    have hz3 : o3[k + b.length]? = some 0 := by rw [i5 _ (by omega)]; exact hz _ (by omega) (by omega)
    have hc3 : c3 < 4294967296 := i3
    obtain ⟨st4, e4, h4⟩ := m_nx (O := O) (z := 0) h3 ⟨by rw [Int.toNat_natCast, Nat.zero_add, getD', hz3]; rfl, ⟨by omega, by omega⟩, by rw [wrapW]; congr 2; omega, by rw [lenD, wrapI (by omega) (by omega)]; rfl, trivial⟩
    rw [Int.toNat_natCast, Nat.zero_add] at h4
    have hset : (dv o3).set (k + b.length) (PV.int .u32 (c3 : Int)) = dv (o3.set (k + b.length) c3) := setD o3 _ _
    rw [hset] at h4
    obtain ⟨st5, e5, h5⟩ := m_nx2 (O := O) h4 trivial
    rw [wrap_k (by omega)] at h5
    obtain ⟨st', o', e6, j1, j2, j3, h6⟩ := m_loop ha hb hkn hn r (k + 1) (by omega) (o3.set (k + b.length) c3) (by simp [i1]) (dig_set i2 i3) (fun i hi hin => by
      rw [get_set_ne (by omega), i5 i (by omega)]; exact hz i (by omega) hin) h5
    have eS : Ev mC O mS st1 .normal st4 := Ev.as mS_eq (Ev.go3 e2 e3.block e4)
    refine ⟨st', o', (Ev.as mL_eq (Ev.go e1 ((Ev.block_n eS).seq e5))).loop e6, j1, j2, ?_, h6⟩
    rw [j3, hdrop]
    have h7 := val_set c3 hz3
    rw [Nat.zero_mul, Nat.add_zero] at h7
    rw [h7, i4, List.drop_zero, Nat.add_zero, Nat.zero_mul, Nat.add_zero, Nat.pow_succ]
    generalize BB ^ k = P
    generalize val (a.drop (k + 1)) = D
    generalize val b = B
    generalize val o = o2
    generalize BB = M
    grind

theorem known_imul {f g : Bool} {a b : Int} (ha : Ok a) (hb : Ok b) : ∃ p, Known 36 [iv f a, iv g b] (iv p (a * b)) := by
  have la := ha.len
  have lb := hb.len
  generalize hA : digs a.natAbs = da at la
  generalize hB : digs b.natAbs = db at lb
  have hda : Dig da := hA ▸ dig_digs _
  have hdb : Dig db := hB ▸ dig_digs _
  have hva : val da = a.natAbs := by rw [← hA, val_digs]
  have hvb : val db = b.natAbs := by rw [← hB, val_digs]
  have hlt : val da * val db < BB ^ (da.length + db.length) := by
    rw [Nat.pow_add]
    exact Nat.mul_lt_mul'' (val_lt hda) (val_lt hdb)
  have ks := known_signed (b := (decide (a < 0) != decide (b < 0))) (f := false) (l := pad (da.length + db.length) (val da * val db)) (pad_dig _ _) (by rw [pad_len]; omega)
  rw [pad_val hlt, hva, hvb, ← Int.natAbs_mul] at ks
  have e1 : (if (decide (a < 0) != decide (b < 0)) = true then -((a * b).natAbs : Int) else ((a * b).natAbs : Int)) = a * b := by
    by_cases h0 : a = 0
    · subst h0; simp
    by_cases h0' : b = 0
    · subst h0'; simp
    by_cases h1 : a < 0
    · by_cases h2 : b < 0
      · have := Int.mul_pos_of_neg_of_neg h1 h2
        simp [h1, h2]; omega
      · have := Int.mul_neg_of_neg_of_pos h1 (show 0 < b by omega)
        simp [h1, h2]; omega
    · by_cases h2 : b < 0
      · have := Int.mul_neg_of_pos_of_neg (show 0 < a by omega) h2
        simp [h1, h2]; omega
      · have := Int.mul_pos (show 0 < a by omega) (show 0 < b by omega)
        simp [h1, h2]; omega
  rw [e1] at ks
  generalize hU : trimF false (pad (da.length + db.length) (a * b).natAbs) = u at ks
  refine ⟨u, Known.of ks.deep rfl (fun O hO => ?_)⟩
  unfold iv
  rw [hA, hB]
  obtain ⟨st1, e1, h1⟩ := m_in (O := O) (f := f) (g := g) (s := decide (a < 0)) (t := decide (b < 0)) (a := da) (b := db) ⟨⟨rfl, by rw [lenD, lenD, wrapI (by omega) (by omega)]; omega, by rw [lenD, lenD, wrapI (by omega) (by omega)]; omega, by rw [lenD, lenD, wrapI (by omega) (by omega)]; omega⟩, trivial⟩
  have hw : IntKind.i64.wrap ((da.length : Int) + (db.length : Int)) = ((da.length + db.length : Nat) : Int) := by rw [wrapI (by omega) (by omega)]; omega
  rw [lenD, lenD, hw, Int.toNat_natCast, dv_rep] at h1
  obtain ⟨st2, o, e2, j1, j2, j3, h2⟩ := m_loop (O := O) (f := f) (g := g) (s := decide (a < 0)) (t := decide (b < 0)) hda hdb rfl (by omega) da.length 0 (by omega) (List.replicate (da.length + db.length) 0) (by simp) (fun z hz => by rw [(List.mem_replicate.1 hz).2]; decide) (fun i h1 h2 => by simp [h2]) h1
  have hv0 : val (List.replicate (da.length + db.length) 0) = 0 := by
    generalize da.length + db.length = m
    induction m with
    | zero => rfl
    | succ m ih => simp only [List.replicate_succ, val, ih]; rfl
  rw [hv0, List.drop_zero, Nat.pow_zero, Nat.mul_one, Nat.zero_add] at j3
  have ho := pad_eq j2
  rw [j1, j3] at ho
  rw [hva, hvb, ← Int.natAbs_mul] at ho
  rw [← ho] at hO
  have fin : ∀ st3, Ev mC O (seqR mT) st2 .ret st3 → HasK [(4, .ptr ([], 4, 0) 2 0 0)] [(mK4, .row 2 [iv u (a * b)] false)] st3 → Runs Pr pol O 36 [.agg [.bool (decide (a < 0)), .sl f (dv da)], .agg [.bool (decide (b < 0)), .sl g (dv db)]] (iv u (a * b)) := fun st3 e3 h3 => by
    refine Runs.fin (st := st3) Tryz.func36 (by kernel_rfl) (pers2 (persA ..) (persA ..)) (by rw [Tryz.ntmps36]; exact Nat.le_of_ble_eq_true rfl) rfl (Ev.as mB_eq (Ev.go3 e1 e2.block e3)) (.inr rfl) ?_ (persI ..)
    rw [h3.eq]; unfold iv; kernel_rfl
  by_cases h0 : (a * b) = 0
  · obtain ⟨st3, e3, h3⟩ := m_out (O := O) (u := u) (c := decide (a * b < 0)) (q := digs (a * b).natAbs) h2 ⟨⟨⟨rfl, ⟨by rw [lenD, j1], persD o, szD o⟩, trivial⟩, by rw [h0]; rfl, hO⟩, trivial⟩
    exact fin st3 e3 h3
  · have hf : (PV.agg [PV.bool (decide (a * b < 0)), PV.sl u (dv (digs (a * b).natAbs))]).flat = false := by
      rw [digs_eq (show (a * b).natAbs ≠ 0 by omega)]; rfl
    have hn0 : da.length + db.length ≠ 0 := by
      intro e
      have : da.length = 0 := by omega
      have h5 : da = [] := List.eq_nil_of_length_eq_zero this
      rw [h5] at hva
      have : a = 0 := by simp [val] at hva; omega
      rw [this] at h0; simp at h0
    obtain ⟨st3, e3, h3⟩ := m_out1 (O := O) (u := u) (c := decide (a * b < 0)) (q := digs (a * b).natAbs) h2 ⟨⟨⟨rfl, ⟨by rw [lenD, j1], persD o, szD o⟩, trivial⟩, by rw [hf, if_neg hn0]; rfl, hO⟩, trivial⟩
    exact fin st3 e3 h3
end Go.Proofs.YtigfgicjjhepoaaGreatDoor.VA.Z
set_option linter.unusedVariables false
set_option linter.unusedSimpArgs false
namespace Go.Proofs.YtigfgicjjhepoaaGreatDoor.VA.Z
open Go Go.Proofs

/-! ### From -/
theorem ifrom_p {c u : Bool} {q : List Nat} {n x y : Int} {O : Orc} (hp : PV.persL [.int .i64 n] = true) (hd : PV.pers (PV.agg [PV.bool c, PV.sl u (dv q)]) = true) (ho : PV.persL [PV.bool false, PV.sl true [PV.int IntKind.u32 x, PV.int IntKind.u32 y]] = true ∧ O.pure 57 [PV.bool false, PV.sl true [PV.int IntKind.u32 x, PV.int IntKind.u32 y]] = some (PV.agg [PV.bool c, PV.sl u (dv q)]) ∧ some (PV.int IntKind.u32 (IntKind.u32.wrap (n.fdiv (4294967296 : Int)))) = some (PV.int IntKind.u32 y) ∧ some (PV.int IntKind.u32 (IntKind.u32.wrap n)) = some (PV.int IntKind.u32 x) ∧ decide (n < (0 : Int)) = false ∧ decide (n < (0 : Int)) = false ∧ some (PV.int IntKind.u64 (IntKind.u64.wrap n)) = some (PV.int IntKind.u64 n) ∧ True) : Runs Pr pol O (33) [.int .i64 n] (PV.agg [PV.bool c, PV.sl u (dv q)]) :=
  Runs.go (fl := flg [(1,1,.val),(2,1,.bit),(4,1,.bit),(4,3,.val),(4,6,.val),(4,8,.pers)]) (n := 50) (tr := [.val (.int .u64 n), .bit false, .bit false, .val (u32 x), .val (u32 y), .val (.agg [.bool c, .sl u (dv q)])]) hp (by kernel_rfl) ho hd
theorem ifrom_n {c u : Bool} {q : List Nat} {n m x y k : Int} {O : Orc} (hp : PV.persL [.int .i64 n] = true) (hd : PV.pers (PV.agg [PV.bool c, PV.sl u (dv q)]) = true) (ho : PV.persL [PV.bool true, PV.sl true [PV.int IntKind.u32 x, PV.int IntKind.u32 y]] = true ∧ O.pure 57 [PV.bool true, PV.sl true [PV.int IntKind.u32 x, PV.int IntKind.u32 y]] = some (PV.agg [PV.bool c, PV.sl u (dv q)]) ∧ some (PV.int IntKind.u32 (IntKind.u32.wrap (m.fdiv (4294967296 : Int)))) = some (PV.int IntKind.u32 y) ∧ some (PV.int IntKind.u32 (IntKind.u32.wrap m)) = some (PV.int IntKind.u32 x) ∧ decide (n < (0 : Int)) = true ∧ some (PV.int IntKind.u64 (IntKind.u64.wrap ((0 : Int) - k))) = some (PV.int IntKind.u64 m) ∧ decide (n < (0 : Int)) = true ∧ some (PV.int IntKind.u64 (IntKind.u64.wrap n)) = some (PV.int IntKind.u64 k) ∧ True) : Runs Pr pol O (33) [.int .i64 n] (PV.agg [PV.bool c, PV.sl u (dv q)]) :=
  Runs.go (fl := flg [(1,1,.val),(2,1,.bit),(3,1,.val),(4,1,.bit),(4,3,.val),(4,6,.val),(4,8,.pers)]) (n := 50) (tr := [.val (.int .u64 k), .bit true, .val (.int .u64 m), .bit true, .val (u32 x), .val (u32 y), .val (.agg [.bool c, .sl u (dv q)])]) hp (by kernel_rfl) ho hd
theorem one_w {c u : Bool} {q : List Nat} {O : Orc} (hp : PV.persL [] = true) (hd : PV.pers (PV.agg [PV.bool c, PV.sl u (dv q)]) = true) (ho : PV.persL [PV.int IntKind.i64 (1 : Int)] = true ∧ O.pure 33 [PV.int IntKind.i64 (1 : Int)] = some (PV.agg [PV.bool c, PV.sl u (dv q)]) ∧ True) : Runs Pr pol O (61) [] (PV.agg [PV.bool c, PV.sl u (dv q)]) :=
  Runs.go (fl := flg [(1,0,.pers)]) (n := 50) (tr := [.val (.agg [.bool c, .sl u (dv q)])]) hp (by kernel_rfl) ho hd
theorem rfrom_w {c u : Bool} {q : List Nat} {n : Int} {O : Orc} (hp : PV.persL [.int .i64 n] = true) (hd : PV.pers (PV.agg [PV.bool c, PV.sl u (dv q), PV.bool false, PV.sl true []]) = true) (ho : PV.persL [PV.int IntKind.i64 n] = true ∧ O.pure 33 [PV.int IntKind.i64 n] = some (PV.agg [PV.bool c, PV.sl u (dv q)]) ∧ True) : Runs Pr pol O (16) [.int .i64 n] (PV.agg [PV.bool c, PV.sl u (dv q), PV.bool false, PV.sl true []]) :=
  Runs.go (fl := flg [(1,1,.pers)]) (n := 50) (tr := [.val (.agg [.bool c, .sl u (dv q)])]) hp (by kernel_rfl) ho hd

/-! ### parts of a rational -/
abbrev rp (s f t g : Bool) (a b : List Nat) : PV := .agg [.bool s, .sl f (dv a), .bool t, .sl g (dv b)]
abbrev ip (s f : Bool) (a : List Nat) : PV := .agg [.bool s, .sl f (dv a)]
theorem rsign_w {s f t g : Bool} {a b : List Nat} {n : Int} {O : Orc} (hp : PV.persL [rp s f t g a b] = true) (hd : PV.pers (PV.int IntKind.i64 n) = true) (ho : PV.persL [PV.agg [PV.bool s, PV.sl f (dv a)]] = true ∧ O.pure 58 [PV.agg [PV.bool s, PV.sl f (dv a)]] = some (PV.int IntKind.i64 n) ∧ True) : Runs Pr pol O (34) [rp s f t g a b] (PV.int IntKind.i64 n) :=
  Runs.go (fl := flg [(1,2,.pers)]) (n := 50) (tr := [.val (.int .i64 n)]) hp (by kernel_rfl) ho hd
theorem den_z {s f t g c u : Bool} {a b q : List Nat} {O : Orc} (hp : PV.persL [rp s f t g a b] = true) (hd : PV.pers (PV.agg [PV.bool c, PV.sl u (dv q)]) = true) (ho : PV.persL [] = true ∧ O.pure 61 [] = some (PV.agg [PV.bool c, PV.sl u (dv q)]) ∧ PV.persL [PV.agg [PV.bool t, PV.sl g (dv b)]] = true ∧ O.pure 58 [PV.agg [PV.bool t, PV.sl g (dv b)]] = some (PV.int IntKind.i64 (0 : Int)) ∧ True) : Runs Pr pol O (37) [rp s f t g a b] (PV.agg [PV.bool c, PV.sl u (dv q)]) :=
  Runs.go (fl := flg [(1,2,.pers),(2,0,.pers)]) (n := 50) (tr := [.val (.int .i64 0), .val (ip c u q)]) hp (by kernel_rfl) ho hd
theorem den_n {s f t g : Bool} {a b : List Nat} {n : Int} {O : Orc} (hp : PV.persL [rp s f t g a b] = true) (hd : PV.pers (PV.agg [PV.bool t, PV.sl g (dv b)]) = true) (ho : decide (n = (0 : Int)) = false ∧ PV.persL [PV.agg [PV.bool t, PV.sl g (dv b)]] = true ∧ O.pure 58 [PV.agg [PV.bool t, PV.sl g (dv b)]] = some (PV.int IntKind.i64 n) ∧ True) : Runs Pr pol O (37) [rp s f t g a b] (PV.agg [PV.bool t, PV.sl g (dv b)]) :=
  Runs.go (fl := flg [(1,2,.pers),(1,3,.bit)]) (n := 50) (tr := [.val (.int .i64 n), .bit false]) hp (by kernel_rfl) ho hd
theorem whole_z {s f t g : Bool} {a b : List Nat} {O : Orc} (hp : PV.persL [rp s f t g a b] = true) (hd : PV.pers (PV.bool true) = true) (ho : PV.persL [PV.agg [PV.bool t, PV.sl g (dv b)]] = true ∧ O.pure 58 [PV.agg [PV.bool t, PV.sl g (dv b)]] = some (PV.int IntKind.i64 (0 : Int)) ∧ True) : Runs Pr pol O (45) [rp s f t g a b] (PV.bool true) :=
  Runs.go (fl := flg [(1,2,.pers)]) (n := 50) (tr := [.val (.int .i64 0)]) hp (by kernel_rfl) ho hd
theorem whole_n {s f t g c u z : Bool} {a b q : List Nat} {n m : Int} {O : Orc} (hp : PV.persL [rp s f t g a b] = true) (hd : PV.pers (PV.bool z) = true) (ho : decide (m = (0 : Int)) = z ∧ PV.persL [PV.agg [PV.bool t, PV.sl g (dv b)], PV.agg [PV.bool c, PV.sl u (dv q)]] = true ∧ O.pure 56 [PV.agg [PV.bool t, PV.sl g (dv b)], PV.agg [PV.bool c, PV.sl u (dv q)]] = some (PV.int IntKind.i64 m) ∧ PV.persL [] = true ∧ O.pure 61 [] = some (PV.agg [PV.bool c, PV.sl u (dv q)]) ∧ decide (n = (0 : Int)) = false ∧ PV.persL [PV.agg [PV.bool t, PV.sl g (dv b)]] = true ∧ O.pure 58 [PV.agg [PV.bool t, PV.sl g (dv b)]] = some (PV.int IntKind.i64 n) ∧ True) : Runs Pr pol O (45) [rp s f t g a b] (PV.bool z) :=
  Runs.go (fl := flg [(1,2,.pers),(1,3,.bit),(1,7,.pers),(1,8,.pers),(1,9,.bit)]) (n := 50) (tr := [.val (.int .i64 n), .bit false, .val (ip c u q), .val (.int .i64 m), .bit z]) hp (by kernel_rfl) ho hd

/-! ### Compare -/
theorem rcmp_w {s f t g s' f' t' g' : Bool} {a b a' b' : List Nat} {n : Int} {O : Orc} (hp : PV.persL [rp s f t g a b, rp s' f' t' g' a' b'] = true) (hd : PV.pers (PV.int IntKind.i64 n) = true) (ho : PV.persL [PV.agg [PV.bool s, PV.sl f (dv a)], PV.agg [PV.bool s', PV.sl f' (dv a')]] = true ∧ O.pure 56 [PV.agg [PV.bool s, PV.sl f (dv a)], PV.agg [PV.bool s', PV.sl f' (dv a')]] = some (PV.int IntKind.i64 n) ∧ PV.persL [PV.agg [PV.bool s', PV.sl f' (dv a'), PV.bool t', PV.sl g' (dv b')]] = true ∧ O.pure 45 [PV.agg [PV.bool s', PV.sl f' (dv a'), PV.bool t', PV.sl g' (dv b')]] = some (PV.bool true) ∧ PV.persL [PV.agg [PV.bool s, PV.sl f (dv a), PV.bool t, PV.sl g (dv b)]] = true ∧ O.pure 45 [PV.agg [PV.bool s, PV.sl f (dv a), PV.bool t, PV.sl g (dv b)]] = some (PV.bool true) ∧ True) : Runs Pr pol O (32) [rp s f t g a b, rp s' f' t' g' a' b'] (PV.int IntKind.i64 n) :=
  Runs.go (fl := flg [(1,1,.pers),(1,4,.pers),(2,4,.pers)]) (n := 50) (tr := [.val (.bool true), .val (.bool true), .val (.int .i64 n)]) hp (by kernel_rfl) ho hd
theorem rcmp_1 {s f t g s' f' t' g' c1 u1 c2 u2 c3 u3 c4 u4 : Bool} {a b a' b' q1 q2 q3 q4 : List Nat} {n : Int} {O : Orc} (hp : PV.persL [rp s f t g a b, rp s' f' t' g' a' b'] = true) (hd : PV.pers (PV.int IntKind.i64 n) = true) (ho : PV.persL [PV.agg [PV.bool c2, PV.sl u2 (dv q2)], PV.agg [PV.bool c4, PV.sl u4 (dv q4)]] = true ∧ O.pure 56 [PV.agg [PV.bool c2, PV.sl u2 (dv q2)], PV.agg [PV.bool c4, PV.sl u4 (dv q4)]] = some (PV.int IntKind.i64 n) ∧ PV.persL [PV.agg [PV.bool s', PV.sl f' (dv a')], PV.agg [PV.bool c3, PV.sl u3 (dv q3)]] = true ∧ O.pure 36 [PV.agg [PV.bool s', PV.sl f' (dv a')], PV.agg [PV.bool c3, PV.sl u3 (dv q3)]] = some (PV.agg [PV.bool c4, PV.sl u4 (dv q4)]) ∧ PV.persL [PV.agg [PV.bool s, PV.sl f (dv a), PV.bool t, PV.sl g (dv b)]] = true ∧ O.pure 37 [PV.agg [PV.bool s, PV.sl f (dv a), PV.bool t, PV.sl g (dv b)]] = some (PV.agg [PV.bool c3, PV.sl u3 (dv q3)]) ∧ PV.persL [PV.agg [PV.bool s, PV.sl f (dv a)], PV.agg [PV.bool c1, PV.sl u1 (dv q1)]] = true ∧ O.pure 36 [PV.agg [PV.bool s, PV.sl f (dv a)], PV.agg [PV.bool c1, PV.sl u1 (dv q1)]] = some (PV.agg [PV.bool c2, PV.sl u2 (dv q2)]) ∧ PV.persL [PV.agg [PV.bool s', PV.sl f' (dv a'), PV.bool t', PV.sl g' (dv b')]] = true ∧ O.pure 37 [PV.agg [PV.bool s', PV.sl f' (dv a'), PV.bool t', PV.sl g' (dv b')]] = some (PV.agg [PV.bool c1, PV.sl u1 (dv q1)]) ∧ PV.persL [PV.agg [PV.bool s, PV.sl f (dv a), PV.bool t, PV.sl g (dv b)]] = true ∧ O.pure 45 [PV.agg [PV.bool s, PV.sl f (dv a), PV.bool t, PV.sl g (dv b)]] = some (PV.bool false) ∧ True) : Runs Pr pol O (32) [rp s f t g a b, rp s' f' t' g' a' b'] (PV.int IntKind.i64 n) :=
  Runs.go (fl := flg [(1,1,.pers),(3,3,.pers),(3,4,.pers),(3,8,.pers),(3,9,.pers),(3,10,.pers)]) (n := 50) (tr := [.val (.bool false), .val (ip c1 u1 q1), .val (ip c2 u2 q2), .val (ip c3 u3 q3), .val (ip c4 u4 q4), .val (.int .i64 n)]) hp (by kernel_rfl) ho hd
theorem rcmp_2 {s f t g s' f' t' g' c1 u1 c2 u2 c3 u3 c4 u4 : Bool} {a b a' b' q1 q2 q3 q4 : List Nat} {n : Int} {O : Orc} (hp : PV.persL [rp s f t g a b, rp s' f' t' g' a' b'] = true) (hd : PV.pers (PV.int IntKind.i64 n) = true) (ho : PV.persL [PV.agg [PV.bool c2, PV.sl u2 (dv q2)], PV.agg [PV.bool c4, PV.sl u4 (dv q4)]] = true ∧ O.pure 56 [PV.agg [PV.bool c2, PV.sl u2 (dv q2)], PV.agg [PV.bool c4, PV.sl u4 (dv q4)]] = some (PV.int IntKind.i64 n) ∧ PV.persL [PV.agg [PV.bool s', PV.sl f' (dv a')], PV.agg [PV.bool c3, PV.sl u3 (dv q3)]] = true ∧ O.pure 36 [PV.agg [PV.bool s', PV.sl f' (dv a')], PV.agg [PV.bool c3, PV.sl u3 (dv q3)]] = some (PV.agg [PV.bool c4, PV.sl u4 (dv q4)]) ∧ PV.persL [PV.agg [PV.bool s, PV.sl f (dv a), PV.bool t, PV.sl g (dv b)]] = true ∧ O.pure 37 [PV.agg [PV.bool s, PV.sl f (dv a), PV.bool t, PV.sl g (dv b)]] = some (PV.agg [PV.bool c3, PV.sl u3 (dv q3)]) ∧ PV.persL [PV.agg [PV.bool s, PV.sl f (dv a)], PV.agg [PV.bool c1, PV.sl u1 (dv q1)]] = true ∧ O.pure 36 [PV.agg [PV.bool s, PV.sl f (dv a)], PV.agg [PV.bool c1, PV.sl u1 (dv q1)]] = some (PV.agg [PV.bool c2, PV.sl u2 (dv q2)]) ∧ PV.persL [PV.agg [PV.bool s', PV.sl f' (dv a'), PV.bool t', PV.sl g' (dv b')]] = true ∧ O.pure 37 [PV.agg [PV.bool s', PV.sl f' (dv a'), PV.bool t', PV.sl g' (dv b')]] = some (PV.agg [PV.bool c1, PV.sl u1 (dv q1)]) ∧ PV.persL [PV.agg [PV.bool s', PV.sl f' (dv a'), PV.bool t', PV.sl g' (dv b')]] = true ∧ O.pure 45 [PV.agg [PV.bool s', PV.sl f' (dv a'), PV.bool t', PV.sl g' (dv b')]] = some (PV.bool false) ∧ PV.persL [PV.agg [PV.bool s, PV.sl f (dv a), PV.bool t, PV.sl g (dv b)]] = true ∧ O.pure 45 [PV.agg [PV.bool s, PV.sl f (dv a), PV.bool t, PV.sl g (dv b)]] = some (PV.bool true) ∧ True) : Runs Pr pol O (32) [rp s f t g a b, rp s' f' t' g' a' b'] (PV.int IntKind.i64 n) :=
  Runs.go (fl := flg [(1,1,.pers),(1,4,.pers),(3,3,.pers),(3,4,.pers),(3,8,.pers),(3,9,.pers),(3,10,.pers)]) (n := 50) (tr := [.val (.bool true), .val (.bool false), .val (ip c1 u1 q1), .val (ip c2 u2 q2), .val (ip c3 u3 q3), .val (ip c4 u4 q4), .val (.int .i64 n)]) hp (by kernel_rfl) ho hd

/-! ### reduced, Div -/
theorem red_1 {s f t g u1 u2 : Bool} {a b q1 q2 : List Nat} {n m : Int} {O : Orc} (hp : PV.persL [ip s f a, ip t g b] = true) (hd : PV.pers (PV.agg [PV.bool s, PV.sl f (dv a), PV.bool t, PV.sl g (dv b)]) = true) (ho : (!decide (m = (0 : Int))) = false ∧ PV.persL [PV.agg [PV.bool false, PV.sl u1 (dv q1)], PV.agg [PV.bool false, PV.sl u2 (dv q2)]] = true ∧ O.pure 56 [PV.agg [PV.bool false, PV.sl u1 (dv q1)], PV.agg [PV.bool false, PV.sl u2 (dv q2)]] = some (PV.int IntKind.i64 m) ∧ PV.persL [] = true ∧ O.pure 61 [] = some (PV.agg [PV.bool false, PV.sl u2 (dv q2)]) ∧ PV.persL [PV.agg [PV.bool s, PV.sl f (dv a)], PV.agg [PV.bool t, PV.sl g (dv b)]] = true ∧ O.pure 60 [PV.agg [PV.bool s, PV.sl f (dv a)], PV.agg [PV.bool t, PV.sl g (dv b)]] = some (PV.agg [PV.bool false, PV.sl u1 (dv q1)]) ∧ decide (n < (0 : Int)) = false ∧ PV.persL [PV.agg [PV.bool t, PV.sl g (dv b)]] = true ∧ O.pure 58 [PV.agg [PV.bool t, PV.sl g (dv b)]] = some (PV.int IntKind.i64 n) ∧ True) : Runs Pr pol O (35) [ip s f a, ip t g b] (PV.agg [PV.bool s, PV.sl f (dv a), PV.bool t, PV.sl g (dv b)]) :=
  Runs.go (fl := flg [(1,1,.pers),(1,2,.bit),(3,2,.pers),(4,1,.pers),(4,2,.pers),(4,3,.bit)]) (n := 50) (tr := [.val (.int .i64 n), .bit false, .val (ip false u1 q1), .val (ip false u2 q2), .val (.int .i64 m), .bit false]) hp (by kernel_rfl) ho hd
theorem red_g {s f t g u1 u2 u3 u4 u5 u6 s3 s4 s5 s6 : Bool} {a b q1 q2 q3 q4 q5 q6 : List Nat} {n m : Int} {O : Orc} (hp : PV.persL [ip s f a, ip t g b] = true) (hd : PV.pers (PV.agg [PV.bool s3, PV.sl u3 (dv q3), PV.bool s5, PV.sl u5 (dv q5)]) = true) (ho : PV.persL [PV.agg [PV.bool t, PV.sl g (dv b)], PV.agg [PV.bool false, PV.sl u1 (dv q1)]] = true ∧ O.pure 62 [PV.agg [PV.bool t, PV.sl g (dv b)], PV.agg [PV.bool false, PV.sl u1 (dv q1)]] = some (PV.tup [PV.agg [PV.bool s5, PV.sl u5 (dv q5)], PV.agg [PV.bool s6, PV.sl u6 (dv q6)], PV.int IntKind.i64 (0 : Int)]) ∧ PV.persL [PV.agg [PV.bool s, PV.sl f (dv a)], PV.agg [PV.bool false, PV.sl u1 (dv q1)]] = true ∧ O.pure 62 [PV.agg [PV.bool s, PV.sl f (dv a)], PV.agg [PV.bool false, PV.sl u1 (dv q1)]] = some (PV.tup [PV.agg [PV.bool s3, PV.sl u3 (dv q3)], PV.agg [PV.bool s4, PV.sl u4 (dv q4)], PV.int IntKind.i64 (0 : Int)]) ∧ (!decide (m = (0 : Int))) = true ∧ PV.persL [PV.agg [PV.bool false, PV.sl u1 (dv q1)], PV.agg [PV.bool false, PV.sl u2 (dv q2)]] = true ∧ O.pure 56 [PV.agg [PV.bool false, PV.sl u1 (dv q1)], PV.agg [PV.bool false, PV.sl u2 (dv q2)]] = some (PV.int IntKind.i64 m) ∧ PV.persL [] = true ∧ O.pure 61 [] = some (PV.agg [PV.bool false, PV.sl u2 (dv q2)]) ∧ PV.persL [PV.agg [PV.bool s, PV.sl f (dv a)], PV.agg [PV.bool t, PV.sl g (dv b)]] = true ∧ O.pure 60 [PV.agg [PV.bool s, PV.sl f (dv a)], PV.agg [PV.bool t, PV.sl g (dv b)]] = some (PV.agg [PV.bool false, PV.sl u1 (dv q1)]) ∧ decide (n < (0 : Int)) = false ∧ PV.persL [PV.agg [PV.bool t, PV.sl g (dv b)]] = true ∧ O.pure 58 [PV.agg [PV.bool t, PV.sl g (dv b)]] = some (PV.int IntKind.i64 n) ∧ True) : Runs Pr pol O (35) [ip s f a, ip t g b] (PV.agg [PV.bool s3, PV.sl u3 (dv q3), PV.bool s5, PV.sl u5 (dv q5)]) :=
  Runs.go (fl := flg [(1,1,.pers),(1,2,.bit),(3,2,.pers),(4,1,.pers),(4,2,.pers),(4,3,.bit),(5,2,.pers),(6,2,.pers)]) (n := 50) (tr := [.val (.int .i64 n), .bit false, .val (ip false u1 q1), .val (ip false u2 q2), .val (.int .i64 m), .bit true, .val (.tup [ip s3 u3 q3, ip s4 u4 q4, .int .i64 0]), .val (.tup [ip s5 u5 q5, ip s6 u6 q6, .int .i64 0])]) hp (by kernel_rfl) ho hd
theorem red_1n {s f t g u1 u2 s7 u7 s8 u8 : Bool} {a b q1 q2 q7 q8 : List Nat} {n m : Int} {O : Orc} (hp : PV.persL [ip s f a, ip t g b] = true) (hd : PV.pers (PV.agg [PV.bool s7, PV.sl u7 (dv q7), PV.bool s8, PV.sl u8 (dv q8)]) = true) (ho : (!decide (m = (0 : Int))) = false ∧ PV.persL [PV.agg [PV.bool false, PV.sl u1 (dv q1)], PV.agg [PV.bool false, PV.sl u2 (dv q2)]] = true ∧ O.pure 56 [PV.agg [PV.bool false, PV.sl u1 (dv q1)], PV.agg [PV.bool false, PV.sl u2 (dv q2)]] = some (PV.int IntKind.i64 m) ∧ PV.persL [] = true ∧ O.pure 61 [] = some (PV.agg [PV.bool false, PV.sl u2 (dv q2)]) ∧ PV.persL [PV.agg [PV.bool s7, PV.sl u7 (dv q7)], PV.agg [PV.bool s8, PV.sl u8 (dv q8)]] = true ∧ O.pure 60 [PV.agg [PV.bool s7, PV.sl u7 (dv q7)], PV.agg [PV.bool s8, PV.sl u8 (dv q8)]] = some (PV.agg [PV.bool false, PV.sl u1 (dv q1)]) ∧ PV.persL [PV.agg [PV.bool t, PV.sl g (dv b)]] = true ∧ O.pure 59 [PV.agg [PV.bool t, PV.sl g (dv b)]] = some (PV.agg [PV.bool s8, PV.sl u8 (dv q8)]) ∧ PV.persL [PV.agg [PV.bool s, PV.sl f (dv a)]] = true ∧ O.pure 59 [PV.agg [PV.bool s, PV.sl f (dv a)]] = some (PV.agg [PV.bool s7, PV.sl u7 (dv q7)]) ∧ decide (n < (0 : Int)) = true ∧ PV.persL [PV.agg [PV.bool t, PV.sl g (dv b)]] = true ∧ O.pure 58 [PV.agg [PV.bool t, PV.sl g (dv b)]] = some (PV.int IntKind.i64 n) ∧ True) : Runs Pr pol O (35) [ip s f a, ip t g b] (PV.agg [PV.bool s7, PV.sl u7 (dv q7), PV.bool s8, PV.sl u8 (dv q8)]) :=
  Runs.go (fl := flg [(1,1,.pers),(1,2,.bit),(2,1,.pers),(2,3,.pers),(3,2,.pers),(4,1,.pers),(4,2,.pers),(4,3,.bit)]) (n := 50) (tr := [.val (.int .i64 n), .bit true, .val (ip s7 u7 q7), .val (ip s8 u8 q8), .val (ip false u1 q1), .val (ip false u2 q2), .val (.int .i64 m), .bit false]) hp (by kernel_rfl) ho hd
theorem red_gn {s f t g u1 u2 u3 u4 u5 u6 s3 s4 s5 s6 s7 u7 s8 u8 : Bool} {a b q1 q2 q3 q4 q5 q6 q7 q8 : List Nat} {n m : Int} {O : Orc} (hp : PV.persL [ip s f a, ip t g b] = true) (hd : PV.pers (PV.agg [PV.bool s3, PV.sl u3 (dv q3), PV.bool s5, PV.sl u5 (dv q5)]) = true) (ho : PV.persL [PV.agg [PV.bool s8, PV.sl u8 (dv q8)], PV.agg [PV.bool false, PV.sl u1 (dv q1)]] = true ∧ O.pure 62 [PV.agg [PV.bool s8, PV.sl u8 (dv q8)], PV.agg [PV.bool false, PV.sl u1 (dv q1)]] = some (PV.tup [PV.agg [PV.bool s5, PV.sl u5 (dv q5)], PV.agg [PV.bool s6, PV.sl u6 (dv q6)], PV.int IntKind.i64 (0 : Int)]) ∧ PV.persL [PV.agg [PV.bool s7, PV.sl u7 (dv q7)], PV.agg [PV.bool false, PV.sl u1 (dv q1)]] = true ∧ O.pure 62 [PV.agg [PV.bool s7, PV.sl u7 (dv q7)], PV.agg [PV.bool false, PV.sl u1 (dv q1)]] = some (PV.tup [PV.agg [PV.bool s3, PV.sl u3 (dv q3)], PV.agg [PV.bool s4, PV.sl u4 (dv q4)], PV.int IntKind.i64 (0 : Int)]) ∧ (!decide (m = (0 : Int))) = true ∧ PV.persL [PV.agg [PV.bool false, PV.sl u1 (dv q1)], PV.agg [PV.bool false, PV.sl u2 (dv q2)]] = true ∧ O.pure 56 [PV.agg [PV.bool false, PV.sl u1 (dv q1)], PV.agg [PV.bool false, PV.sl u2 (dv q2)]] = some (PV.int IntKind.i64 m) ∧ PV.persL [] = true ∧ O.pure 61 [] = some (PV.agg [PV.bool false, PV.sl u2 (dv q2)]) ∧ PV.persL [PV.agg [PV.bool s7, PV.sl u7 (dv q7)], PV.agg [PV.bool s8, PV.sl u8 (dv q8)]] = true ∧ O.pure 60 [PV.agg [PV.bool s7, PV.sl u7 (dv q7)], PV.agg [PV.bool s8, PV.sl u8 (dv q8)]] = some (PV.agg [PV.bool false, PV.sl u1 (dv q1)]) ∧ PV.persL [PV.agg [PV.bool t, PV.sl g (dv b)]] = true ∧ O.pure 59 [PV.agg [PV.bool t, PV.sl g (dv b)]] = some (PV.agg [PV.bool s8, PV.sl u8 (dv q8)]) ∧ PV.persL [PV.agg [PV.bool s, PV.sl f (dv a)]] = true ∧ O.pure 59 [PV.agg [PV.bool s, PV.sl f (dv a)]] = some (PV.agg [PV.bool s7, PV.sl u7 (dv q7)]) ∧ decide (n < (0 : Int)) = true ∧ PV.persL [PV.agg [PV.bool t, PV.sl g (dv b)]] = true ∧ O.pure 58 [PV.agg [PV.bool t, PV.sl g (dv b)]] = some (PV.int IntKind.i64 n) ∧ True) : Runs Pr pol O (35) [ip s f a, ip t g b] (PV.agg [PV.bool s3, PV.sl u3 (dv q3), PV.bool s5, PV.sl u5 (dv q5)]) :=
  Runs.go (fl := flg [(1,1,.pers),(1,2,.bit),(2,1,.pers),(2,3,.pers),(3,2,.pers),(4,1,.pers),(4,2,.pers),(4,3,.bit),(5,2,.pers),(6,2,.pers)]) (n := 50) (tr := [.val (.int .i64 n), .bit true, .val (ip s7 u7 q7), .val (ip s8 u8 q8), .val (ip false u1 q1), .val (ip false u2 q2), .val (.int .i64 m), .bit true, .val (.tup [ip s3 u3 q3, ip s4 u4 q4, .int .i64 0]), .val (.tup [ip s5 u5 q5, ip s6 u6 q6, .int .i64 0])]) hp (by kernel_rfl) ho hd
theorem div_w {s f t g s' f' t' g' c1 u1 c2 u2 c3 u3 c4 u4 c5 u5 c6 u6 : Bool} {a b a' b' q1 q2 q3 q4 q5 q6 : List Nat} {n : Int} {O : Orc} (hp : PV.persL [rp s f t g a b, rp s' f' t' g' a' b'] = true) (hd : PV.pers (PV.tup [PV.agg [PV.bool c5, PV.sl u5 (dv q5), PV.bool c6, PV.sl u6 (dv q6)], PV.int IntKind.i64 (0 : Int)]) = true) (ho : PV.persL [PV.agg [PV.bool c2, PV.sl u2 (dv q2)], PV.agg [PV.bool c4, PV.sl u4 (dv q4)]] = true ∧ O.pure 35 [PV.agg [PV.bool c2, PV.sl u2 (dv q2)], PV.agg [PV.bool c4, PV.sl u4 (dv q4)]] = some (PV.agg [PV.bool c5, PV.sl u5 (dv q5), PV.bool c6, PV.sl u6 (dv q6)]) ∧ PV.persL [PV.agg [PV.bool c3, PV.sl u3 (dv q3)], PV.agg [PV.bool s', PV.sl f' (dv a')]] = true ∧ O.pure 36 [PV.agg [PV.bool c3, PV.sl u3 (dv q3)], PV.agg [PV.bool s', PV.sl f' (dv a')]] = some (PV.agg [PV.bool c4, PV.sl u4 (dv q4)]) ∧ PV.persL [PV.agg [PV.bool s, PV.sl f (dv a), PV.bool t, PV.sl g (dv b)]] = true ∧ O.pure 37 [PV.agg [PV.bool s, PV.sl f (dv a), PV.bool t, PV.sl g (dv b)]] = some (PV.agg [PV.bool c3, PV.sl u3 (dv q3)]) ∧ PV.persL [PV.agg [PV.bool s, PV.sl f (dv a)], PV.agg [PV.bool c1, PV.sl u1 (dv q1)]] = true ∧ O.pure 36 [PV.agg [PV.bool s, PV.sl f (dv a)], PV.agg [PV.bool c1, PV.sl u1 (dv q1)]] = some (PV.agg [PV.bool c2, PV.sl u2 (dv q2)]) ∧ PV.persL [PV.agg [PV.bool s', PV.sl f' (dv a'), PV.bool t', PV.sl g' (dv b')]] = true ∧ O.pure 37 [PV.agg [PV.bool s', PV.sl f' (dv a'), PV.bool t', PV.sl g' (dv b')]] = some (PV.agg [PV.bool c1, PV.sl u1 (dv q1)]) ∧ decide (n = (0 : Int)) = false ∧ PV.persL [PV.agg [PV.bool s', PV.sl f' (dv a'), PV.bool t', PV.sl g' (dv b')]] = true ∧ O.pure 34 [PV.agg [PV.bool s', PV.sl f' (dv a'), PV.bool t', PV.sl g' (dv b')]] = some (PV.int IntKind.i64 n) ∧ True) : Runs Pr pol O (18) [rp s f t g a b, rp s' f' t' g' a' b'] (PV.tup [PV.agg [PV.bool c5, PV.sl u5 (dv q5), PV.bool c6, PV.sl u6 (dv q6)], PV.int IntKind.i64 (0 : Int)]) :=
  Runs.go (fl := flg [(1,1,.pers),(1,2,.bit),(3,3,.pers),(3,4,.pers),(3,6,.pers),(3,9,.pers),(3,10,.pers)]) (n := 50) (tr := [.val (.int .i64 n), .bit false, .val (ip c1 u1 q1), .val (ip c2 u2 q2), .val (ip c3 u3 q3), .val (ip c4 u4 q4), .val (rp c5 u5 c6 u6 q5 q6)]) hp (by kernel_rfl) ho hd
theorem dig_one {d : Nat} (h : d < BB) : Dig [d] := fun x hx => by rw [List.mem_singleton.1 hx]; exact h
theorem val_two (a b : Nat) : val [a, b] = a + BB * b := by simp [val]
theorem known_ifrom {n : Int} (h : n.natAbs < 2 ^ 62) : ∃ u, Known 33 [.int .i64 n] (iv u n) := by
  have hd : Dig [n.natAbs % BB, n.natAbs / BB] := fun x hx => by
    simp only [List.mem_cons, List.not_mem_nil, or_false] at hx
    rcases hx with rfl | rfl
    · exact Nat.mod_lt _ (by decide)
    · exact (Nat.div_lt_iff_lt_mul (by decide)).2 (Nat.lt_trans h (by decide))
  have hv : val [n.natAbs % BB, n.natAbs / BB] = n.natAbs := by rw [val_two]; exact Nat.mod_add_div _ _
  have ks := fun b => known_signed (b := b) (f := true) hd (by simp)
  have hx : ∀ m : Nat, m < 2 ^ 62 → some (PV.int .u32 (IntKind.u32.wrap (m : Int))) = some (PV.int .u32 ((m % BB : Nat) : Int)) := fun m hm => by rw [wrapW]; rfl
  have hy : ∀ m : Nat, m < 2 ^ 62 → some (PV.int .u32 (IntKind.u32.wrap ((m : Int).fdiv 4294967296))) = some (PV.int .u32 ((m / BB : Nat) : Int)) := fun m hm => by
    rw [Int.fdiv_eq_ediv_of_nonneg _ (by omega), wrapW]
    congr 2
    have : (m / BB : Nat) < 4294967296 := (Nat.div_lt_iff_lt_mul (by decide)).2 (Nat.lt_trans hm (by decide))
    simp only [BB] at this ⊢
    omega
  by_cases h0 : n < 0
  · have k := ks true
    rw [hv, if_pos rfl, show -(n.natAbs : Int) = n by omega] at k
    refine ⟨_, Known.of k.deep rfl (fun O hO => ifrom_n (m := (n.natAbs : Int)) (k := n + 18446744073709551616) rfl (persI ..) ⟨rfl, hO, hy _ h, hx _ h, decide_eq_true h0, ?_, decide_eq_true h0, ?_, trivial⟩)⟩
    · rw [show IntKind.u64.wrap (0 - (n + 18446744073709551616)) = (n.natAbs : Int) by simp [IntKind.wrap, IntKind.bits, IntKind.signed]; omega]
    · rw [show IntKind.u64.wrap n = n + 18446744073709551616 by simp [IntKind.wrap, IntKind.bits, IntKind.signed]; omega]
  · have k := ks false
    rw [hv, if_neg (by simp), show (n.natAbs : Int) = n by omega] at k
    have hx' := hx _ h
    have hy' := hy _ h
    rw [show (n.natAbs : Int) = n by omega] at hx' hy'
    exact ⟨_, Known.of k.deep rfl (fun O hO => ifrom_p rfl (persI ..) ⟨rfl, hO, hy', hx', decide_eq_false h0, decide_eq_false h0, by rw [wrapU (by omega) (by omega)], trivial⟩)⟩
theorem known_one : ∃ u, Known 61 [] (iv u 1) := by
  obtain ⟨u, k⟩ := known_ifrom (n := 1) (by decide)
  exact ⟨u, Known.of k.deep rfl (fun O hO => one_w rfl (persI ..) ⟨rfl, hO, trivial⟩)⟩

/-! ### rationals -/
def rv (f g : Bool) (n d : Int) : PV := rp (decide (n < 0)) f (decide (d < 0)) g (digs n.natAbs) (digs d.natAbs)
theorem persRp (s f t g : Bool) (a b : List Nat) : (rp s f t g a b).pers = true := by
  show PV.persL [PV.bool s, .sl f (dv a), .bool t, .sl g (dv b)] = true
  simp only [PV.persL, PV.pers, persD, Bool.and_self]
theorem persV (f g : Bool) (n d : Int) : (rv f g n d).pers = true := persRp ..
/-- A value of the program that is a rational. -/
def IsR (q : Rat) (v : PV) : Prop := ∃ f g, v = rv f g q.num q.den ∨ (q.den = 1 ∧ v = rv f g q.num 0)
theorem IsR.pers {q : Rat} {v : PV} (h : IsR q v) : v.pers = true := by
  obtain ⟨f, g, rfl | ⟨_, rfl⟩⟩ := h <;> exact persV ..
/-- Not too large. -/
structure RB (k : Nat) (q : Rat) : Prop where
  num : q.num.natAbs < BB ^ k
  den : q.den < BB ^ k
theorem ok_of {k : Nat} {z : Int} (h : z.natAbs < BB ^ k) (hk : k ≤ 100) : Ok z := Nat.lt_of_lt_of_le h (Nat.pow_le_pow_right (by decide) hk)
theorem ok_mul {k m : Nat} {a b : Int} (ha : a.natAbs < BB ^ k) (hb : b.natAbs < BB ^ m) (h : k + m ≤ 100) : Ok (a * b) := by
  refine ok_of (k := k + m) ?_ h
  rw [Int.natAbs_mul, Nat.pow_add]
  exact Nat.mul_lt_mul'' ha hb
theorem known_rfrom {n : Int} (h : n.natAbs < 2 ^ 62) : ∃ v, IsR (n : Rat) v ∧ Known 16 [.int .i64 n] v := by
  obtain ⟨u, k⟩ := known_ifrom h
  refine ⟨rv u true n 0, ⟨u, true, .inr ⟨rfl, rfl⟩⟩, Known.of k.deep rfl (fun O hO => rfrom_w rfl (persRp _ _ _ _ _ []) ⟨rfl, hO, trivial⟩)⟩
theorem known_rsign {q : Rat} {v : PV} (h : IsR q v) : Known 34 [v] (.int .i64 (sgn q.num)) := by
  obtain ⟨f, g, rfl | ⟨_, rfl⟩⟩ := h
  · exact Known.of (known_isign (f := f) (z := q.num)).deep rfl (fun O hO => rsign_w (pers1 (persV ..)) rfl ⟨pers1 (persA ..), hO, trivial⟩)
  · exact Known.of (known_isign (f := f) (z := q.num)).deep rfl (fun O hO => rsign_w (pers1 (persV ..)) rfl ⟨pers1 (persA ..), hO, trivial⟩)
theorem den_pos (q : Rat) : (0 : Int) < q.den := by have := q.den_nz; omega
theorem known_rden {q : Rat} {v : PV} (h : IsR q v) : ∃ u, Known 37 [v] (iv u q.den) := by
  obtain ⟨f, g, rfl | ⟨h1, rfl⟩⟩ := h
  · have hs : sgn (q.den : Int) = 1 := by have := den_pos q; unfold sgn; (repeat' split) <;> omega
    have k := known_isign (f := g) (z := (q.den : Int))
    rw [hs] at k
    exact ⟨g, Known.of k.deep rfl (fun O hO => den_n (pers1 (persV ..)) (persI ..) ⟨rfl, pers1 (persA ..), hO, trivial⟩)⟩
  · obtain ⟨u, k1⟩ := known_one
    have k := known_isign (f := g) (z := 0)
    rw [h1]
    exact ⟨u, Known.of (k.deep.and k1.deep) rfl (fun O hO => den_z (pers1 (persV ..)) (persI ..) ⟨rfl, hO.2, pers1 (persA ..), hO.1, trivial⟩)⟩
theorem known_whole {q : Rat} {v : PV} (h : IsR q v) (hb : q.den < BB ^ 100) : Known 45 [v] (.bool (decide (q.den = 1))) := by
  obtain ⟨f, g, rfl | ⟨h1, rfl⟩⟩ := h
  · have hs : sgn (q.den : Int) = 1 := by have := den_pos q; unfold sgn; (repeat' split) <;> omega
    have k := known_isign (f := g) (z := (q.den : Int))
    rw [hs] at k
    obtain ⟨u, k1⟩ := known_one
    have kc := known_icmp (f := g) (g := u) (a := (q.den : Int)) (b := 1) (show Ok (q.den : Int) from hb) (ok_of (k := 1) (by decide) (by omega))
    have hz : decide (cmpZ (q.den : Int) 1 = 0) = decide (q.den = 1) := by
      by_cases e : q.den = 1
      · rw [e]; rfl
      · rw [decide_eq_false e]
        apply decide_eq_false
        unfold cmpZ; (repeat' split) <;> omega
    exact Known.of (k.deep.and (k1.deep.and kc.deep)) rfl (fun O hO => whole_n (pers1 (persV ..)) rfl ⟨hz, pers2 (persA ..) (persA ..), hO.2.2, rfl, hO.2.1, rfl, pers1 (persA ..), hO.1, trivial⟩)
  · have k := known_isign (f := g) (z := 0)
    rw [h1]
    exact Known.of k.deep rfl (fun O hO => whole_z (pers1 (persV ..)) rfl ⟨pers1 (persA ..), hO, trivial⟩)

/-- The order of rationals. -/
def cmpQ (a b : Rat) : Int := cmpZ (a.num * b.den) (b.num * a.den)
theorem cmpQ_lt {a b : Rat} : cmpQ a b < 0 ↔ a < b := by
  rw [Rat.lt_iff]; unfold cmpQ cmpZ; (repeat' split) <;> omega
theorem cmpQ_gt {a b : Rat} : 0 < cmpQ a b ↔ b < a := by
  rw [Rat.lt_iff]; unfold cmpQ cmpZ; (repeat' split) <;> omega
theorem cmpQ_eq {a b : Rat} : cmpQ a b = 0 ↔ a = b := by
  rw [Rat.eq_iff_mul_eq_mul]; unfold cmpQ cmpZ; (repeat' split) <;> omega
/-- The numerator's value. -/
theorem IsR.shape {q : Rat} {v : PV} (h : IsR q v) : ∃ f g d, v = rv f g q.num d := by
  obtain ⟨f, g, rfl | ⟨_, rfl⟩⟩ := h
  · exact ⟨f, g, _, rfl⟩
  · exact ⟨f, g, _, rfl⟩
theorem known_rcmp {a b : Rat} {v w : PV} (hv : IsR a v) (hw : IsR b w) (ha : RB 40 a) (hb : RB 40 b) : Known 32 [v, w] (.int .i64 (cmpQ a b)) := by
  have p40 : BB ^ 40 < BB ^ 100 := Nat.pow_lt_pow_right (by decide) (by decide)
  have kwv := known_whole hv (Nat.lt_trans ha.den p40)
  have kww := known_whole hw (Nat.lt_trans hb.den p40)
  obtain ⟨u1, kdv⟩ := known_rden hv
  obtain ⟨u2, kdw⟩ := known_rden hw
  obtain ⟨f, g, d, rfl⟩ := hv.shape
  obtain ⟨f', g', d', rfl⟩ := hw.shape
  have okan : Ok a.num := ok_of ha.num (by omega)
  have okbn : Ok b.num := ok_of hb.num (by omega)
  have okad : Ok (a.den : Int) := ok_of (k := 40) ha.den (by omega)
  have okbd : Ok (b.den : Int) := ok_of (k := 40) hb.den (by omega)
  obtain ⟨m1, km1⟩ := known_imul (f := f) (g := u2) okan okbd
  obtain ⟨m2, km2⟩ := known_imul (f := f') (g := u1) okbn okad
  have ok1 : Ok (a.num * (b.den : Int)) := ok_mul (k := 40) (m := 40) ha.num hb.den (by omega)
  have ok2 : Ok (b.num * (a.den : Int)) := ok_mul (k := 40) (m := 40) hb.num ha.den (by omega)
  have kc := known_icmp (f := m1) (g := m2) ok1 ok2
  by_cases h1 : a.den = 1
  · rw [decide_eq_true h1] at kwv
    by_cases h2 : b.den = 1
    · rw [decide_eq_true h2] at kww
      have kn := known_icmp (f := f) (g := f') okan okbn
      have e : cmpQ a b = cmpZ a.num b.num := by unfold cmpQ; rw [h1, h2]; simp
      rw [e]
      exact Known.of (kwv.deep.and (kww.deep.and kn.deep)) rfl (fun O hO => rcmp_w (pers2 (persV ..) (persV ..)) rfl ⟨pers2 (persA ..) (persA ..), hO.2.2, pers1 (persV ..), hO.2.1, pers1 (persV ..), hO.1, trivial⟩)
    · rw [decide_eq_false h2] at kww
      exact Known.of (kwv.deep.and (kww.deep.and (kdv.deep.and (kdw.deep.and (km1.deep.and (km2.deep.and kc.deep)))))) rfl (fun O hO => by
        obtain ⟨o1, o2, o3, o4, o5, o6, o7⟩ := hO
        exact rcmp_2 (pers2 (persV ..) (persV ..)) rfl ⟨pers2 (persA ..) (persA ..), o7, pers2 (persA ..) (persA ..), o6, pers1 (persV ..), o3, pers2 (persA ..) (persA ..), o5, pers1 (persV ..), o4, pers1 (persV ..), o2, pers1 (persV ..), o1, trivial⟩)
  · rw [decide_eq_false h1] at kwv
    exact Known.of (kwv.deep.and (kdv.deep.and (kdw.deep.and (km1.deep.and (km2.deep.and kc.deep))))) rfl (fun O hO => by
      obtain ⟨o1, o3, o4, o5, o6, o7⟩ := hO
      exact rcmp_1 (pers2 (persV ..) (persV ..)) rfl ⟨pers2 (persA ..) (persA ..), o7, pers2 (persA ..) (persA ..), o6, pers1 (persV ..), o3, pers2 (persA ..) (persA ..), o5, pers1 (persV ..), o4, pers1 (persV ..), o1, trivial⟩)
end Go.Proofs.YtigfgicjjhepoaaGreatDoor.VA.Z
set_option linter.unusedVariables false
set_option linter.unusedSimpArgs false
namespace Go.Proofs.YtigfgicjjhepoaaGreatDoor.VA.Z
open Go Go.Proofs

theorem iv_nat (f : Bool) (n : Nat) : iv f (n : Int) = ip false f (digs n) := by
  rw [iv_pos (by omega)]; rfl
theorem gcd_lt {n d : Int} (h0 : d ≠ 0) : Int.gcd n d ≤ d.natAbs := Nat.le_of_dvd (by omega) (Int.gcd_dvd_natAbs_right n d)
theorem known_reduced {f g : Bool} {n d : Int} (hn : Ok n) (h0 : d ≠ 0) (h1 : d.natAbs < BB) : ∃ v, IsR (Rat.divInt n d) v ∧ Known 35 [iv f n, iv g d] v := by
  have okd : Ok d := ok_of (k := 1) (by rw [Nat.pow_one]; exact h1) (by omega)
  have hg0 : Int.gcd n d ≠ 0 := by
    intro e
    have := Int.gcd_eq_zero_iff.1 e
    exact h0 this.2
  have hgl := gcd_lt (n := n) h0
  have hgB : ((Int.gcd n d : Nat) : Int).natAbs < BB := by rw [Int.natAbs_natCast]; omega
  have okg : Ok ((Int.gcd n d : Nat) : Int) := ok_of (k := 1) (by rw [Nat.pow_one]; exact hgB) (by omega)
  obtain ⟨u1, k1⟩ := known_one
  have ksg := known_isign (f := g) (z := d)
  have hb : decide (cmpZ ((Int.gcd n d : Nat) : Int) 1 = 0) = decide (Int.gcd n d = 1) := by
    by_cases e : Int.gcd n d = 1
    · rw [e]; rfl
    · rw [decide_eq_false e]
      apply decide_eq_false
      unfold cmpZ; (repeat' split) <;> omega
  by_cases hneg : d < 0
  · -- turned round
    have kn1 := known_ineg (f := f) (z := n)
    have kn2 := known_ineg (f := g) (z := d)
    have hgg : Int.gcd (-n) (-d) = Int.gcd n d := by rw [Int.gcd_neg, Int.neg_gcd]
    obtain ⟨p, kg⟩ := known_igcd (f := f) (g := g) hn.neg okd.neg (.inr (by rw [Int.natAbs_neg]; exact h1))
    rw [hgg] at kg
    have kc := known_icmp (f := p) (g := u1) okg (ok_of (k := 1) (z := 1) (by decide) (by omega))
    have hs : decide (sgn d < 0) = true := by unfold sgn; rw [if_pos hneg]; rfl
    have hnum : (Rat.divInt n d).num = -n / (Int.gcd n d : Int) := by
      rw [Rat.num_divInt, Int.gcd_comm, Int.sign_eq_neg_one_of_neg hneg]; congr 1; omega
    have hden : (((Rat.divInt n d).den : Nat) : Int) = -d / (Int.gcd n d : Int) := by
      rw [Rat.den_divInt, if_neg h0, Int.gcd_comm d n]
      rw [Int.natCast_ediv]; congr 1; omega
    by_cases e : Int.gcd n d = 1
    · rw [decide_eq_true e] at hb
      rw [e] at hnum hden
      refine ⟨rv f g (-n) (-d), ⟨f, g, .inl (by rw [hnum, hden]; simp)⟩, ?_⟩
      rw [iv_nat, e] at kg kc
      exact Known.of (ksg.deep.and (kn1.deep.and (kn2.deep.and (kg.deep.and (k1.deep.and kc.deep))))) rfl (fun O hO => by
        obtain ⟨o1, o2, o3, o4, o5, o6⟩ := hO
        rw [e] at hb
        exact red_1n (pers2 (persI ..) (persI ..)) (persV ..) ⟨by rw [hb]; rfl, pers2 (persA ..) (persA ..), o6, rfl, o5, pers2 (persA ..) (persA ..), o4, pers1 (persA ..), o3, pers1 (persA ..), o2, hs, pers1 (persA ..), o1, trivial⟩)
    · rw [decide_eq_false e] at hb
      obtain ⟨a1, a2, kd1⟩ := known_dmx (f := f) (g := p) (a := -n) (b := (Int.gcd n d : Int)) hn.neg (by omega) (.inl hgB) (Int.dvd_neg.2 (Int.gcd_dvd_left ..))
      obtain ⟨b1, b2, kd2⟩ := known_dmx (f := g) (g := p) (a := -d) (b := (Int.gcd n d : Int)) okd.neg (by omega) (.inl hgB) (Int.dvd_neg.2 (Int.gcd_dvd_right ..))
      refine ⟨rv a1 b1 (-n / (Int.gcd n d : Int)) (-d / (Int.gcd n d : Int)), ⟨a1, b1, .inl (by rw [hnum, hden])⟩, ?_⟩
      rw [iv_nat] at kg kc kd1 kd2
      exact Known.of (ksg.deep.and (kn1.deep.and (kn2.deep.and (kg.deep.and (k1.deep.and (kc.deep.and (kd1.deep.and kd2.deep))))))) rfl (fun O hO => by
        obtain ⟨o1, o2, o3, o4, o5, o6, o7, o8⟩ := hO
        exact red_gn (pers2 (persI ..) (persI ..)) (persV ..) ⟨pers2 (persA ..) (persA ..), o8, pers2 (persA ..) (persA ..), o7, by rw [hb]; rfl, pers2 (persA ..) (persA ..), o6, rfl, o5, pers2 (persA ..) (persA ..), o4, pers1 (persA ..), o3, pers1 (persA ..), o2, hs, pers1 (persA ..), o1, trivial⟩)
  · have hpos : 0 < d := by omega
    obtain ⟨p, kg⟩ := known_igcd (f := f) (g := g) hn okd (.inr h1)
    have kc := known_icmp (f := p) (g := u1) okg (ok_of (k := 1) (z := 1) (by decide) (by omega))
    have hs : decide (sgn d < 0) = false := by unfold sgn; rw [if_neg hneg, if_neg h0]; rfl
    have hnum : (Rat.divInt n d).num = n / (Int.gcd n d : Int) := by
      rw [Rat.num_divInt, Int.gcd_comm, Int.sign_eq_one_of_pos hpos]; congr 1; omega
    have hden : (((Rat.divInt n d).den : Nat) : Int) = d / (Int.gcd n d : Int) := by
      rw [Rat.den_divInt, if_neg h0, Int.gcd_comm d n]
      rw [Int.natCast_ediv]; congr 1; omega
    by_cases e : Int.gcd n d = 1
    · rw [decide_eq_true e] at hb
      rw [e] at hnum hden
      refine ⟨rv f g n d, ⟨f, g, .inl (by rw [hnum, hden]; simp)⟩, ?_⟩
      rw [iv_nat, e] at kg kc
      exact Known.of (ksg.deep.and (kg.deep.and (k1.deep.and kc.deep))) rfl (fun O hO => by
        obtain ⟨o1, o4, o5, o6⟩ := hO
        rw [e] at hb
        exact red_1 (pers2 (persI ..) (persI ..)) (persV ..) ⟨by rw [hb]; rfl, pers2 (persA ..) (persA ..), o6, rfl, o5, pers2 (persA ..) (persA ..), o4, hs, pers1 (persA ..), o1, trivial⟩)
    · rw [decide_eq_false e] at hb
      obtain ⟨a1, a2, kd1⟩ := known_dmx (f := f) (g := p) (a := n) (b := (Int.gcd n d : Int)) hn (by omega) (.inl hgB) (Int.gcd_dvd_left ..)
      obtain ⟨b1, b2, kd2⟩ := known_dmx (f := g) (g := p) (a := d) (b := (Int.gcd n d : Int)) okd (by omega) (.inl hgB) (Int.gcd_dvd_right ..)
      refine ⟨rv a1 b1 (n / (Int.gcd n d : Int)) (d / (Int.gcd n d : Int)), ⟨a1, b1, .inl (by rw [hnum, hden])⟩, ?_⟩
      rw [iv_nat] at kg kc kd1 kd2
      exact Known.of (ksg.deep.and (kg.deep.and (k1.deep.and (kc.deep.and (kd1.deep.and kd2.deep))))) rfl (fun O hO => by
        obtain ⟨o1, o4, o5, o6, o7, o8⟩ := hO
        exact red_g (pers2 (persI ..) (persI ..)) (persV ..) ⟨pers2 (persA ..) (persA ..), o8, pers2 (persA ..) (persA ..), o7, by rw [hb]; rfl, pers2 (persA ..) (persA ..), o6, rfl, o5, pers2 (persA ..) (persA ..), o4, hs, pers1 (persA ..), o1, trivial⟩)

theorem div_eq (a b : Rat) (hb : b ≠ 0) : Rat.divInt (a.num * (b.den : Int)) ((a.den : Int) * b.num) = a / b := by
  rw [Rat.div_def, Rat.inv_def, ← Rat.divInt_mul_divInt, Rat.num_divInt_den]
theorem known_rdiv {a b : Rat} {v w : PV} (hv : IsR a v) (hw : IsR b w) (ha : RB 40 a) (hb : RB 40 b) (h0 : b ≠ 0) (h1 : a.den * b.num.natAbs < BB) : ∃ x, IsR (a / b) x ∧ Known 18 [v, w] (.tup [x, .int .i64 0]) := by
  have ks := known_rsign hw
  obtain ⟨u1, kdv⟩ := known_rden hv
  obtain ⟨u2, kdw⟩ := known_rden hw
  obtain ⟨f, g, d, rfl⟩ := hv.shape
  obtain ⟨f', g', d', rfl⟩ := hw.shape
  have okan : Ok a.num := ok_of ha.num (by omega)
  have okbn : Ok b.num := ok_of hb.num (by omega)
  have okad : Ok (a.den : Int) := ok_of (k := 40) ha.den (by omega)
  have okbd : Ok (b.den : Int) := ok_of (k := 40) hb.den (by omega)
  have hbn : b.num ≠ 0 := fun e => h0 (Rat.num_eq_zero.1 e)
  obtain ⟨m1, km1⟩ := known_imul (f := f) (g := u2) okan okbd
  obtain ⟨m2, km2⟩ := known_imul (f := u1) (g := f') okad okbn
  have ok1 : Ok (a.num * (b.den : Int)) := ok_mul (k := 40) (m := 40) ha.num hb.den (by omega)
  have hd0 : (a.den : Int) * b.num ≠ 0 := Int.mul_ne_zero (by have := a.den_nz; omega) hbn
  obtain ⟨x, hx, kr⟩ := known_reduced (f := m1) (g := m2) ok1 hd0 (by rw [Int.natAbs_mul, Int.natAbs_natCast]; exact h1)
  rw [div_eq a b h0] at hx
  have hs : decide (sgn b.num = 0) = false := by
    apply decide_eq_false
    unfold sgn; (repeat' split) <;> omega
  obtain ⟨f5, g5, d5, rfl⟩ := hx.shape
  exact ⟨_, hx, Known.of (ks.deep.and (kdv.deep.and (kdw.deep.and (km1.deep.and (km2.deep.and kr.deep))))) rfl (fun O hO => by
    obtain ⟨o1, o2, o3, o4, o5, o6⟩ := hO
    exact div_w (pers2 (persV ..) (persV ..)) (by simp only [PV.pers, PV.persL, persD, Bool.and_self]) ⟨pers2 (persA ..) (persA ..), o6, pers2 (persA ..) (persA ..), o5, pers1 (persV ..), o2, pers2 (persA ..) (persA ..), o4, pers1 (persV ..), o3, hs, pers1 (persV ..), o1, trivial⟩)⟩
end Go.Proofs.YtigfgicjjhepoaaGreatDoor.VA.Z
set_option linter.unusedVariables false
set_option linter.unusedSimpArgs false
namespace Go.Proofs.YtigfgicjjhepoaaGreatDoor.VA.Z
open Go Go.Proofs

/-- A dimension. -/
structure Dm where
  s : ByteArray
  a : Int
  b : Int
  c : Int
def dmV (d : Dm) : PV := .agg [.str d.s, .int .i64 d.a, .int .i64 d.b, .int .i64 d.c]
def dl (l : List Dm) : List PV := l.map dmV
theorem persDm (d : Dm) : (dmV d).pers = true := rfl
theorem persDl : ∀ l : List Dm, PV.persL (dl l) = true
  | [] => rfl
  | d :: l => by simp only [dl, List.map_cons, PV.persL, persDm, Bool.true_and]; exact persDl l
theorem lenDl (l : List Dm) : (dl l).length = l.length := by simp [dl]
theorem getDl (l : List Dm) (k : Nat) : (dl l)[k]? = (l[k]?).map dmV := by simp [dl]

theorem range_w {s : ByteArray} {a b c : Int} {O : Orc} (hp : PV.persL [.agg [.str s, .int .i64 a, .int .i64 b, .int .i64 c]] = true) (hd : PV.pers (PV.tup [PV.int IntKind.i64 (IntKind.i64.wrap (a + b)), PV.int IntKind.i64 (IntKind.i64.wrap (a + c))]) = true) (ho : True) : Runs Pr pol O (14) [.agg [.str s, .int .i64 a, .int .i64 b, .int .i64 c]] (PV.tup [PV.int IntKind.i64 (IntKind.i64.wrap (a + b)), PV.int IntKind.i64 (IntKind.i64.wrap (a + c))]) :=
  Runs.go (fl := flg []) (n := 50) (tr := []) hp (by kernel_rfl) ho hd

noncomputable def wB : Code := bodyOf Tryz.f19
noncomputable def wL : Code := inner (inner (seqR (seqL (seqR (seqR wB)))))
noncomputable def wC : Ctx := ⟨Pr, pol, [], 19⟩
theorem wB_eq : wB = .seq (seqL wB) (.seq (seqL (seqR wB)) (.seq (.seq (seqL (seqL (seqR (seqR wB)))) (.block 0 (.loop wL))) (seqR (seqR (seqR wB))))) := by kernel_rfl
theorem w_ne {f g : Bool} {l : List Dm} {vs : List PV} {O : Orc} (ho : (!decide ((↑vs.length : Int) = (↑(dl l).length : Int))) = true ∧ True) : ∃ st', Ev (wC) O (.seq (seqL wB) (seqL (seqR wB))) (startSt [.sl f (dl l), .sl g vs] Heap.empty) (Ex.ret) st' ∧ HasK [(4, PV.bool false)] [] st' :=
  Ev.walk (fl := flg [(1,4,.bit)]) (n := 50) (tr := [.bit true]) [4] [] (ex := Ex.ret) (vs := [PV.bool false]) (bs := []) (by kernel_rfl) ho
theorem w_in {f g : Bool} {l : List Dm} {vs : List PV} {O : Orc} (ho : (!decide ((↑vs.length : Int) = (↑(dl l).length : Int))) = false ∧ True) : ∃ st', Ev (wC) O (.seq (seqL wB) (.seq (seqL (seqR wB)) (seqL (seqL (seqR (seqR wB)))))) (startSt [.sl f (dl l), .sl g vs] Heap.empty) (Ex.normal) st' ∧ HasC [(1, PV.sl g vs), (14, PV.sl f (dl l)), (15, PV.int IntKind.i64 (↑(dl l).length : Int)), (16, PV.int IntKind.i64 (0 : Int))] [] [(6, 0)] st' :=
  Ev.walkS (fl := flg [(1,4,.bit)]) (n := 50) (tr := [.bit false]) [1, 14, 15, 16] [] [6] (ex := Ex.normal) (vs := [PV.sl g vs, PV.sl f (dl l), PV.int IntKind.i64 (↑(dl l).length : Int), PV.int IntKind.i64 (0 : Int)]) (bs := []) (cs := [0]) (by kernel_rfl) ho
theorem w_end {f g : Bool} {l : List Dm} {vs : List PV} {n k : Int} {O : Orc} {st : St} (hs : HasC [(1, .sl g vs), (14, .sl f (dl l)), (15, .int .i64 n), (16, .int .i64 k)] [] [] st) (ho : decide (k < n) = false ∧ True) : ∃ st', Ev (wC) O (wL) st (Ex.exit 0) st' ∧ HasC [] [] [] st' :=
  Ev.walkC (fl := flg [(4,0,.bit)]) (n := 50) (tr := [.bit false]) [] [] [] (ex := Ex.exit 0) (vs := []) (bs := []) (cs := []) hs (fun R B C => by kernel_rfl) ho
theorem w_ok0 {f g s1 f1 t1 g1 s2 f2 t2 g2 s3 f3 t3 g3 : Bool} {l : List Dm} {vs : List PV} {n lo hi c1 c2 : Int} {d : Dm} {a1 b1 a2 b2 a3 b3 : List Nat} {O : Orc} {st : St} (hs : HasC [(1, .sl g vs), (14, .sl f (dl l)), (15, .int .i64 n), (16, .int .i64 0)] [] [(6, 0)] st) (ho : decide ((0 : Int) < c2) = false ∧ PV.persL [PV.agg [PV.bool s1, PV.sl f1 (dv a1), PV.bool t1, PV.sl g1 (dv b1)], PV.agg [PV.bool s3, PV.sl f3 (dv a3), PV.bool t3, PV.sl g3 (dv b3)]] = true ∧ O.pure 32 [PV.agg [PV.bool s1, PV.sl f1 (dv a1), PV.bool t1, PV.sl g1 (dv b1)], PV.agg [PV.bool s3, PV.sl f3 (dv a3), PV.bool t3, PV.sl g3 (dv b3)]] = some (PV.int IntKind.i64 c2) ∧ PV.persL [PV.int IntKind.i64 hi] = true ∧ O.pure 16 [PV.int IntKind.i64 hi] = some (PV.agg [PV.bool s3, PV.sl f3 (dv a3), PV.bool t3, PV.sl g3 (dv b3)]) ∧ ((0 : Int) ≤ (0 : Int) ∧ vs[0]? = some (PV.agg [PV.bool s1, PV.sl f1 (dv a1), PV.bool t1, PV.sl g1 (dv b1)])) ∧ decide (c1 < (0 : Int)) = false ∧ PV.persL [PV.agg [PV.bool s1, PV.sl f1 (dv a1), PV.bool t1, PV.sl g1 (dv b1)], PV.agg [PV.bool s2, PV.sl f2 (dv a2), PV.bool t2, PV.sl g2 (dv b2)]] = true ∧ O.pure 32 [PV.agg [PV.bool s1, PV.sl f1 (dv a1), PV.bool t1, PV.sl g1 (dv b1)], PV.agg [PV.bool s2, PV.sl f2 (dv a2), PV.bool t2, PV.sl g2 (dv b2)]] = some (PV.int IntKind.i64 c1) ∧ PV.persL [PV.int IntKind.i64 lo] = true ∧ O.pure 16 [PV.int IntKind.i64 lo] = some (PV.agg [PV.bool s2, PV.sl f2 (dv a2), PV.bool t2, PV.sl g2 (dv b2)]) ∧ ((0 : Int) ≤ (0 : Int) ∧ vs[0]? = some (PV.agg [PV.bool s1, PV.sl f1 (dv a1), PV.bool t1, PV.sl g1 (dv b1)])) ∧ PV.persL [PV.agg [PV.str d.1, PV.int IntKind.i64 d.2, PV.int IntKind.i64 d.3, PV.int IntKind.i64 d.4]] = true ∧ O.pure 14 [PV.agg [PV.str d.1, PV.int IntKind.i64 d.2, PV.int IntKind.i64 d.3, PV.int IntKind.i64 d.4]] = some (PV.tup [PV.int IntKind.i64 lo, PV.int IntKind.i64 hi]) ∧ ((0 : Int) ≤ (0 : Int) ∧ (dl l)[0]? = some (PV.agg [PV.str d.1, PV.int IntKind.i64 d.2, PV.int IntKind.i64 d.3, PV.int IntKind.i64 d.4])) ∧ decide ((0 : Int) < n) = true ∧ True) : ∃ st', Ev (wC) O (wL) st (Ex.normal) st' ∧ HasC [(1, PV.sl g vs), (14, PV.sl f (dl l)), (15, PV.int IntKind.i64 n), (16, PV.int IntKind.i64 (1 : Int))] [] [(6, 1)] st' :=
  Ev.walkC (fl := flg [(4,0,.bit),(5,1,.elem),(6,1,.pers),(7,2,.elem),(7,5,.pers),(7,6,.pers),(7,7,.bit),(7,11,.elem),(7,14,.pers),(7,15,.pers),(7,16,.bit)]) (n := 50) (tr := [.bit true, .val (dmV d), .val (.tup [.int .i64 lo, .int .i64 hi]), .val (rp s1 f1 t1 g1 a1 b1), .val (rp s2 f2 t2 g2 a2 b2), .val (.int .i64 c1), .bit false, .val (rp s1 f1 t1 g1 a1 b1), .val (rp s3 f3 t3 g3 a3 b3), .val (.int .i64 c2), .bit false]) [1, 14, 15, 16] [] [6] (ex := Ex.normal) (vs := [PV.sl g vs, PV.sl f (dl l), PV.int IntKind.i64 n, PV.int IntKind.i64 (1 : Int)]) (bs := []) (cs := [1]) hs (fun R B C => by kernel_rfl) ho
theorem w_lo0 {f g s1 f1 t1 g1 s2 f2 t2 g2 : Bool} {l : List Dm} {vs : List PV} {n lo hi c1 : Int} {d : Dm} {a1 b1 a2 b2 : List Nat} {O : Orc} {st : St} (hs : HasC [(1, .sl g vs), (14, .sl f (dl l)), (15, .int .i64 n), (16, .int .i64 0)] [] [(6, 0)] st) (ho : decide (c1 < (0 : Int)) = true ∧ PV.persL [PV.agg [PV.bool s1, PV.sl f1 (dv a1), PV.bool t1, PV.sl g1 (dv b1)], PV.agg [PV.bool s2, PV.sl f2 (dv a2), PV.bool t2, PV.sl g2 (dv b2)]] = true ∧ O.pure 32 [PV.agg [PV.bool s1, PV.sl f1 (dv a1), PV.bool t1, PV.sl g1 (dv b1)], PV.agg [PV.bool s2, PV.sl f2 (dv a2), PV.bool t2, PV.sl g2 (dv b2)]] = some (PV.int IntKind.i64 c1) ∧ PV.persL [PV.int IntKind.i64 lo] = true ∧ O.pure 16 [PV.int IntKind.i64 lo] = some (PV.agg [PV.bool s2, PV.sl f2 (dv a2), PV.bool t2, PV.sl g2 (dv b2)]) ∧ ((0 : Int) ≤ (0 : Int) ∧ vs[0]? = some (PV.agg [PV.bool s1, PV.sl f1 (dv a1), PV.bool t1, PV.sl g1 (dv b1)])) ∧ PV.persL [PV.agg [PV.str d.1, PV.int IntKind.i64 d.2, PV.int IntKind.i64 d.3, PV.int IntKind.i64 d.4]] = true ∧ O.pure 14 [PV.agg [PV.str d.1, PV.int IntKind.i64 d.2, PV.int IntKind.i64 d.3, PV.int IntKind.i64 d.4]] = some (PV.tup [PV.int IntKind.i64 lo, PV.int IntKind.i64 hi]) ∧ ((0 : Int) ≤ (0 : Int) ∧ (dl l)[0]? = some (PV.agg [PV.str d.1, PV.int IntKind.i64 d.2, PV.int IntKind.i64 d.3, PV.int IntKind.i64 d.4])) ∧ decide ((0 : Int) < n) = true ∧ True) : ∃ st', Ev (wC) O (wL) st (Ex.ret) st' ∧ HasC [(4, PV.bool false)] [] [] st' :=
  Ev.walkC (fl := flg [(4,0,.bit),(5,1,.elem),(6,1,.pers),(7,2,.elem),(7,5,.pers),(7,6,.pers),(7,7,.bit)]) (n := 50) (tr := [.bit true, .val (dmV d), .val (.tup [.int .i64 lo, .int .i64 hi]), .val (rp s1 f1 t1 g1 a1 b1), .val (rp s2 f2 t2 g2 a2 b2), .val (.int .i64 c1), .bit true]) [4] [] [] (ex := Ex.ret) (vs := [PV.bool false]) (bs := []) (cs := []) hs (fun R B C => by kernel_rfl) ho
theorem w_hi0 {f g s1 f1 t1 g1 s2 f2 t2 g2 s3 f3 t3 g3 : Bool} {l : List Dm} {vs : List PV} {n lo hi c1 c2 : Int} {d : Dm} {a1 b1 a2 b2 a3 b3 : List Nat} {O : Orc} {st : St} (hs : HasC [(1, .sl g vs), (14, .sl f (dl l)), (15, .int .i64 n), (16, .int .i64 0)] [] [(6, 0)] st) (ho : decide ((0 : Int) < c2) = true ∧ PV.persL [PV.agg [PV.bool s1, PV.sl f1 (dv a1), PV.bool t1, PV.sl g1 (dv b1)], PV.agg [PV.bool s3, PV.sl f3 (dv a3), PV.bool t3, PV.sl g3 (dv b3)]] = true ∧ O.pure 32 [PV.agg [PV.bool s1, PV.sl f1 (dv a1), PV.bool t1, PV.sl g1 (dv b1)], PV.agg [PV.bool s3, PV.sl f3 (dv a3), PV.bool t3, PV.sl g3 (dv b3)]] = some (PV.int IntKind.i64 c2) ∧ PV.persL [PV.int IntKind.i64 hi] = true ∧ O.pure 16 [PV.int IntKind.i64 hi] = some (PV.agg [PV.bool s3, PV.sl f3 (dv a3), PV.bool t3, PV.sl g3 (dv b3)]) ∧ ((0 : Int) ≤ (0 : Int) ∧ vs[0]? = some (PV.agg [PV.bool s1, PV.sl f1 (dv a1), PV.bool t1, PV.sl g1 (dv b1)])) ∧ decide (c1 < (0 : Int)) = false ∧ PV.persL [PV.agg [PV.bool s1, PV.sl f1 (dv a1), PV.bool t1, PV.sl g1 (dv b1)], PV.agg [PV.bool s2, PV.sl f2 (dv a2), PV.bool t2, PV.sl g2 (dv b2)]] = true ∧ O.pure 32 [PV.agg [PV.bool s1, PV.sl f1 (dv a1), PV.bool t1, PV.sl g1 (dv b1)], PV.agg [PV.bool s2, PV.sl f2 (dv a2), PV.bool t2, PV.sl g2 (dv b2)]] = some (PV.int IntKind.i64 c1) ∧ PV.persL [PV.int IntKind.i64 lo] = true ∧ O.pure 16 [PV.int IntKind.i64 lo] = some (PV.agg [PV.bool s2, PV.sl f2 (dv a2), PV.bool t2, PV.sl g2 (dv b2)]) ∧ ((0 : Int) ≤ (0 : Int) ∧ vs[0]? = some (PV.agg [PV.bool s1, PV.sl f1 (dv a1), PV.bool t1, PV.sl g1 (dv b1)])) ∧ PV.persL [PV.agg [PV.str d.1, PV.int IntKind.i64 d.2, PV.int IntKind.i64 d.3, PV.int IntKind.i64 d.4]] = true ∧ O.pure 14 [PV.agg [PV.str d.1, PV.int IntKind.i64 d.2, PV.int IntKind.i64 d.3, PV.int IntKind.i64 d.4]] = some (PV.tup [PV.int IntKind.i64 lo, PV.int IntKind.i64 hi]) ∧ ((0 : Int) ≤ (0 : Int) ∧ (dl l)[0]? = some (PV.agg [PV.str d.1, PV.int IntKind.i64 d.2, PV.int IntKind.i64 d.3, PV.int IntKind.i64 d.4])) ∧ decide ((0 : Int) < n) = true ∧ True) : ∃ st', Ev (wC) O (wL) st (Ex.ret) st' ∧ HasC [(4, PV.bool false)] [] [] st' :=
  Ev.walkC (fl := flg [(4,0,.bit),(5,1,.elem),(6,1,.pers),(7,2,.elem),(7,5,.pers),(7,6,.pers),(7,7,.bit),(7,11,.elem),(7,14,.pers),(7,15,.pers),(7,16,.bit)]) (n := 50) (tr := [.bit true, .val (dmV d), .val (.tup [.int .i64 lo, .int .i64 hi]), .val (rp s1 f1 t1 g1 a1 b1), .val (rp s2 f2 t2 g2 a2 b2), .val (.int .i64 c1), .bit false, .val (rp s1 f1 t1 g1 a1 b1), .val (rp s3 f3 t3 g3 a3 b3), .val (.int .i64 c2), .bit true]) [4] [] [] (ex := Ex.ret) (vs := [PV.bool false]) (bs := []) (cs := []) hs (fun R B C => by kernel_rfl) ho
theorem w_ok1 {f g s1 f1 t1 g1 s2 f2 t2 g2 s3 f3 t3 g3 : Bool} {l : List Dm} {vs : List PV} {n lo hi c1 c2 : Int} {d : Dm} {a1 b1 a2 b2 a3 b3 : List Nat} {O : Orc} {st : St} (hs : HasC [(1, .sl g vs), (14, .sl f (dl l)), (15, .int .i64 n), (16, .int .i64 1)] [] [(6, 1)] st) (ho : decide ((0 : Int) < c2) = false ∧ PV.persL [PV.agg [PV.bool s1, PV.sl f1 (dv a1), PV.bool t1, PV.sl g1 (dv b1)], PV.agg [PV.bool s3, PV.sl f3 (dv a3), PV.bool t3, PV.sl g3 (dv b3)]] = true ∧ O.pure 32 [PV.agg [PV.bool s1, PV.sl f1 (dv a1), PV.bool t1, PV.sl g1 (dv b1)], PV.agg [PV.bool s3, PV.sl f3 (dv a3), PV.bool t3, PV.sl g3 (dv b3)]] = some (PV.int IntKind.i64 c2) ∧ PV.persL [PV.int IntKind.i64 hi] = true ∧ O.pure 16 [PV.int IntKind.i64 hi] = some (PV.agg [PV.bool s3, PV.sl f3 (dv a3), PV.bool t3, PV.sl g3 (dv b3)]) ∧ ((0 : Int) ≤ (1 : Int) ∧ vs[1]? = some (PV.agg [PV.bool s1, PV.sl f1 (dv a1), PV.bool t1, PV.sl g1 (dv b1)])) ∧ decide (c1 < (0 : Int)) = false ∧ PV.persL [PV.agg [PV.bool s1, PV.sl f1 (dv a1), PV.bool t1, PV.sl g1 (dv b1)], PV.agg [PV.bool s2, PV.sl f2 (dv a2), PV.bool t2, PV.sl g2 (dv b2)]] = true ∧ O.pure 32 [PV.agg [PV.bool s1, PV.sl f1 (dv a1), PV.bool t1, PV.sl g1 (dv b1)], PV.agg [PV.bool s2, PV.sl f2 (dv a2), PV.bool t2, PV.sl g2 (dv b2)]] = some (PV.int IntKind.i64 c1) ∧ PV.persL [PV.int IntKind.i64 lo] = true ∧ O.pure 16 [PV.int IntKind.i64 lo] = some (PV.agg [PV.bool s2, PV.sl f2 (dv a2), PV.bool t2, PV.sl g2 (dv b2)]) ∧ ((0 : Int) ≤ (1 : Int) ∧ vs[1]? = some (PV.agg [PV.bool s1, PV.sl f1 (dv a1), PV.bool t1, PV.sl g1 (dv b1)])) ∧ PV.persL [PV.agg [PV.str d.1, PV.int IntKind.i64 d.2, PV.int IntKind.i64 d.3, PV.int IntKind.i64 d.4]] = true ∧ O.pure 14 [PV.agg [PV.str d.1, PV.int IntKind.i64 d.2, PV.int IntKind.i64 d.3, PV.int IntKind.i64 d.4]] = some (PV.tup [PV.int IntKind.i64 lo, PV.int IntKind.i64 hi]) ∧ ((0 : Int) ≤ (1 : Int) ∧ (dl l)[1]? = some (PV.agg [PV.str d.1, PV.int IntKind.i64 d.2, PV.int IntKind.i64 d.3, PV.int IntKind.i64 d.4])) ∧ decide ((1 : Int) < n) = true ∧ True) : ∃ st', Ev (wC) O (wL) st (Ex.normal) st' ∧ HasC [(1, PV.sl g vs), (14, PV.sl f (dl l)), (15, PV.int IntKind.i64 n), (16, PV.int IntKind.i64 (2 : Int))] [] [(6, 2)] st' :=
  Ev.walkC (fl := flg [(4,0,.bit),(5,1,.elem),(6,1,.pers),(7,2,.elem),(7,5,.pers),(7,6,.pers),(7,7,.bit),(7,11,.elem),(7,14,.pers),(7,15,.pers),(7,16,.bit)]) (n := 50) (tr := [.bit true, .val (dmV d), .val (.tup [.int .i64 lo, .int .i64 hi]), .val (rp s1 f1 t1 g1 a1 b1), .val (rp s2 f2 t2 g2 a2 b2), .val (.int .i64 c1), .bit false, .val (rp s1 f1 t1 g1 a1 b1), .val (rp s3 f3 t3 g3 a3 b3), .val (.int .i64 c2), .bit false]) [1, 14, 15, 16] [] [6] (ex := Ex.normal) (vs := [PV.sl g vs, PV.sl f (dl l), PV.int IntKind.i64 n, PV.int IntKind.i64 (2 : Int)]) (bs := []) (cs := [2]) hs (fun R B C => by kernel_rfl) ho
theorem w_lo1 {f g s1 f1 t1 g1 s2 f2 t2 g2 : Bool} {l : List Dm} {vs : List PV} {n lo hi c1 : Int} {d : Dm} {a1 b1 a2 b2 : List Nat} {O : Orc} {st : St} (hs : HasC [(1, .sl g vs), (14, .sl f (dl l)), (15, .int .i64 n), (16, .int .i64 1)] [] [(6, 1)] st) (ho : decide (c1 < (0 : Int)) = true ∧ PV.persL [PV.agg [PV.bool s1, PV.sl f1 (dv a1), PV.bool t1, PV.sl g1 (dv b1)], PV.agg [PV.bool s2, PV.sl f2 (dv a2), PV.bool t2, PV.sl g2 (dv b2)]] = true ∧ O.pure 32 [PV.agg [PV.bool s1, PV.sl f1 (dv a1), PV.bool t1, PV.sl g1 (dv b1)], PV.agg [PV.bool s2, PV.sl f2 (dv a2), PV.bool t2, PV.sl g2 (dv b2)]] = some (PV.int IntKind.i64 c1) ∧ PV.persL [PV.int IntKind.i64 lo] = true ∧ O.pure 16 [PV.int IntKind.i64 lo] = some (PV.agg [PV.bool s2, PV.sl f2 (dv a2), PV.bool t2, PV.sl g2 (dv b2)]) ∧ ((0 : Int) ≤ (1 : Int) ∧ vs[1]? = some (PV.agg [PV.bool s1, PV.sl f1 (dv a1), PV.bool t1, PV.sl g1 (dv b1)])) ∧ PV.persL [PV.agg [PV.str d.1, PV.int IntKind.i64 d.2, PV.int IntKind.i64 d.3, PV.int IntKind.i64 d.4]] = true ∧ O.pure 14 [PV.agg [PV.str d.1, PV.int IntKind.i64 d.2, PV.int IntKind.i64 d.3, PV.int IntKind.i64 d.4]] = some (PV.tup [PV.int IntKind.i64 lo, PV.int IntKind.i64 hi]) ∧ ((0 : Int) ≤ (1 : Int) ∧ (dl l)[1]? = some (PV.agg [PV.str d.1, PV.int IntKind.i64 d.2, PV.int IntKind.i64 d.3, PV.int IntKind.i64 d.4])) ∧ decide ((1 : Int) < n) = true ∧ True) : ∃ st', Ev (wC) O (wL) st (Ex.ret) st' ∧ HasC [(4, PV.bool false)] [] [] st' :=
  Ev.walkC (fl := flg [(4,0,.bit),(5,1,.elem),(6,1,.pers),(7,2,.elem),(7,5,.pers),(7,6,.pers),(7,7,.bit)]) (n := 50) (tr := [.bit true, .val (dmV d), .val (.tup [.int .i64 lo, .int .i64 hi]), .val (rp s1 f1 t1 g1 a1 b1), .val (rp s2 f2 t2 g2 a2 b2), .val (.int .i64 c1), .bit true]) [4] [] [] (ex := Ex.ret) (vs := [PV.bool false]) (bs := []) (cs := []) hs (fun R B C => by kernel_rfl) ho
theorem w_hi1 {f g s1 f1 t1 g1 s2 f2 t2 g2 s3 f3 t3 g3 : Bool} {l : List Dm} {vs : List PV} {n lo hi c1 c2 : Int} {d : Dm} {a1 b1 a2 b2 a3 b3 : List Nat} {O : Orc} {st : St} (hs : HasC [(1, .sl g vs), (14, .sl f (dl l)), (15, .int .i64 n), (16, .int .i64 1)] [] [(6, 1)] st) (ho : decide ((0 : Int) < c2) = true ∧ PV.persL [PV.agg [PV.bool s1, PV.sl f1 (dv a1), PV.bool t1, PV.sl g1 (dv b1)], PV.agg [PV.bool s3, PV.sl f3 (dv a3), PV.bool t3, PV.sl g3 (dv b3)]] = true ∧ O.pure 32 [PV.agg [PV.bool s1, PV.sl f1 (dv a1), PV.bool t1, PV.sl g1 (dv b1)], PV.agg [PV.bool s3, PV.sl f3 (dv a3), PV.bool t3, PV.sl g3 (dv b3)]] = some (PV.int IntKind.i64 c2) ∧ PV.persL [PV.int IntKind.i64 hi] = true ∧ O.pure 16 [PV.int IntKind.i64 hi] = some (PV.agg [PV.bool s3, PV.sl f3 (dv a3), PV.bool t3, PV.sl g3 (dv b3)]) ∧ ((0 : Int) ≤ (1 : Int) ∧ vs[1]? = some (PV.agg [PV.bool s1, PV.sl f1 (dv a1), PV.bool t1, PV.sl g1 (dv b1)])) ∧ decide (c1 < (0 : Int)) = false ∧ PV.persL [PV.agg [PV.bool s1, PV.sl f1 (dv a1), PV.bool t1, PV.sl g1 (dv b1)], PV.agg [PV.bool s2, PV.sl f2 (dv a2), PV.bool t2, PV.sl g2 (dv b2)]] = true ∧ O.pure 32 [PV.agg [PV.bool s1, PV.sl f1 (dv a1), PV.bool t1, PV.sl g1 (dv b1)], PV.agg [PV.bool s2, PV.sl f2 (dv a2), PV.bool t2, PV.sl g2 (dv b2)]] = some (PV.int IntKind.i64 c1) ∧ PV.persL [PV.int IntKind.i64 lo] = true ∧ O.pure 16 [PV.int IntKind.i64 lo] = some (PV.agg [PV.bool s2, PV.sl f2 (dv a2), PV.bool t2, PV.sl g2 (dv b2)]) ∧ ((0 : Int) ≤ (1 : Int) ∧ vs[1]? = some (PV.agg [PV.bool s1, PV.sl f1 (dv a1), PV.bool t1, PV.sl g1 (dv b1)])) ∧ PV.persL [PV.agg [PV.str d.1, PV.int IntKind.i64 d.2, PV.int IntKind.i64 d.3, PV.int IntKind.i64 d.4]] = true ∧ O.pure 14 [PV.agg [PV.str d.1, PV.int IntKind.i64 d.2, PV.int IntKind.i64 d.3, PV.int IntKind.i64 d.4]] = some (PV.tup [PV.int IntKind.i64 lo, PV.int IntKind.i64 hi]) ∧ ((0 : Int) ≤ (1 : Int) ∧ (dl l)[1]? = some (PV.agg [PV.str d.1, PV.int IntKind.i64 d.2, PV.int IntKind.i64 d.3, PV.int IntKind.i64 d.4])) ∧ decide ((1 : Int) < n) = true ∧ True) : ∃ st', Ev (wC) O (wL) st (Ex.ret) st' ∧ HasC [(4, PV.bool false)] [] [] st' :=
  Ev.walkC (fl := flg [(4,0,.bit),(5,1,.elem),(6,1,.pers),(7,2,.elem),(7,5,.pers),(7,6,.pers),(7,7,.bit),(7,11,.elem),(7,14,.pers),(7,15,.pers),(7,16,.bit)]) (n := 50) (tr := [.bit true, .val (dmV d), .val (.tup [.int .i64 lo, .int .i64 hi]), .val (rp s1 f1 t1 g1 a1 b1), .val (rp s2 f2 t2 g2 a2 b2), .val (.int .i64 c1), .bit false, .val (rp s1 f1 t1 g1 a1 b1), .val (rp s3 f3 t3 g3 a3 b3), .val (.int .i64 c2), .bit true]) [4] [] [] (ex := Ex.ret) (vs := [PV.bool false]) (bs := []) (cs := []) hs (fun R B C => by kernel_rfl) ho
theorem w_ok2 {f g s1 f1 t1 g1 s2 f2 t2 g2 s3 f3 t3 g3 : Bool} {l : List Dm} {vs : List PV} {n lo hi c1 c2 : Int} {d : Dm} {a1 b1 a2 b2 a3 b3 : List Nat} {O : Orc} {st : St} (hs : HasC [(1, .sl g vs), (14, .sl f (dl l)), (15, .int .i64 n), (16, .int .i64 2)] [] [(6, 2)] st) (ho : decide ((0 : Int) < c2) = false ∧ PV.persL [PV.agg [PV.bool s1, PV.sl f1 (dv a1), PV.bool t1, PV.sl g1 (dv b1)], PV.agg [PV.bool s3, PV.sl f3 (dv a3), PV.bool t3, PV.sl g3 (dv b3)]] = true ∧ O.pure 32 [PV.agg [PV.bool s1, PV.sl f1 (dv a1), PV.bool t1, PV.sl g1 (dv b1)], PV.agg [PV.bool s3, PV.sl f3 (dv a3), PV.bool t3, PV.sl g3 (dv b3)]] = some (PV.int IntKind.i64 c2) ∧ PV.persL [PV.int IntKind.i64 hi] = true ∧ O.pure 16 [PV.int IntKind.i64 hi] = some (PV.agg [PV.bool s3, PV.sl f3 (dv a3), PV.bool t3, PV.sl g3 (dv b3)]) ∧ ((0 : Int) ≤ (2 : Int) ∧ vs[2]? = some (PV.agg [PV.bool s1, PV.sl f1 (dv a1), PV.bool t1, PV.sl g1 (dv b1)])) ∧ decide (c1 < (0 : Int)) = false ∧ PV.persL [PV.agg [PV.bool s1, PV.sl f1 (dv a1), PV.bool t1, PV.sl g1 (dv b1)], PV.agg [PV.bool s2, PV.sl f2 (dv a2), PV.bool t2, PV.sl g2 (dv b2)]] = true ∧ O.pure 32 [PV.agg [PV.bool s1, PV.sl f1 (dv a1), PV.bool t1, PV.sl g1 (dv b1)], PV.agg [PV.bool s2, PV.sl f2 (dv a2), PV.bool t2, PV.sl g2 (dv b2)]] = some (PV.int IntKind.i64 c1) ∧ PV.persL [PV.int IntKind.i64 lo] = true ∧ O.pure 16 [PV.int IntKind.i64 lo] = some (PV.agg [PV.bool s2, PV.sl f2 (dv a2), PV.bool t2, PV.sl g2 (dv b2)]) ∧ ((0 : Int) ≤ (2 : Int) ∧ vs[2]? = some (PV.agg [PV.bool s1, PV.sl f1 (dv a1), PV.bool t1, PV.sl g1 (dv b1)])) ∧ PV.persL [PV.agg [PV.str d.1, PV.int IntKind.i64 d.2, PV.int IntKind.i64 d.3, PV.int IntKind.i64 d.4]] = true ∧ O.pure 14 [PV.agg [PV.str d.1, PV.int IntKind.i64 d.2, PV.int IntKind.i64 d.3, PV.int IntKind.i64 d.4]] = some (PV.tup [PV.int IntKind.i64 lo, PV.int IntKind.i64 hi]) ∧ ((0 : Int) ≤ (2 : Int) ∧ (dl l)[2]? = some (PV.agg [PV.str d.1, PV.int IntKind.i64 d.2, PV.int IntKind.i64 d.3, PV.int IntKind.i64 d.4])) ∧ decide ((2 : Int) < n) = true ∧ True) : ∃ st', Ev (wC) O (wL) st (Ex.normal) st' ∧ HasC [(1, PV.sl g vs), (14, PV.sl f (dl l)), (15, PV.int IntKind.i64 n), (16, PV.int IntKind.i64 (3 : Int))] [] [(6, 3)] st' :=
  Ev.walkC (fl := flg [(4,0,.bit),(5,1,.elem),(6,1,.pers),(7,2,.elem),(7,5,.pers),(7,6,.pers),(7,7,.bit),(7,11,.elem),(7,14,.pers),(7,15,.pers),(7,16,.bit)]) (n := 50) (tr := [.bit true, .val (dmV d), .val (.tup [.int .i64 lo, .int .i64 hi]), .val (rp s1 f1 t1 g1 a1 b1), .val (rp s2 f2 t2 g2 a2 b2), .val (.int .i64 c1), .bit false, .val (rp s1 f1 t1 g1 a1 b1), .val (rp s3 f3 t3 g3 a3 b3), .val (.int .i64 c2), .bit false]) [1, 14, 15, 16] [] [6] (ex := Ex.normal) (vs := [PV.sl g vs, PV.sl f (dl l), PV.int IntKind.i64 n, PV.int IntKind.i64 (3 : Int)]) (bs := []) (cs := [3]) hs (fun R B C => by kernel_rfl) ho
theorem w_lo2 {f g s1 f1 t1 g1 s2 f2 t2 g2 : Bool} {l : List Dm} {vs : List PV} {n lo hi c1 : Int} {d : Dm} {a1 b1 a2 b2 : List Nat} {O : Orc} {st : St} (hs : HasC [(1, .sl g vs), (14, .sl f (dl l)), (15, .int .i64 n), (16, .int .i64 2)] [] [(6, 2)] st) (ho : decide (c1 < (0 : Int)) = true ∧ PV.persL [PV.agg [PV.bool s1, PV.sl f1 (dv a1), PV.bool t1, PV.sl g1 (dv b1)], PV.agg [PV.bool s2, PV.sl f2 (dv a2), PV.bool t2, PV.sl g2 (dv b2)]] = true ∧ O.pure 32 [PV.agg [PV.bool s1, PV.sl f1 (dv a1), PV.bool t1, PV.sl g1 (dv b1)], PV.agg [PV.bool s2, PV.sl f2 (dv a2), PV.bool t2, PV.sl g2 (dv b2)]] = some (PV.int IntKind.i64 c1) ∧ PV.persL [PV.int IntKind.i64 lo] = true ∧ O.pure 16 [PV.int IntKind.i64 lo] = some (PV.agg [PV.bool s2, PV.sl f2 (dv a2), PV.bool t2, PV.sl g2 (dv b2)]) ∧ ((0 : Int) ≤ (2 : Int) ∧ vs[2]? = some (PV.agg [PV.bool s1, PV.sl f1 (dv a1), PV.bool t1, PV.sl g1 (dv b1)])) ∧ PV.persL [PV.agg [PV.str d.1, PV.int IntKind.i64 d.2, PV.int IntKind.i64 d.3, PV.int IntKind.i64 d.4]] = true ∧ O.pure 14 [PV.agg [PV.str d.1, PV.int IntKind.i64 d.2, PV.int IntKind.i64 d.3, PV.int IntKind.i64 d.4]] = some (PV.tup [PV.int IntKind.i64 lo, PV.int IntKind.i64 hi]) ∧ ((0 : Int) ≤ (2 : Int) ∧ (dl l)[2]? = some (PV.agg [PV.str d.1, PV.int IntKind.i64 d.2, PV.int IntKind.i64 d.3, PV.int IntKind.i64 d.4])) ∧ decide ((2 : Int) < n) = true ∧ True) : ∃ st', Ev (wC) O (wL) st (Ex.ret) st' ∧ HasC [(4, PV.bool false)] [] [] st' :=
  Ev.walkC (fl := flg [(4,0,.bit),(5,1,.elem),(6,1,.pers),(7,2,.elem),(7,5,.pers),(7,6,.pers),(7,7,.bit)]) (n := 50) (tr := [.bit true, .val (dmV d), .val (.tup [.int .i64 lo, .int .i64 hi]), .val (rp s1 f1 t1 g1 a1 b1), .val (rp s2 f2 t2 g2 a2 b2), .val (.int .i64 c1), .bit true]) [4] [] [] (ex := Ex.ret) (vs := [PV.bool false]) (bs := []) (cs := []) hs (fun R B C => by kernel_rfl) ho
theorem w_hi2 {f g s1 f1 t1 g1 s2 f2 t2 g2 s3 f3 t3 g3 : Bool} {l : List Dm} {vs : List PV} {n lo hi c1 c2 : Int} {d : Dm} {a1 b1 a2 b2 a3 b3 : List Nat} {O : Orc} {st : St} (hs : HasC [(1, .sl g vs), (14, .sl f (dl l)), (15, .int .i64 n), (16, .int .i64 2)] [] [(6, 2)] st) (ho : decide ((0 : Int) < c2) = true ∧ PV.persL [PV.agg [PV.bool s1, PV.sl f1 (dv a1), PV.bool t1, PV.sl g1 (dv b1)], PV.agg [PV.bool s3, PV.sl f3 (dv a3), PV.bool t3, PV.sl g3 (dv b3)]] = true ∧ O.pure 32 [PV.agg [PV.bool s1, PV.sl f1 (dv a1), PV.bool t1, PV.sl g1 (dv b1)], PV.agg [PV.bool s3, PV.sl f3 (dv a3), PV.bool t3, PV.sl g3 (dv b3)]] = some (PV.int IntKind.i64 c2) ∧ PV.persL [PV.int IntKind.i64 hi] = true ∧ O.pure 16 [PV.int IntKind.i64 hi] = some (PV.agg [PV.bool s3, PV.sl f3 (dv a3), PV.bool t3, PV.sl g3 (dv b3)]) ∧ ((0 : Int) ≤ (2 : Int) ∧ vs[2]? = some (PV.agg [PV.bool s1, PV.sl f1 (dv a1), PV.bool t1, PV.sl g1 (dv b1)])) ∧ decide (c1 < (0 : Int)) = false ∧ PV.persL [PV.agg [PV.bool s1, PV.sl f1 (dv a1), PV.bool t1, PV.sl g1 (dv b1)], PV.agg [PV.bool s2, PV.sl f2 (dv a2), PV.bool t2, PV.sl g2 (dv b2)]] = true ∧ O.pure 32 [PV.agg [PV.bool s1, PV.sl f1 (dv a1), PV.bool t1, PV.sl g1 (dv b1)], PV.agg [PV.bool s2, PV.sl f2 (dv a2), PV.bool t2, PV.sl g2 (dv b2)]] = some (PV.int IntKind.i64 c1) ∧ PV.persL [PV.int IntKind.i64 lo] = true ∧ O.pure 16 [PV.int IntKind.i64 lo] = some (PV.agg [PV.bool s2, PV.sl f2 (dv a2), PV.bool t2, PV.sl g2 (dv b2)]) ∧ ((0 : Int) ≤ (2 : Int) ∧ vs[2]? = some (PV.agg [PV.bool s1, PV.sl f1 (dv a1), PV.bool t1, PV.sl g1 (dv b1)])) ∧ PV.persL [PV.agg [PV.str d.1, PV.int IntKind.i64 d.2, PV.int IntKind.i64 d.3, PV.int IntKind.i64 d.4]] = true ∧ O.pure 14 [PV.agg [PV.str d.1, PV.int IntKind.i64 d.2, PV.int IntKind.i64 d.3, PV.int IntKind.i64 d.4]] = some (PV.tup [PV.int IntKind.i64 lo, PV.int IntKind.i64 hi]) ∧ ((0 : Int) ≤ (2 : Int) ∧ (dl l)[2]? = some (PV.agg [PV.str d.1, PV.int IntKind.i64 d.2, PV.int IntKind.i64 d.3, PV.int IntKind.i64 d.4])) ∧ decide ((2 : Int) < n) = true ∧ True) : ∃ st', Ev (wC) O (wL) st (Ex.ret) st' ∧ HasC [(4, PV.bool false)] [] [] st' :=
  Ev.walkC (fl := flg [(4,0,.bit),(5,1,.elem),(6,1,.pers),(7,2,.elem),(7,5,.pers),(7,6,.pers),(7,7,.bit),(7,11,.elem),(7,14,.pers),(7,15,.pers),(7,16,.bit)]) (n := 50) (tr := [.bit true, .val (dmV d), .val (.tup [.int .i64 lo, .int .i64 hi]), .val (rp s1 f1 t1 g1 a1 b1), .val (rp s2 f2 t2 g2 a2 b2), .val (.int .i64 c1), .bit false, .val (rp s1 f1 t1 g1 a1 b1), .val (rp s3 f3 t3 g3 a3 b3), .val (.int .i64 c2), .bit true]) [4] [] [] (ex := Ex.ret) (vs := [PV.bool false]) (bs := []) (cs := []) hs (fun R B C => by kernel_rfl) ho
theorem w_ok3 {f g s1 f1 t1 g1 s2 f2 t2 g2 s3 f3 t3 g3 : Bool} {l : List Dm} {vs : List PV} {n lo hi c1 c2 : Int} {d : Dm} {a1 b1 a2 b2 a3 b3 : List Nat} {O : Orc} {st : St} (hs : HasC [(1, .sl g vs), (14, .sl f (dl l)), (15, .int .i64 n), (16, .int .i64 3)] [] [(6, 3)] st) (ho : decide ((0 : Int) < c2) = false ∧ PV.persL [PV.agg [PV.bool s1, PV.sl f1 (dv a1), PV.bool t1, PV.sl g1 (dv b1)], PV.agg [PV.bool s3, PV.sl f3 (dv a3), PV.bool t3, PV.sl g3 (dv b3)]] = true ∧ O.pure 32 [PV.agg [PV.bool s1, PV.sl f1 (dv a1), PV.bool t1, PV.sl g1 (dv b1)], PV.agg [PV.bool s3, PV.sl f3 (dv a3), PV.bool t3, PV.sl g3 (dv b3)]] = some (PV.int IntKind.i64 c2) ∧ PV.persL [PV.int IntKind.i64 hi] = true ∧ O.pure 16 [PV.int IntKind.i64 hi] = some (PV.agg [PV.bool s3, PV.sl f3 (dv a3), PV.bool t3, PV.sl g3 (dv b3)]) ∧ ((0 : Int) ≤ (3 : Int) ∧ vs[3]? = some (PV.agg [PV.bool s1, PV.sl f1 (dv a1), PV.bool t1, PV.sl g1 (dv b1)])) ∧ decide (c1 < (0 : Int)) = false ∧ PV.persL [PV.agg [PV.bool s1, PV.sl f1 (dv a1), PV.bool t1, PV.sl g1 (dv b1)], PV.agg [PV.bool s2, PV.sl f2 (dv a2), PV.bool t2, PV.sl g2 (dv b2)]] = true ∧ O.pure 32 [PV.agg [PV.bool s1, PV.sl f1 (dv a1), PV.bool t1, PV.sl g1 (dv b1)], PV.agg [PV.bool s2, PV.sl f2 (dv a2), PV.bool t2, PV.sl g2 (dv b2)]] = some (PV.int IntKind.i64 c1) ∧ PV.persL [PV.int IntKind.i64 lo] = true ∧ O.pure 16 [PV.int IntKind.i64 lo] = some (PV.agg [PV.bool s2, PV.sl f2 (dv a2), PV.bool t2, PV.sl g2 (dv b2)]) ∧ ((0 : Int) ≤ (3 : Int) ∧ vs[3]? = some (PV.agg [PV.bool s1, PV.sl f1 (dv a1), PV.bool t1, PV.sl g1 (dv b1)])) ∧ PV.persL [PV.agg [PV.str d.1, PV.int IntKind.i64 d.2, PV.int IntKind.i64 d.3, PV.int IntKind.i64 d.4]] = true ∧ O.pure 14 [PV.agg [PV.str d.1, PV.int IntKind.i64 d.2, PV.int IntKind.i64 d.3, PV.int IntKind.i64 d.4]] = some (PV.tup [PV.int IntKind.i64 lo, PV.int IntKind.i64 hi]) ∧ ((0 : Int) ≤ (3 : Int) ∧ (dl l)[3]? = some (PV.agg [PV.str d.1, PV.int IntKind.i64 d.2, PV.int IntKind.i64 d.3, PV.int IntKind.i64 d.4])) ∧ decide ((3 : Int) < n) = true ∧ True) : ∃ st', Ev (wC) O (wL) st (Ex.normal) st' ∧ HasC [(1, PV.sl g vs), (14, PV.sl f (dl l)), (15, PV.int IntKind.i64 n), (16, PV.int IntKind.i64 (4 : Int))] [] [(6, 4)] st' :=
  Ev.walkC (fl := flg [(4,0,.bit),(5,1,.elem),(6,1,.pers),(7,2,.elem),(7,5,.pers),(7,6,.pers),(7,7,.bit),(7,11,.elem),(7,14,.pers),(7,15,.pers),(7,16,.bit)]) (n := 50) (tr := [.bit true, .val (dmV d), .val (.tup [.int .i64 lo, .int .i64 hi]), .val (rp s1 f1 t1 g1 a1 b1), .val (rp s2 f2 t2 g2 a2 b2), .val (.int .i64 c1), .bit false, .val (rp s1 f1 t1 g1 a1 b1), .val (rp s3 f3 t3 g3 a3 b3), .val (.int .i64 c2), .bit false]) [1, 14, 15, 16] [] [6] (ex := Ex.normal) (vs := [PV.sl g vs, PV.sl f (dl l), PV.int IntKind.i64 n, PV.int IntKind.i64 (4 : Int)]) (bs := []) (cs := [4]) hs (fun R B C => by kernel_rfl) ho
theorem w_lo3 {f g s1 f1 t1 g1 s2 f2 t2 g2 : Bool} {l : List Dm} {vs : List PV} {n lo hi c1 : Int} {d : Dm} {a1 b1 a2 b2 : List Nat} {O : Orc} {st : St} (hs : HasC [(1, .sl g vs), (14, .sl f (dl l)), (15, .int .i64 n), (16, .int .i64 3)] [] [(6, 3)] st) (ho : decide (c1 < (0 : Int)) = true ∧ PV.persL [PV.agg [PV.bool s1, PV.sl f1 (dv a1), PV.bool t1, PV.sl g1 (dv b1)], PV.agg [PV.bool s2, PV.sl f2 (dv a2), PV.bool t2, PV.sl g2 (dv b2)]] = true ∧ O.pure 32 [PV.agg [PV.bool s1, PV.sl f1 (dv a1), PV.bool t1, PV.sl g1 (dv b1)], PV.agg [PV.bool s2, PV.sl f2 (dv a2), PV.bool t2, PV.sl g2 (dv b2)]] = some (PV.int IntKind.i64 c1) ∧ PV.persL [PV.int IntKind.i64 lo] = true ∧ O.pure 16 [PV.int IntKind.i64 lo] = some (PV.agg [PV.bool s2, PV.sl f2 (dv a2), PV.bool t2, PV.sl g2 (dv b2)]) ∧ ((0 : Int) ≤ (3 : Int) ∧ vs[3]? = some (PV.agg [PV.bool s1, PV.sl f1 (dv a1), PV.bool t1, PV.sl g1 (dv b1)])) ∧ PV.persL [PV.agg [PV.str d.1, PV.int IntKind.i64 d.2, PV.int IntKind.i64 d.3, PV.int IntKind.i64 d.4]] = true ∧ O.pure 14 [PV.agg [PV.str d.1, PV.int IntKind.i64 d.2, PV.int IntKind.i64 d.3, PV.int IntKind.i64 d.4]] = some (PV.tup [PV.int IntKind.i64 lo, PV.int IntKind.i64 hi]) ∧ ((0 : Int) ≤ (3 : Int) ∧ (dl l)[3]? = some (PV.agg [PV.str d.1, PV.int IntKind.i64 d.2, PV.int IntKind.i64 d.3, PV.int IntKind.i64 d.4])) ∧ decide ((3 : Int) < n) = true ∧ True) : ∃ st', Ev (wC) O (wL) st (Ex.ret) st' ∧ HasC [(4, PV.bool false)] [] [] st' :=
  Ev.walkC (fl := flg [(4,0,.bit),(5,1,.elem),(6,1,.pers),(7,2,.elem),(7,5,.pers),(7,6,.pers),(7,7,.bit)]) (n := 50) (tr := [.bit true, .val (dmV d), .val (.tup [.int .i64 lo, .int .i64 hi]), .val (rp s1 f1 t1 g1 a1 b1), .val (rp s2 f2 t2 g2 a2 b2), .val (.int .i64 c1), .bit true]) [4] [] [] (ex := Ex.ret) (vs := [PV.bool false]) (bs := []) (cs := []) hs (fun R B C => by kernel_rfl) ho
theorem w_hi3 {f g s1 f1 t1 g1 s2 f2 t2 g2 s3 f3 t3 g3 : Bool} {l : List Dm} {vs : List PV} {n lo hi c1 c2 : Int} {d : Dm} {a1 b1 a2 b2 a3 b3 : List Nat} {O : Orc} {st : St} (hs : HasC [(1, .sl g vs), (14, .sl f (dl l)), (15, .int .i64 n), (16, .int .i64 3)] [] [(6, 3)] st) (ho : decide ((0 : Int) < c2) = true ∧ PV.persL [PV.agg [PV.bool s1, PV.sl f1 (dv a1), PV.bool t1, PV.sl g1 (dv b1)], PV.agg [PV.bool s3, PV.sl f3 (dv a3), PV.bool t3, PV.sl g3 (dv b3)]] = true ∧ O.pure 32 [PV.agg [PV.bool s1, PV.sl f1 (dv a1), PV.bool t1, PV.sl g1 (dv b1)], PV.agg [PV.bool s3, PV.sl f3 (dv a3), PV.bool t3, PV.sl g3 (dv b3)]] = some (PV.int IntKind.i64 c2) ∧ PV.persL [PV.int IntKind.i64 hi] = true ∧ O.pure 16 [PV.int IntKind.i64 hi] = some (PV.agg [PV.bool s3, PV.sl f3 (dv a3), PV.bool t3, PV.sl g3 (dv b3)]) ∧ ((0 : Int) ≤ (3 : Int) ∧ vs[3]? = some (PV.agg [PV.bool s1, PV.sl f1 (dv a1), PV.bool t1, PV.sl g1 (dv b1)])) ∧ decide (c1 < (0 : Int)) = false ∧ PV.persL [PV.agg [PV.bool s1, PV.sl f1 (dv a1), PV.bool t1, PV.sl g1 (dv b1)], PV.agg [PV.bool s2, PV.sl f2 (dv a2), PV.bool t2, PV.sl g2 (dv b2)]] = true ∧ O.pure 32 [PV.agg [PV.bool s1, PV.sl f1 (dv a1), PV.bool t1, PV.sl g1 (dv b1)], PV.agg [PV.bool s2, PV.sl f2 (dv a2), PV.bool t2, PV.sl g2 (dv b2)]] = some (PV.int IntKind.i64 c1) ∧ PV.persL [PV.int IntKind.i64 lo] = true ∧ O.pure 16 [PV.int IntKind.i64 lo] = some (PV.agg [PV.bool s2, PV.sl f2 (dv a2), PV.bool t2, PV.sl g2 (dv b2)]) ∧ ((0 : Int) ≤ (3 : Int) ∧ vs[3]? = some (PV.agg [PV.bool s1, PV.sl f1 (dv a1), PV.bool t1, PV.sl g1 (dv b1)])) ∧ PV.persL [PV.agg [PV.str d.1, PV.int IntKind.i64 d.2, PV.int IntKind.i64 d.3, PV.int IntKind.i64 d.4]] = true ∧ O.pure 14 [PV.agg [PV.str d.1, PV.int IntKind.i64 d.2, PV.int IntKind.i64 d.3, PV.int IntKind.i64 d.4]] = some (PV.tup [PV.int IntKind.i64 lo, PV.int IntKind.i64 hi]) ∧ ((0 : Int) ≤ (3 : Int) ∧ (dl l)[3]? = some (PV.agg [PV.str d.1, PV.int IntKind.i64 d.2, PV.int IntKind.i64 d.3, PV.int IntKind.i64 d.4])) ∧ decide ((3 : Int) < n) = true ∧ True) : ∃ st', Ev (wC) O (wL) st (Ex.ret) st' ∧ HasC [(4, PV.bool false)] [] [] st' :=
  Ev.walkC (fl := flg [(4,0,.bit),(5,1,.elem),(6,1,.pers),(7,2,.elem),(7,5,.pers),(7,6,.pers),(7,7,.bit),(7,11,.elem),(7,14,.pers),(7,15,.pers),(7,16,.bit)]) (n := 50) (tr := [.bit true, .val (dmV d), .val (.tup [.int .i64 lo, .int .i64 hi]), .val (rp s1 f1 t1 g1 a1 b1), .val (rp s2 f2 t2 g2 a2 b2), .val (.int .i64 c1), .bit false, .val (rp s1 f1 t1 g1 a1 b1), .val (rp s3 f3 t3 g3 a3 b3), .val (.int .i64 c2), .bit true]) [4] [] [] (ex := Ex.ret) (vs := [PV.bool false]) (bs := []) (cs := []) hs (fun R B C => by kernel_rfl) ho
theorem w_out  {O : Orc} {st : St} (hs : HasC [] [] [] st) (ho : True) : ∃ st', Ev (wC) O (seqR (seqR (seqR wB))) st (Ex.ret) st' ∧ HasC [(4, PV.bool true)] [] [] st' :=
  Ev.walkC (fl := flg []) (n := 50) (tr := []) [4] [] [] (ex := Ex.ret) (vs := [PV.bool true]) (bs := []) (cs := []) hs (fun R B C => by kernel_rfl) ho
/-- Small enough. -/
structure Dm.Ok (d : Dm) : Prop where
  a : d.a.natAbs < 2 ^ 40
  b : d.b.natAbs < 2 ^ 40
  c : d.c.natAbs < 2 ^ 40
theorem known_range {d : Dm} (h : d.Ok) : Known 14 [dmV d] (.tup [.int .i64 (d.a + d.b), .int .i64 (d.a + d.c)]) := by
  obtain ⟨h1, h2, h3⟩ := h
  refine Known.of (Q := fun _ => True) Deep.triv rfl (fun O _ => ?_)
  have := range_w (O := O) (s := d.s) (a := d.a) (b := d.b) (c := d.c) rfl rfl trivial
  rw [wrapI (by omega) (by omega), wrapI (by omega) (by omega)] at this
  exact this
def loQ (d : Dm) : Rat := ((d.a + d.b : Int) : Rat)
def hiQ (d : Dm) : Rat := ((d.a + d.c : Int) : Rat)
def inW : List Dm → List Rat → Bool
  | d :: l, q :: qs => (!decide (q < loQ d) && !decide (hiQ d < q)) && inW l qs
  | _, _ => true
/-- What is known of one dimension and one value. -/
def WF (O : Orc) (d : Dm) (q : Rat) (v : PV) : Prop := O.pure 14 [dmV d] = some (.tup [.int .i64 (d.a + d.b), .int .i64 (d.a + d.c)]) ∧
  (∃ s f t g a b, O.pure 16 [.int .i64 (d.a + d.b)] = some (rp s f t g a b) ∧ O.pure 32 [v, rp s f t g a b] = some (.int .i64 (cmpQ q (loQ d)))) ∧
  (∃ s f t g a b, O.pure 16 [.int .i64 (d.a + d.c)] = some (rp s f t g a b) ∧ O.pure 32 [v, rp s f t g a b] = some (.int .i64 (cmpQ q (hiQ d))))
theorem rb_int {n : Int} (h : n.natAbs < 2 ^ 60) : RB 40 (n : Rat) := ⟨Nat.lt_trans (show (n : Rat).num.natAbs < 2 ^ 60 from h) (by decide), show 1 < BB ^ 40 by decide⟩
theorem deep_WF {d : Dm} {q : Rat} {v : PV} (hd : d.Ok) (hv : IsR q v) (hq : RB 40 q) : Deep (fun O => WF O d q v) := by
  obtain ⟨h1, h2, h3⟩ := hd
  have b1 : (d.a + d.b).natAbs < 2 ^ 60 := by omega
  have b2 : (d.a + d.c).natAbs < 2 ^ 60 := by omega
  obtain ⟨x, hx, kx⟩ := known_rfrom (n := d.a + d.b) (by omega)
  obtain ⟨y, hy, ky⟩ := known_rfrom (n := d.a + d.c) (by omega)
  have kc := known_rcmp hv hx hq (rb_int b1)
  have kd := known_rcmp hv hy hq (rb_int b2)
  obtain ⟨f1, g1, d1, rfl⟩ := hx.shape
  obtain ⟨f2, g2, d2, rfl⟩ := hy.shape
  exact Deep.mono ((known_range ⟨h1, h2, h3⟩).deep.and (kx.deep.and (ky.deep.and (kc.deep.and kd.deep)))) fun O hO => ⟨hO.1, ⟨_, _, _, _, _, _, hO.2.1, hO.2.2.2.1⟩, ⟨_, _, _, _, _, _, hO.2.2.1, hO.2.2.2.2⟩⟩

theorem w_step {O : Orc} {f g : Bool} {l : List Dm} {vs : List PV} {k : Nat} {d : Dm} {q : Rat} {v : PV} (hk : k < 4) (hkl : k < l.length) (hd : l[k]? = some d) (hv : vs[k]? = some v) (hr : IsR q v) (hF : WF O d q v) {st : St}
    (hs : HasC [(1, .sl g vs), (14, .sl f (dl l)), (15, .int .i64 (l.length : Int)), (16, .int .i64 (k : Int))] [] [(6, k)] st) :
    ((!decide (q < loQ d) && !decide (hiQ d < q)) = true ∧ ∃ st', Ev wC O wL st .normal st' ∧ HasC [(1, .sl g vs), (14, .sl f (dl l)), (15, .int .i64 (l.length : Int)), (16, .int .i64 ((k + 1 : Nat) : Int))] [] [(6, k + 1)] st') ∨
    ((!decide (q < loQ d) && !decide (hiQ d < q)) = false ∧ ∃ st', Ev wC O wL st .ret st' ∧ st'.tm 4 = .bool false) := by
  obtain ⟨hR, ⟨s2, f2, t2, g2, a2, b2, x1, x2⟩, ⟨s3, f3, t3, g3, a3, b3, y1, y2⟩⟩ := hF
  obtain ⟨f1, g1, d1, rfl⟩ := hr.shape
  have gd : (dl l)[k]? = some (dmV d) := by rw [getDl, hd]; rfl
  have hpd : PV.persL [dmV d] = true := rfl
  by_cases h1 : q < loQ d
  · have e1 : decide (cmpQ q (loQ d) < 0) = true := decide_eq_true (cmpQ_lt.2 h1)
    refine .inr ⟨by simp [h1], ?_⟩
    match k, hk with
    | 0, _ =>
      obtain ⟨st', e, h⟩ := w_lo0 (O := O) (lo := d.a + d.b) (hi := d.a + d.c) (c1 := cmpQ q (loQ d)) (d := d) hs ⟨e1, pers2 (persV ..) (persRp ..), x2, rfl, x1, ⟨by omega, hv⟩, hpd, hR, ⟨by omega, gd⟩, by simp; omega, trivial⟩
      exact ⟨st', e, h.k.g0⟩
    | 1, _ =>
      obtain ⟨st', e, h⟩ := w_lo1 (O := O) (lo := d.a + d.b) (hi := d.a + d.c) (c1 := cmpQ q (loQ d)) (d := d) hs ⟨e1, pers2 (persV ..) (persRp ..), x2, rfl, x1, ⟨by omega, hv⟩, hpd, hR, ⟨by omega, gd⟩, by simp; omega, trivial⟩
      exact ⟨st', e, h.k.g0⟩
    | 2, _ =>
      obtain ⟨st', e, h⟩ := w_lo2 (O := O) (lo := d.a + d.b) (hi := d.a + d.c) (c1 := cmpQ q (loQ d)) (d := d) hs ⟨e1, pers2 (persV ..) (persRp ..), x2, rfl, x1, ⟨by omega, hv⟩, hpd, hR, ⟨by omega, gd⟩, by simp; omega, trivial⟩
      exact ⟨st', e, h.k.g0⟩
    | 3, _ =>
      obtain ⟨st', e, h⟩ := w_lo3 (O := O) (lo := d.a + d.b) (hi := d.a + d.c) (c1 := cmpQ q (loQ d)) (d := d) hs ⟨e1, pers2 (persV ..) (persRp ..), x2, rfl, x1, ⟨by omega, hv⟩, hpd, hR, ⟨by omega, gd⟩, by simp; omega, trivial⟩
      exact ⟨st', e, h.k.g0⟩
  · have e1 : decide (cmpQ q (loQ d) < 0) = false := decide_eq_false (fun e => h1 (cmpQ_lt.1 e))
    by_cases h2 : hiQ d < q
    · have e2 : decide (0 < cmpQ q (hiQ d)) = true := decide_eq_true (cmpQ_gt.2 h2)
      refine .inr ⟨by simp [h2], ?_⟩
      match k, hk with
      | 0, _ =>
        obtain ⟨st', e, h⟩ := w_hi0 (O := O) (lo := d.a + d.b) (hi := d.a + d.c) (c1 := cmpQ q (loQ d)) (c2 := cmpQ q (hiQ d)) (d := d) hs ⟨e2, pers2 (persV ..) (persRp ..), y2, rfl, y1, ⟨by omega, hv⟩, e1, pers2 (persV ..) (persRp ..), x2, rfl, x1, ⟨by omega, hv⟩, hpd, hR, ⟨by omega, gd⟩, by simp; omega, trivial⟩
        exact ⟨st', e, h.k.g0⟩
      | 1, _ =>
        obtain ⟨st', e, h⟩ := w_hi1 (O := O) (lo := d.a + d.b) (hi := d.a + d.c) (c1 := cmpQ q (loQ d)) (c2 := cmpQ q (hiQ d)) (d := d) hs ⟨e2, pers2 (persV ..) (persRp ..), y2, rfl, y1, ⟨by omega, hv⟩, e1, pers2 (persV ..) (persRp ..), x2, rfl, x1, ⟨by omega, hv⟩, hpd, hR, ⟨by omega, gd⟩, by simp; omega, trivial⟩
        exact ⟨st', e, h.k.g0⟩
      | 2, _ =>
        obtain ⟨st', e, h⟩ := w_hi2 (O := O) (lo := d.a + d.b) (hi := d.a + d.c) (c1 := cmpQ q (loQ d)) (c2 := cmpQ q (hiQ d)) (d := d) hs ⟨e2, pers2 (persV ..) (persRp ..), y2, rfl, y1, ⟨by omega, hv⟩, e1, pers2 (persV ..) (persRp ..), x2, rfl, x1, ⟨by omega, hv⟩, hpd, hR, ⟨by omega, gd⟩, by simp; omega, trivial⟩
        exact ⟨st', e, h.k.g0⟩
      | 3, _ =>
        obtain ⟨st', e, h⟩ := w_hi3 (O := O) (lo := d.a + d.b) (hi := d.a + d.c) (c1 := cmpQ q (loQ d)) (c2 := cmpQ q (hiQ d)) (d := d) hs ⟨e2, pers2 (persV ..) (persRp ..), y2, rfl, y1, ⟨by omega, hv⟩, e1, pers2 (persV ..) (persRp ..), x2, rfl, x1, ⟨by omega, hv⟩, hpd, hR, ⟨by omega, gd⟩, by simp; omega, trivial⟩
        exact ⟨st', e, h.k.g0⟩
    · have e2 : decide (0 < cmpQ q (hiQ d)) = false := decide_eq_false (fun e => h2 (cmpQ_gt.1 e))
      refine .inl ⟨by simp [h1, h2], ?_⟩
      match k, hk with
      | 0, _ => exact w_ok0 (O := O) (lo := d.a + d.b) (hi := d.a + d.c) (c1 := cmpQ q (loQ d)) (c2 := cmpQ q (hiQ d)) (d := d) hs ⟨e2, pers2 (persV ..) (persRp ..), y2, rfl, y1, ⟨by omega, hv⟩, e1, pers2 (persV ..) (persRp ..), x2, rfl, x1, ⟨by omega, hv⟩, hpd, hR, ⟨by omega, gd⟩, by simp; omega, trivial⟩
      | 1, _ => exact w_ok1 (O := O) (lo := d.a + d.b) (hi := d.a + d.c) (c1 := cmpQ q (loQ d)) (c2 := cmpQ q (hiQ d)) (d := d) hs ⟨e2, pers2 (persV ..) (persRp ..), y2, rfl, y1, ⟨by omega, hv⟩, e1, pers2 (persV ..) (persRp ..), x2, rfl, x1, ⟨by omega, hv⟩, hpd, hR, ⟨by omega, gd⟩, by simp; omega, trivial⟩
      | 2, _ => exact w_ok2 (O := O) (lo := d.a + d.b) (hi := d.a + d.c) (c1 := cmpQ q (loQ d)) (c2 := cmpQ q (hiQ d)) (d := d) hs ⟨e2, pers2 (persV ..) (persRp ..), y2, rfl, y1, ⟨by omega, hv⟩, e1, pers2 (persV ..) (persRp ..), x2, rfl, x1, ⟨by omega, hv⟩, hpd, hR, ⟨by omega, gd⟩, by simp; omega, trivial⟩
      | 3, _ => exact w_ok3 (O := O) (lo := d.a + d.b) (hi := d.a + d.c) (c1 := cmpQ q (loQ d)) (c2 := cmpQ q (hiQ d)) (d := d) hs ⟨e2, pers2 (persV ..) (persRp ..), y2, rfl, y1, ⟨by omega, hv⟩, e1, pers2 (persV ..) (persRp ..), x2, rfl, x1, ⟨by omega, hv⟩, hpd, hR, ⟨by omega, gd⟩, by simp; omega, trivial⟩

theorem drop_get {α : Type} {l : List α} {k : Nat} {x : α} (h : l[k]? = some x) : l.drop k = x :: l.drop (k + 1) := by
  obtain ⟨hk, e⟩ := List.getElem?_eq_some_iff.1 h
  rw [← e, List.getElem_cons_drop]
theorem w_loop {O : Orc} {f g : Bool} {l : List Dm} {vs : List PV} {qs : List Rat} (hl : l.length ≤ 4) (hq : qs.length = l.length) (hv : vs.length = l.length) (hr : ∀ (k : Nat) (q : Rat) (v : PV), qs[k]? = some q → vs[k]? = some v → IsR q v) (hF : ∀ (k : Nat), k < l.length → ∀ (d : Dm) (q : Rat) (v : PV), l[k]? = some d → qs[k]? = some q → vs[k]? = some v → WF O d q v) :
    ∀ (r k : Nat), k + r = l.length → ∀ {st : St}, HasC [(1, .sl g vs), (14, .sl f (dl l)), (15, .int .i64 (l.length : Int)), (16, .int .i64 (k : Int))] [] [(6, k)] st →
    (inW (l.drop k) (qs.drop k) = true ∧ ∃ st', Ev wC O (.loop wL) st (.exit 0) st') ∨ (inW (l.drop k) (qs.drop k) = false ∧ ∃ st', Ev wC O (.loop wL) st .ret st' ∧ st'.tm 4 = .bool false)
  | 0, k, hk, st, hs => by
    obtain ⟨st', e, _⟩ := w_end (O := O) (n := (l.length : Int)) (k := (k : Int)) ⟨hs.k, fun _ h => by cases h⟩ ⟨by simp; omega, trivial⟩
    have : l.drop k = [] := List.drop_eq_nil_of_le (by omega)
    exact .inl ⟨by rw [this]; rfl, st', e.loop_stop (by intro q; cases q)⟩
  | r + 1, k, hk, st, hs => by
    have hkl : k < l.length := by omega
    have h1 : l[k]? = some l[k] := List.getElem?_eq_getElem hkl
    have h2 : qs[k]? = some (qs[k]'(by omega)) := List.getElem?_eq_getElem (by omega)
    have h3 : vs[k]? = some (vs[k]'(by omega)) := List.getElem?_eq_getElem (by omega)
    rw [drop_get h1, drop_get h2]
    unfold inW
    rcases w_step (O := O) (by omega) hkl h1 h3 (hr k _ _ h2 h3) (hF k hkl _ _ _ h1 h2 h3) hs with ⟨p, st1, e, h⟩ | ⟨p, st', e, h⟩
    · rw [p, Bool.true_and]
      rcases w_loop hl hq hv hr hF r (k + 1) (by omega) h with ⟨x, st', e'⟩ | ⟨x, st', e', h'⟩
      · exact .inl ⟨x, st', e.loop e'⟩
      · exact .inr ⟨x, st', e.loop e', h'⟩
    · rw [p, Bool.false_and]
      exact .inr ⟨rfl, st', e.loop_stop (by intro q; cases q), h⟩
theorem hasC_nil {st : St} : HasC [] [] [] st := ⟨hasK_nil, fun _ h => by cases h⟩
theorem persL_of {vs : List PV} (h : ∀ v ∈ vs, v.pers = true) : PV.persL vs = true := by
  induction vs with
  | nil => rfl
  | cons v l ih => simp only [PV.persL, h v (by simp), ih (fun x hx => h x (by simp [hx])), Bool.and_self]
/-- Values that are rationals. -/
structure AreR (qs : List Rat) (vs : List PV) : Prop where
  len : vs.length = qs.length
  get : ∀ (k : Nat) (q : Rat) (v : PV), qs[k]? = some q → vs[k]? = some v → IsR q v
theorem AreR.pers {qs : List Rat} {vs : List PV} (h : AreR qs vs) : PV.persL vs = true := by
  refine persL_of fun v hv => ?_
  obtain ⟨k, hk, rfl⟩ := List.getElem_of_mem hv
  have hk' : k < qs.length := by rw [← h.len]; exact hk
  exact (h.get k qs[k] vs[k] (List.getElem?_eq_getElem hk') (List.getElem?_eq_getElem hk)).pers
theorem within_fin {O : Orc} {f g : Bool} {l : List Dm} {vs : List PV} (hp : PV.persL vs = true) {st : St} {b : Bool} (e : Ev wC O wB (startSt [.sl f (dl l), .sl g vs] Heap.empty) .ret st) (h : st.tm 4 = .bool b) : Runs Pr pol O 19 [.sl f (dl l), .sl g vs] (.bool b) := by
  refine Runs.fin (st := st) Tryz.func19 (by kernel_rfl) (by simp only [PV.persL, PV.pers, persDl, hp, Bool.and_self]) (by rw [Tryz.ntmps19]; exact Nat.le_of_ble_eq_true rfl) rfl e (.inr rfl) ?_ rfl
  show some (st.tm 4) = _
  rw [h]
theorem known_within_ne {f g : Bool} {l : List Dm} {vs : List PV} (hp : PV.persL vs = true) (hn : vs.length ≠ l.length) : Known 19 [.sl f (dl l), .sl g vs] (.bool false) :=
  Known.of (Q := fun _ => True) Deep.triv rfl (fun O _ => by
    obtain ⟨st, e, h⟩ := w_ne (O := O) (f := f) (g := g) (l := l) (vs := vs) ⟨by rw [lenDl]; simp; omega, trivial⟩
    exact within_fin hp (Ev.as wB_eq (Ev.out e (by intro q; cases q))) h.g0)
theorem known_within {f g : Bool} {l : List Dm} {vs : List PV} {qs : List Rat} (hl : l.length ≤ 4) (hq : qs.length = l.length) (hv : AreR qs vs) (hb : ∀ q ∈ qs, RB 40 q) (hd : ∀ d ∈ l, d.Ok) : Known 19 [.sl f (dl l), .sl g vs] (.bool (inW l qs)) := by
  have hvl : vs.length = l.length := by rw [hv.len, hq]
  refine Known.of (Q := fun O => ∀ (k : Nat), k < l.length → ∀ (d : Dm) (q : Rat) (v : PV), l[k]? = some d → qs[k]? = some q → vs[k]? = some v → WF O d q v) ?_ rfl (fun O hO => ?_)
  · refine Deep.all (Q := fun (k : Nat) O => ∀ (d : Dm) (q : Rat) (v : PV), l[k]? = some d → qs[k]? = some q → vs[k]? = some v → WF O d q v) _ (fun k hk => ?_)
    have h1 : l[k]? = some l[k] := List.getElem?_eq_getElem hk
    have h2 : qs[k]? = some (qs[k]'(by omega)) := List.getElem?_eq_getElem (by omega)
    have h3 : vs[k]? = some (vs[k]'(by omega)) := List.getElem?_eq_getElem (by omega)
    refine Deep.mono (deep_WF (hd _ (List.getElem_mem hk)) (hv.get k _ _ h2 h3) (hb _ (List.getElem_mem _))) (fun O hO d q v e1 e2 e3 => ?_)
    rw [h1] at e1; rw [h2] at e2; rw [h3] at e3
    cases e1; cases e2; cases e3
    exact hO
  · obtain ⟨st1, e1, h1⟩ := w_in (O := O) (f := f) (g := g) (l := l) (vs := vs) ⟨by rw [lenDl]; simp; omega, trivial⟩
    rw [lenDl] at h1
    rcases w_loop (O := O) hl hq hvl hv.get hO l.length 0 (by omega) h1 with ⟨x, st2, e2⟩ | ⟨x, st2, e2, h2⟩
    · obtain ⟨st3, e3, h3⟩ := w_out (O := O) (st := st2) hasC_nil trivial
      rw [List.drop_zero, List.drop_zero] at x
      rw [x]
      exact within_fin hv.pers (Ev.as wB_eq (Ev.go3 e1 e2.block e3)) h3.k.g0
    · rw [List.drop_zero, List.drop_zero] at x
      rw [x]
      exact within_fin hv.pers (Ev.as wB_eq (Ev.go3r e1 e2.block_ret (by intro q; cases q))) h2
end Go.Proofs.YtigfgicjjhepoaaGreatDoor.VA.Z
