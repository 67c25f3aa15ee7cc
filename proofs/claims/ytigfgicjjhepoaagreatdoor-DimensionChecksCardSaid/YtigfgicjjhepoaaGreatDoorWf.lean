/- Runs of the evaluator, whatever the fuel; code put together. -/
import Derived.Test.YtigfgicjjhepoaaGreatDoorWe
set_option linter.unusedVariables false
set_option linter.unusedSimpArgs false
namespace Go.Proofs.YtigfgicjjhepoaaGreatDoor.VA
open Go
variable {c : Ctx} {O : Orc} {P : Program} {pol : Pol}

theorem evCode_mono : ∀ (n : Nat) {code : Code} {st : St} {r : Ex × St}, evCode c O n code st = some r → ∀ m, n ≤ m → evCode c O m code st = some r := by
  intro n
  induction n with
  | zero => intro code st r h; simp [evCode] at h
  | succ n ih =>
    intro code st r h m hm
    obtain ⟨m, rfl⟩ : ∃ k, m = k + 1 := ⟨m - 1, by omega⟩
    have hm' : n ≤ m := by omega
    cases code with
    | skip => exact h
    | region id ops draw => exact h
    | seq a b =>
      simp only [evCode] at h ⊢
      split at h
      · rename_i s1 h1
        rw [ih h1 m hm']
        exact ih h m hm'
      · rename_i hne
        obtain ⟨ex, s1⟩ := r
        rw [ih h m hm']
        cases ex with
        | normal => exact absurd h (hne s1)
        | exit id => rfl
        | ret => rfl
    | cond x a b =>
      simp only [evCode] at h ⊢
      split at h
      · exact ih h m hm'
      · cases h
    | block id a =>
      simp only [evCode] at h ⊢
      split at h
      · rename_i j s1 h1
        rw [ih h1 m hm']
        exact h
      · rename_i hne
        obtain ⟨ex, s1⟩ := r
        rw [ih h m hm']
        cases ex with
        | normal => rfl
        | exit id => exact absurd h (hne id s1)
        | ret => rfl
    | loop a =>
      simp only [evCode] at h ⊢
      split at h
      · rename_i s1 h1
        rw [ih h1 m hm']
        exact ih h m hm'
      · rename_i hne
        obtain ⟨ex, s1⟩ := r
        rw [ih h m hm']
        cases ex with
        | normal => exact absurd h (hne s1)
        | exit id => rfl
        | ret => rfl
    | exit id => exact h
    | ret => exact h
    | _ => simp [evCode] at h

theorem evBody_mono {n m : Nat} {path : List Nat} {f : FuncId} {args : List PV} {H : Heap} {r : PV × Heap} (h : evBody P pol O n path f args H = some r) (hm : n ≤ m) : evBody P pol O m path f args H = some r := by
  unfold evBody at h ⊢
  split at h
  · cases h
  rename_i fn hf
  split at h
  · cases h
  rename_i body hb
  split at h
  rotate_left
  · cases h
  rename_i hc
  rw [if_pos hc]
  split at h
  · rename_i st he
    rw [evCode_mono n he m hm]; exact h
  · rename_i st he
    rw [evCode_mono n he m hm]; exact h
  · cases h

theorem evPure_mono {n m : Nat} {f : FuncId} {args : List PV} {r : PV} (h : evPure P pol O n f args = some r) (hm : n ≤ m) : evPure P pol O m f args = some r := by
  unfold evPure at h ⊢
  split at h
  rotate_left
  · cases h
  rename_i hp
  rw [if_pos hp]
  split at h
  · rename_i x H hb
    rw [evBody_mono hb hm]; exact h
  · cases h

/-- What code does, given fuel enough. -/
def Ev (c : Ctx) (O : Orc) (code : Code) (st : St) (ex : Ex) (st' : St) : Prop := ∃ n, evCode c O n code st = some (ex, st')

theorem Ev.of_X {fl : Nat → Nat → Way} {n : Nat} {code : Code} {st : St} {tr : List Told} {β : Type} (proj : Ex → St → Prop → β) {y : β} (h : (evXCode c O fl n code st ⟨tr, True⟩).map (fun r => proj r.1 r.2.1 r.2.2.ob) = some y) :
    ∃ ex st' ob, proj ex st' ob = y ∧ (ob → Ev c O code st ex st') := by
  cases hx : evXCode c O fl n code st ⟨tr, True⟩ with
  | none => rw [hx] at h; cases h
  | some r =>
    rw [hx] at h
    simp only [Option.map_some, Option.some.injEq] at h
    obtain ⟨ex, st', t⟩ := r
    exact ⟨ex, st', t.ob, h, fun ho => ⟨n, (evXCode_ok n code hx ho).1⟩⟩

theorem Ev.seq {a b : Code} {st st1 st2 : St} {ex : Ex} (h : Ev c O a st .normal st1) (g : Ev c O b st1 ex st2) : Ev c O (.seq a b) st ex st2 := by
  obtain ⟨n, hn⟩ := h
  obtain ⟨m, hm⟩ := g
  refine ⟨max n m + 1, ?_⟩
  simp only [evCode, evCode_mono n hn (max n m) (by omega), evCode_mono m hm (max n m) (by omega)]

theorem Ev.seq_stop {a b : Code} {st st1 : St} {ex : Ex} (h : Ev c O a st ex st1) (hne : ex ≠ .normal) : Ev c O (.seq a b) st ex st1 := by
  obtain ⟨n, hn⟩ := h
  refine ⟨n + 1, ?_⟩
  simp only [evCode, hn]
  cases ex with
  | normal => exact absurd rfl hne
  | exit id => rfl
  | ret => rfl

theorem Ev.block {a : Code} {id : Nat} {st st1 : St} (h : Ev c O a st (.exit id) st1) : Ev c O (.block id a) st .normal st1 := by
  obtain ⟨n, hn⟩ := h
  refine ⟨n + 1, ?_⟩
  simp only [evCode, hn, if_true]

theorem Ev.block_ret {a : Code} {id : Nat} {st st1 : St} (h : Ev c O a st .ret st1) : Ev c O (.block id a) st .ret st1 := by
  obtain ⟨n, hn⟩ := h
  exact ⟨n + 1, by simp only [evCode, hn]⟩

theorem Ev.loop {a : Code} {st st1 st2 : St} {ex : Ex} (h : Ev c O a st .normal st1) (g : Ev c O (.loop a) st1 ex st2) : Ev c O (.loop a) st ex st2 := by
  obtain ⟨n, hn⟩ := h
  obtain ⟨m, hm⟩ := g
  refine ⟨max n m + 1, ?_⟩
  simp only [evCode, evCode_mono n hn (max n m) (by omega), evCode_mono m hm (max n m) (by omega)]

theorem Ev.loop_stop {a : Code} {st st1 : St} {ex : Ex} (h : Ev c O a st ex st1) (hne : ex ≠ .normal) : Ev c O (.loop a) st ex st1 := by
  obtain ⟨n, hn⟩ := h
  refine ⟨n + 1, ?_⟩
  simp only [evCode, hn]
  cases ex with
  | normal => exact absurd rfl hne
  | exit id => rfl
  | ret => rfl

/-- What a function hands back, given fuel enough. -/
def Runs (P : Program) (pol : Pol) (O : Orc) (f : FuncId) (args : List PV) (r : PV) : Prop := ∃ n, evPure P pol O n f args = some r

theorem Runs.of_X {fl : Nat → Nat → Way} {n : Nat} {f : FuncId} {args : List PV} {tr : List Told} {r : PV} {ob : Prop} (h : evXPure P pol O fl n f args tr = some (r, ob)) (ho : ob) : Runs P pol O f args r := ⟨n, evXPure_ok h ho⟩

theorem Runs.of_XB {fl : Nat → Nat → Way} {n : Nat} {f : FuncId} {args : List PV} {tr : List Told} {r : PV} {ob : Prop} (hp : PV.persL args = true)
    (h : (evXBody P pol O fl n [] f args Heap.empty ⟨tr, True⟩).map (fun x => ((dr x.2.1 12 x.1).map (·.1), x.2.2.ob)) = some (some r, ob)) (ho : ob) : Runs P pol O f args r := by
  simp only [Option.map_eq_some_iff, Prod.mk.injEq] at h
  obtain ⟨⟨x, H, t⟩, hb, hr, rfl⟩ := h
  refine ⟨n, ?_⟩
  unfold evPure
  simp only [hp, if_true, evXBody_ok hb ho]
  exact Option.map_eq_some_iff.2 hr

/-- Arguments that read as they stand. -/
theorem drL_pers {H : Heap} {l : List PV} (h : PV.persL l = true) : drL H 12 l = some (l, []) := by
  unfold drL
  rw [if_pos h]

theorem Runs.of_Ev {f : FuncId} {fn : Func} {body : Code} {args : List PV} {st : St} {ex : Ex} {r r' : PV} (hf : P.funcs[f]? = some fn) (hb : fn.body = some body) (hp : PV.persL args = true) (hl : args.length ≤ fn.ntmps) (hu : pol.use f = true)
    (h : Ev ⟨P, pol, [], f⟩ O body (startSt args Heap.empty) ex st) (hex : ex = .normal ∨ ex = .ret) (hr : resultsV ⟨P, pol, [], f⟩ st fn.results.toList = some r') (hd : (dr st.hp 12 r').map (·.1) = some r) : Runs P pol O f args r := by
  obtain ⟨n, hn⟩ := h
  refine ⟨n, ?_⟩
  unfold evPure evBody
  simp only [hp, if_true, hf, hb, hl, hu, and_self, hn]
  rcases hex with rfl | rfl
  · simp only [hr, Option.map_some]; exact hd
  · simp only [hr, Option.map_some]; exact hd

/-- An oracle that knows more. -/
structure OLe (O O' : Orc) : Prop where
  pure : ∀ f a r, O.pure f a = some r → O'.pure f a = some r
  inl : ∀ p f a H r, O.inl p f a H = some r → O'.inl p f a H = some r

theorem stepC_le {O O' : Orc} (h : OLe O O') {f : FuncId} {args : List PV} {H : Heap} {r : PV × List Key} (hs : stepC c O f args H = some r) : stepC c O' f args H = some r := by
  unfold stepC at hs ⊢
  split at hs
  · cases hs
  rename_i as1 ks hd
  try simp only [hd]
  split at hs
  · cases hs
  · rename_i hm
    try simp only [hm]
    simp only [Option.map_eq_some_iff] at hs ⊢
    obtain ⟨x, hx, e⟩ := hs
    exact ⟨x, h.pure _ _ _ hx, e⟩

theorem stepW_le {O O' : Orc} (h : OLe O O') {d : Option Nat} {op : Op} {ρ : Operand → PV} {H : Heap} {r : PV × Heap} (hs : stepW c O d op ρ H = some r) : stepW c O' d op ρ H = some r := by
  cases op with
  | call k =>
    obtain ⟨cal, args, ats⟩ := k
    cases cal with
    | builtin b => cases b <;> exact hs
    | invoke r m => simp [stepW] at hs
    | value g =>
      have key : ∀ (path : List Nat), (match ρ g with
          | .fn f first cap => match c.pol.mode f with
            | .inl => O.inl path f (first ++ args.toList.map ρ ++ cap) H
            | _ => match stepC c O f (first ++ args.toList.map ρ ++ cap) H with
              | some (r, ks) => some (r, H.freeze ks)
              | none => none
          | _ => none) = some r → (match ρ g with
          | .fn f first cap => match c.pol.mode f with
            | .inl => O'.inl path f (first ++ args.toList.map ρ ++ cap) H
            | _ => match stepC c O' f (first ++ args.toList.map ρ ++ cap) H with
              | some (r, ks) => some (r, H.freeze ks)
              | none => none
          | _ => none) = some r := by
        intro path hs
        split at hs
        rotate_left
        · cases hs
        rename_i f first cap hg
        try simp only
        split at hs
        · rename_i hm
          try simp only [hm]
          exact h.inl _ _ _ _ _ hs
        · rename_i hm
          split at hs
          · rename_i r' ks hc
            cases hmm : c.pol.mode f with
            | inl => exact absurd hmm hm
            | pure =>
              simp only [stepC_le h hc]
              exact hs
          · cases hs
      cases g with
      | func f =>
        simp only [stepW] at hs ⊢
        split at hs
        · exact h.inl _ _ _ _ _ hs
        · exact h.inl _ _ _ _ _ hs
      | _ => exact key _ hs
  | next it s => cases s <;> exact hs
  | _ => exact hs

theorem evEff_le {O O' : Orc} (h : OLe O O') {draw : Bool} {o : Oper} {ρ : Operand → PV} {H : Heap} {r : PV × Eff} (hs : evEff c O draw o ρ H = some r) : evEff c O' draw o ρ H = some r := by
  unfold evEff at hs ⊢
  split at hs
  · exact hs
  · exact hs
  · exact hs
  · rename_i e
    try simp only [e]
    split at hs
    · rename_i f args hc
      try simp only [hc]
      simp only [Option.map_eq_some_iff] at hs ⊢
      obtain ⟨x, hx, e'⟩ := hs
      exact ⟨x, stepC_le h hx, e'⟩
    · cases hs
  · cases hs

theorem evOp_le {O O' : Orc} (h : OLe O O') {draw : Bool} {o : Oper} {st st' : St} (hs : evOp c O draw o st = some st') : evOp c O' draw o st = some st' := by
  unfold evOp at hs ⊢
  split at hs
  · rename_i e
    try simp only [e]
    simp only [Option.map_eq_some_iff] at hs ⊢
    obtain ⟨x, hx, e'⟩ := hs
    exact ⟨x, stepW_le h hx, e'⟩
  · rename_i hne
    simp only [Option.map_eq_some_iff] at hs ⊢
    obtain ⟨x, hx, e'⟩ := hs
    exact ⟨x, evEff_le h hx, e'⟩

theorem evStep_le {O O' : Orc} (h : OLe O O') {draw : Bool} {ops : Array Oper} {i : Nat} {st st' : St} (hs : evStep c O draw ops i st = some st') : evStep c O' draw ops i st = some st' := by
  unfold evStep at hs ⊢
  split at hs
  · cases hs
  rename_i o ho
  try simp only
  split at hs
  · cases hs
  · rename_i hw; exact evOp_le h hs
  · rename_i hw; exact hs

theorem evList_le {O O' : Orc} (h : OLe O O') {draw : Bool} {ops : Array Oper} : ∀ (l : List Nat) {st st' : St}, evList c O draw ops l st = some st' → evList c O' draw ops l st = some st'
  | [], st, st', hs => hs
  | i :: l, st, st', hs => by
    simp only [evList, Option.bind_eq_some_iff] at hs ⊢
    obtain ⟨s1, h1, h2⟩ := hs
    exact ⟨s1, evStep_le h h1, evList_le h l h2⟩

theorem evListT_le {O O' : Orc} (h : OLe O O') {ops : Array Oper} : ∀ (l : List Nat) {st : St} {r : St × List Key}, evListT c O ops l st = some r → evListT c O' ops l st = some r
  | [], st, r, hs => hs
  | i :: l, st, r, hs => by
    simp only [evListT] at hs ⊢
    split at hs
    · cases hs
    rename_i s1 h1
    simp only [evStep_le h h1]
    split at hs
    · cases hs
    rename_i s2 ks h2
    simp only [evListT_le h l h2]
    exact hs

theorem evRegion_le {O O' : Orc} (h : OLe O O') {id : Nat} {ops : Array Oper} {draw : Bool} {st st' : St} (hs : evRegion c O id ops draw st = some st') : evRegion c O' id ops draw st = some st' := by
  unfold evRegion at hs ⊢
  split at hs
  · rename_i r rs hr
    try simp only
    split at hs
    rotate_left
    · cases hs
    rename_i st0 ks h0
    simp only [evListT_le h _ h0]
    split at hs
    rotate_left
    · cases hs
    rename_i hq
    rw [if_pos ?_]
    · exact hs
    simp only [Bool.and_eq_true] at hq ⊢
    refine ⟨hq.1, ?_⟩
    rw [List.all_eq_true] at hq ⊢
    intro l hl
    have := hq.2 
    rw [List.all_eq_true] at this
    have := this l hl
    split at this
    · rename_i s1 k1 h1
      rw [evListT_le h _ h1]; exact this
    · cases this
  · rename_i d rs hne
    exact evList_le h _ hs

theorem evCode_le {O O' : Orc} (h : OLe O O') : ∀ (n : Nat) {code : Code} {st : St} {r : Ex × St}, evCode c O n code st = some r → evCode c O' n code st = some r := by
  intro n
  induction n with
  | zero => intro code st r hs; simp [evCode] at hs
  | succ n ih =>
    intro code st r hs
    cases code with
    | skip => exact hs
    | region id ops draw =>
      simp only [evCode, Option.map_eq_some_iff] at hs ⊢
      obtain ⟨s1, h1, e⟩ := hs
      exact ⟨s1, evRegion_le h h1, e⟩
    | seq a b =>
      simp only [evCode] at hs ⊢
      split at hs
      · rename_i s1 h1
        rw [ih h1]
        exact ih hs
      · rename_i hne
        obtain ⟨ex, s1⟩ := r
        rw [ih hs]
        cases ex with
        | normal => exact absurd hs (hne s1)
        | exit id => rfl
        | ret => rfl
    | cond x a b =>
      simp only [evCode] at hs ⊢
      split at hs
      · exact ih hs
      · cases hs
    | block id a =>
      simp only [evCode] at hs ⊢
      split at hs
      · rename_i j s1 h1
        rw [ih h1]
        exact hs
      · rename_i hne
        obtain ⟨ex, s1⟩ := r
        rw [ih hs]
        cases ex with
        | normal => rfl
        | exit id => exact absurd hs (hne id s1)
        | ret => rfl
    | loop a =>
      simp only [evCode] at hs ⊢
      split at hs
      · rename_i s1 h1
        rw [ih h1]
        exact ih hs
      · rename_i hne
        obtain ⟨ex, s1⟩ := r
        rw [ih hs]
        cases ex with
        | normal => exact absurd hs (hne s1)
        | exit id => rfl
        | ret => rfl
    | exit id => exact hs
    | ret => exact hs
    | _ => simp [evCode] at hs

theorem evBody_le {O O' : Orc} (h : OLe O O') {n : Nat} {path : List Nat} {f : FuncId} {args : List PV} {H : Heap} {r : PV × Heap} (hs : evBody P pol O n path f args H = some r) : evBody P pol O' n path f args H = some r := by
  unfold evBody at hs ⊢
  split at hs
  · cases hs
  split at hs
  · cases hs
  split at hs
  rotate_left
  · cases hs
  rename_i hc
  rw [if_pos hc]
  split at hs
  · rename_i st he
    rw [evCode_le h n he]; exact hs
  · rename_i st he
    rw [evCode_le h n he]; exact hs
  · cases hs

theorem evPure_le {O O' : Orc} (h : OLe O O') {n : Nat} {f : FuncId} {args : List PV} {r : PV} (hs : evPure P pol O n f args = some r) : evPure P pol O' n f args = some r := by
  unfold evPure at hs ⊢
  split at hs
  rotate_left
  · cases hs
  rename_i hp
  rw [if_pos hp]
  split at hs
  · rename_i x H hb
    rw [evBody_le h hb]; exact hs
  · cases hs

theorem orc_le {p : FuncId → List PV → Option PV} {pI : FuncId → List PV → Heap → Option (PV × Heap)} : ∀ n, OLe (orc P pol p pI n) (orc P pol p pI (n + 1))
  | 0 => ⟨fun f a r h => by simp only [orc] at h ⊢; rw [h], fun q f a H r h => by simp only [orc] at h ⊢; rw [h]⟩
  | n + 1 => by
    have ih := orc_le (p := p) (pI := pI) n
    refine ⟨fun f a r h => ?_, fun q f a H r h => ?_⟩
    · simp only [orc] at h ⊢
      split at h
      · exact h
      · exact evPure_mono (evPure_le ih h) (Nat.le_succ n)
    · simp only [orc] at h ⊢
      split at h
      · exact h
      · exact evBody_mono (evBody_le ih h) (Nat.le_succ n)

theorem orc_le' {p : FuncId → List PV → Option PV} {pI : FuncId → List PV → Heap → Option (PV × Heap)} {n m : Nat} (h : n ≤ m) : OLe (orc P pol p pI n) (orc P pol p pI m) := by
  induction h with
  | refl => exact ⟨fun _ _ _ h => h, fun _ _ _ _ _ h => h⟩
  | step _ ih => exact ⟨fun f a r h => (orc_le _).pure f a r (ih.pure f a r h), fun q f a H r h => (orc_le _).inl q f a H r (ih.inl q f a H r h)⟩

/-- One more primitive, by runs over what was known. -/
theorem primOk_runs (hP : POk P pol) (hC : COk P pol) {p : FuncId → List PV → Option PV} (hp : PrimOk P pol p) {pI : FuncId → List PV → Heap → Option (PV × Heap)} (hi : PrimIOk P pol pI) {f : FuncId} {spec : List PV → Option PV}
    (hf : ∀ args, p f args = none) (k : Nat) (h : ∀ args r, spec args = some r → Runs P pol (orc P pol p pI k) f args r) : PrimOk P pol (addP f spec p) := by
  refine primOk_add hP hC hp hi (fun args r hs => ?_)
  obtain ⟨n, hn⟩ := h args r hs
  exact ⟨max n k + 1, orc_pure (hf args) (evPure_mono (evPure_le (orc_le' (Nat.le_max_right n k)) hn) (Nat.le_max_left n k))⟩
end Go.Proofs.YtigfgicjjhepoaaGreatDoor.VA
