/- The abstract machine: blocks, loops, cuts, calls. No statement of the seat is proved in this file. -/
import Derived.Test.YthmcfphafofheaaDoorPatM
namespace Go.Proofs.YthmcfphafofheaaDoor
namespace Pat
set_option linter.unusedVariables false
set_option linter.unusedSimpArgs false

theorem wrP_of_wr {W : Wr} {T : Nat → Prop} : ∀ (c : ACode), c.wr W = true → c.wrP T → c.wrP (fun t => T t ∧ W.has t = true)
  | .ops l, h, hT => fun o ho d hd => ⟨hT o ho d hd, by
    have := List.all_eq_true.1 h o ho
    simpa [AOper.wr, hd] using this⟩
  | .draw _ l, h, hT => fun o ho d hd => ⟨hT o ho d hd, by
    have := List.all_eq_true.1 h o ho
    simpa [AOper.wr, hd] using this⟩
  | .seq a b, h, hT => by
    simp only [ACode.wr, Bool.and_eq_true] at h
    exact ⟨wrP_of_wr a h.1 hT.1, wrP_of_wr b h.2 hT.2⟩
  | .cond _ a b, h, hT => by
    simp only [ACode.wr, Bool.and_eq_true] at h
    exact ⟨wrP_of_wr a h.1 hT.1, wrP_of_wr b h.2 hT.2⟩
  | .block _ c, h, hT => wrP_of_wr c h hT
  | .loop c, h, hT => wrP_of_wr c h hT
  | .mark c, h, hT => wrP_of_wr c h hT
  | .skip, _, _ => trivial
  | .exit _, _, _ => trivial
  | .ret, _, _ => trivial
  | .bad, _, _ => trivial

/-- The operations of a region. -/
def regOf (id : Nat) : Code → Option (Array Oper)
  | .region i ops _ => if i = id then some ops else none
  | .seq a b => match regOf id a with | some x => some x | none => regOf id b
  | .cond _ a b => match regOf id a with | some x => some x | none => regOf id b
  | .block _ c | .loop c | .scope c => regOf id c
  | _ => none
def codeOf (f : Func) : Code := match f.body with | some c => c | none => .skip
def reg (f : Func) (id : Nat) : Array Oper := (regOf id (codeOf f)).getD #[]
/-- The end of a function. -/
def bodyQ (E : Env) (rs : List ARes) (K : AV → Hp → Prop) : Exit → Slots → Hp → Prop
  | .ret, s, σ | .normal, s, σ => aRet E rs K s σ
  | _, _, _ => False

section
variable {E : Env} {N : Nat}

theorem sCode.mono {c : ACode} {Q Q' : Exit → Slots → Hp → Prop} {s σ} (h : sCode E N c Q s σ) (hq : ∀ e s σ, Q e s σ → Q' e s σ) : sCode E N c Q' s σ :=
  ⟨fun code T a w hc hT hs hH hN => wp_mono (h.out code T a w hc hT hs hH hN) fun e a' w' hg => hg.mono (hq e)⟩

theorem sCode.mark {c : ACode} {Q : Exit → Slots → Hp → Prop} {s σ} (h : sCode E N c Q s σ) : sCode E N (.mark c) Q s σ :=
  ⟨fun code T a w hc hT hs hH hN => h.out code T a w hc hT hs hH hN⟩

def blockQ (id : Nat) (Q : Exit → Slots → Hp → Prop) : Exit → Slots → Hp → Prop
  | .exit i, s, σ => if i = id then Q .normal s σ else Q (.exit i) s σ
  | e, s, σ => Q e s σ
theorem sCode.block {id : Nat} {c : ACode} {Q : Exit → Slots → Hp → Prop} {s σ} (h : sCode E N c (blockQ id Q) s σ) : sCode E N (.block id c) Q s σ :=
  ⟨fun code T a w hc hT hs hH hN => by
    obtain ⟨cx, rfl, hx⟩ := comp_block hc
    refine wp_block (wp_mono (h.out cx T a w hx hT hs hH hN) fun e a' w' hg => ?_)
    cases e with
    | exit i =>
      simp only [Exit.inBlock]
      by_cases hi : i = id
      · rw [if_pos hi]
        obtain ⟨s', σ', h1, h2⟩ := hg
        exact ⟨s', σ', by simpa [blockQ, hi] using h1, h2⟩
      · rw [if_neg hi]
        obtain ⟨s', σ', h1, h2⟩ := hg
        exact ⟨s', σ', by simpa [blockQ, hi] using h1, h2⟩
    | _ => exact hg⟩

/-! Forgetting -/
theorem sets_get : ∀ (L : List Nat) (vs : List AV) (s : Slots) (t : Nat), vs.length = L.length → (∃ (i : Nat) (v : AV), L[i]? = some t ∧ vs[i]? = some v ∧ s.sets L vs t = v) ∨ (s.sets L vs t = s t ∧ t ∉ L)
  | [], [], s, t, _ => .inr ⟨rfl, by simp⟩
  | d :: L, v :: vs, s, t, h => by
    rcases sets_get L vs (s.set d v) t (by simpa using h) with ⟨i, u, h1, h2, h3⟩ | ⟨h1, h2⟩
    · exact .inl ⟨i + 1, u, by simpa using h1, by simpa using h2, h3⟩
    · by_cases e : t = d
      · subst e
        exact .inl ⟨0, v, rfl, rfl, by rw [Slots.sets, h1]; simp [Slots.set]⟩
      · exact .inr ⟨by rw [Slots.sets, h1]; simp [Slots.set, e], by simp [e, h2]⟩
theorem FzL.get : ∀ {σ σ' : Hp} {vs vs' : List AV}, FzL E σ σ' vs vs' → vs.length = vs'.length ∧ ∀ (i : Nat) (v v' : AV), vs[i]? = some v → vs'[i]? = some v' → Fz E σ σ' v v'
  | σ, σ', [], [], _ => ⟨rfl, fun i v v' h => by simp at h⟩
  | σ, σ', v :: vs, v' :: vs', h => by
    obtain ⟨h1, h2⟩ := h
    obtain ⟨g1, g2⟩ := FzL.get h2
    refine ⟨by simp [g1], fun i u u' hu hu' => ?_⟩
    match i, hu, hu' with
    | 0, hu, hu' => simp at hu hu'; subst hu; subst hu'; exact h1
    | i + 1, hu, hu' => exact g2 i u u' (by simpa using hu) (by simpa using hu')
  | σ, σ', [], _ :: _, h => h.elim
  | σ, σ', _ :: _, [], h => h.elim

/-- Some slots are kept, others forgotten, in a heap of which less is owned. -/
theorem forget {σ0 σ σ' : Hp} {w0 w : World} {a0 a : Act} {s0 s : Slots} {W : Wr} {T : Nat → Prop} {L : List Nat} {vs : List AV} (h0 : ∀ t, Rep E.A σ0 w0 (a0.tmps.getD t undef) (s0 t)) (hs : ∀ t, Rep E.A σ w (a.tmps.getD t undef) (s t)) (hH : HRel E σ w)
    (ht : Trans σ0 w0 σ w) (hk : Keep (fun t => T t ∧ W.has t = true) a0 a) (hsub : Sub σ' σ) (hf : FzL E σ σ' (L.map s) vs) :
    (∀ t, Rep E.A σ' w (a.tmps.getD t undef) ((s0.hav W).sets L vs t)) ∧ HRel E σ' w ∧ Trans σ w σ' w := by
  obtain ⟨h1, h2⟩ := hH.drop σ' hsub
  obtain ⟨f1, f2⟩ := hf.get
  refine ⟨fun t => ?_, h1, h2⟩
  rcases sets_get L vs (s0.hav W) t (by simpa using f1.symm) with ⟨i, v, g1, g2, g3⟩ | ⟨g1, g2⟩
  · rw [g3]
    exact f2 i (s t) v (by simp [List.getElem?_map, g1]) g2 w _ hH hsub (hs t)
  · rw [g1, Slots.hav]
    cases hW : W.has t with
    | true => rw [if_pos rfl]; exact .any _
    | false =>
      rw [if_neg (by simp)]
      have : a.tmps[t]? = a0.tmps[t]? := hk t (by simp [hW])
      rw [Array.getD_eq_getD_getElem?, this, ← Array.getD_eq_getD_getElem?]
      exact ((h0 t).mono ht).mono h2

/-- A CUT: behind a piece of code only what is named is kept. -/
theorem sCode.cut {c : ACode} {Q : Exit → Slots → Hp → Prop} {s : Slots} {σ : Hp} (W : Wr) (L : List Nat) (I : List AV → Hp → Prop) (hW : c.wr W = true)
    (h : sCode E N c (fun e s1 σ1 => match e with
      | .normal => ∃ vs σ', Sub σ' σ1 ∧ FzL E σ1 σ' (L.map s1) vs ∧ I vs σ'
      | e => Q e s1 σ1) s σ)
    (hQ : ∀ vs σ', vs.length = L.length → I vs σ' → Q .normal ((s.hav W).sets L vs) σ') : sCode E N c Q s σ :=
  ⟨fun code T a w hc hT hs hH hN => by
    have hwr : c.wrP (fun t => T t ∧ W.has t = true) := wrP_of_wr c hW hT
    have := h.out code _ a w hc hwr hs hH hN
    refine wp_mono this fun e a' w' hg => ?_
    obtain ⟨s', σ', h1, h2, h3, h4, h5, h6, h7⟩ := hg
    have h6' : Keep T a a' := fun t ht => h6 t (fun hh => ht hh.1)
    cases e with
    | normal =>
      obtain ⟨vs, σ'', g1, g2, g3⟩ := h1
      obtain ⟨k1, k2, k3⟩ := forget hs h2 h3 h5 h6 g1 g2
      exact ⟨_, σ'', hQ vs σ'' (by have := g2.get.1; simpa using this.symm) g3, k1, k2, h4, h5.trans k3, h6', h7⟩
    | _ => exact ⟨s', σ', h1, h2, h3, h4, h5, h6', h7⟩⟩

/-- Forgetting ahead of a piece of code. -/
theorem sCode.weak {c : ACode} {Q : Exit → Slots → Hp → Prop} {s s' : Slots} {σ σ' : Hp} (hsub : Sub σ' σ) (hf : ∀ t, Fz E σ σ' (s t) (s' t)) (h : sCode E N c Q s' σ') : sCode E N c Q s σ :=
  ⟨fun code T a w hc hT hs hH hN => by
    obtain ⟨h1, h2⟩ := hH.drop σ' hsub
    exact wp_mono (h.out code T a w hc hT (fun t => hf t w _ hH hsub (hs t)) h1 hN) fun e a' w' hg => hg.behind h2 (.refl _ _) rfl⟩

theorem wp_loop_rel {P : Program} {c : Code} {Q : Exit → Act → World → Prop} (J : Nat → Act → World → Prop)
    (round : ∀ n a w, J n a w → c.wp P (Exit.then (fun a' w' => ∃ m, m < n ∧ J m a' w') Q) a w) (n : Nat) (a : Act) (w : World) (h : J n a w) : (Code.loop c).wp P Q a w := by
  have least : ∀ n a w, J n a w → ∃ m, J m a w ∧ ∀ k, k < m → ¬ J k a w := by
    intro n
    induction n using Nat.strongRecOn with
    | _ n ih =>
      intro a w hJ
      by_cases hk : ∃ k, k < n ∧ J k a w
      · obtain ⟨k, hk, hJk⟩ := hk; exact ih k hk a w hJk
      · exact ⟨n, hJ, fun k hkn hJk => hk ⟨k, hkn, hJk⟩⟩
  have hμ : ∃ μ : Act → World → Nat, ∀ a w, (∃ n, J n a w) → J (μ a w) a w ∧ ∀ k, k < μ a w → ¬ J k a w := by
    refine ⟨fun a w => @dite _ (∃ n, J n a w) (Classical.propDecidable _) (fun h => Classical.choose (least _ a w (Classical.choose_spec h))) (fun _ => 0), fun a w hex => ?_⟩
    simp only [dif_pos hex]
    exact Classical.choose_spec (least _ a w (Classical.choose_spec hex))
  obtain ⟨μ, hμ⟩ := hμ
  refine wp_loop (fun a w => ∃ n, J n a w) μ ⟨n, h⟩ fun a w hex => ?_
  obtain ⟨h1, h2⟩ := hμ a w hex
  refine wp_mono (round _ a w h1) fun e a' w' hq => ?_
  cases e with
  | normal =>
    obtain ⟨m, hm, hJ⟩ := hq
    obtain ⟨g1, g2⟩ := hμ a' w' ⟨m, hJ⟩
    refine ⟨⟨m, hJ⟩, ?_⟩
    rcases Nat.lt_or_ge m (μ a' w') with hlt | hge
    · exact absurd hJ (g2 m hlt)
    · omega
  | _ => exact hq

/-- A LOOP: what holds at every round's head of the slots L and of the heap; a measure. -/
theorem sCode.loop {c : ACode} {Q : Exit → Slots → Hp → Prop} {s : Slots} {σ : Hp} (W : Wr) (L : List Nat) (I : List AV → Hp → Prop) (μ : List AV → Hp → Nat) (hW : c.wr W = true)
    (h0 : ∃ vs σ', Sub σ' σ ∧ FzL E σ σ' (L.map s) vs ∧ I vs σ')
    (round : ∀ vs σ', vs.length = L.length → I vs σ' → sCode E N c (fun e s1 σ1 => match e with
      | .normal => ∃ vs' σ'', Sub σ'' σ1 ∧ FzL E σ1 σ'' (L.map s1) vs' ∧ I vs' σ'' ∧ μ vs' σ'' < μ vs σ'
      | e => Q e s1 σ1) ((s.hav W).sets L vs) σ') : sCode E N (.loop c) Q s σ :=
  ⟨fun code T a w hc hT hs hH hN => by
    obtain ⟨cx, rfl, hx⟩ := comp_loop hc
    have hwr : c.wrP (fun t => T t ∧ W.has t = true) := wrP_of_wr c hW hT
    obtain ⟨vs0, σ0, i1, i2, i3⟩ := h0
    obtain ⟨k1, k2, k3⟩ := forget (a0 := a) (W := W) (T := T) hs hs hH (.refl _ _) (.refl _ _) i1 i2
    let J : Nat → Act → World → Prop := fun n a1 w1 => ∃ vs σ1, vs.length = L.length ∧ I vs σ1 ∧ μ vs σ1 = n ∧ (∀ t, Rep E.A σ1 w1 (a1.tmps.getD t undef) ((s.hav W).sets L vs t)) ∧ HRel E σ1 w1 ∧ a1.tmps.size = N ∧ Trans σ w σ1 w1 ∧
      Keep (fun t => T t ∧ W.has t = true) a a1 ∧ a1.defers = a.defers
    refine wp_loop_rel J (fun n a1 w1 hJ => ?_) (μ vs0 σ0) a w ⟨vs0, σ0, by have := i2.get.1; simpa using this.symm, i3, rfl, k1, k2, hN, k3, .refl _ _, rfl⟩
    obtain ⟨vs, σ1, j1, j2, rfl, j4, j5, j6, j7, j8, j9⟩ := hJ
    refine wp_mono ((round vs σ1 j1 j2).out cx _ a1 w1 hx hwr j4 j5 j6) fun e a' w' hg => ?_
    obtain ⟨s', σ', h1, h2, h3, h4, h5, h6, h7⟩ := hg
    have h6T : Keep T a a' := fun t ht => (j8 t (fun hh => ht hh.1) |> fun h => (h6 t (fun hh => ht hh.1)).trans h)
    cases e with
    | normal =>
      obtain ⟨vs', σ'', g1, g2, g3, g4⟩ := h1
      obtain ⟨q1, q2, q3⟩ := forget hs h2 h3 (j7.trans h5) (j8.trans h6) g1 g2
      exact ⟨μ vs' σ'', g4, vs', σ'', by have := g2.get.1; simpa using this.symm, g3, rfl, q1, q2, h4, (j7.trans h5).trans q3, j8.trans h6, h7.trans j9⟩
    | _ => exact ⟨s', σ', h1, h2, h3, h4, j7.trans h5, h6T, h7.trans j9⟩⟩

/-! Calls -/
theorem ACalls.mono {f : FuncId} {args : List AV} {σ : Hp} {K K' : AV → Hp → Prop} (h : ACalls E f args σ K) (hk : ∀ v σ', K v σ' → K' v σ') : ACalls E f args σ K' :=
  ⟨fun w vs hH hr => US.mono (h.out w vs hH hr) hk⟩
/-- A contract whose result is turned: frozen, or with less owned. -/
theorem ACalls.ret {f : FuncId} {args : List AV} {σ : Hp} {K : AV → Hp → Prop} (h : ACalls E f args σ (Ret E K)) : ACalls E f args σ K :=
  ⟨fun w vs hH hr => US.ret (h.out w vs hH hr)⟩

theorem res_sound {σ : Hp} {w : World} {tmps : Array Value} {s : Slots} (hs : ∀ t, Rep E.A σ w (tmps.getD t undef) (s t)) (hH : HRel E σ w) (r : ResultVar) {v : AV} (h : aRes s σ (compRes E.P r) = some v) :
    ∃ x, (match r with
      | .tmp t => (pure (tmps.getD t undef) : Sem Value)
      | .cell a t => do loadVar t (← asAddr (tmps.getD a undef))).run E.P w = .ok x w ∧ Rep E.A σ w x v := by
  cases r with
  | tmp t => simp only [compRes, aRes, Option.some.injEq] at h; subst h; exact ⟨_, rfl, hs t⟩
  | cell n ty =>
    simp only [compRes] at h
    split at h
    · rename_i ag sz hl
      simp only [aRes] at h
      have hr := hs n
      split at h
      · rename_i b sz' i off e1
        rw [e1] at hr
        split at h
        · rename_i sz'' els hσ
          split at h
          · rename_i hsz
            subst hsz
            split at h
            · rename_i x hx
              obtain ⟨c, e, f, h1, h2, h3, h4, h5⟩ := hH.blk b _ hσ
              obtain ⟨u, u1, u2⟩ := load_row (P := E.P) (w := w) (A := E.A) (σ := σ) (b := b) (p := i * sz') hl (fun k y hy => by
                obtain ⟨v, h6, h7⟩ := h5 i x k y hx hy
                exact ⟨v, by simp [World.cell?, h1, h6], h7⟩) h
              refine ⟨u, ?_, u2⟩
              dsimp only
              generalize tmps.getD n undef = ev at hr ⊢
              cases hr with
              | ptr => simp only [asAddr, Sem.run_bind, Sem.run_pure, Result.andThen_ok, u1]
            · cases h
          · cases h
        · cases h
      · cases h
    · simp [aRes] at h

theorem ress_sound {σ : Hp} {w : World} {tmps : Array Value} {s : Slots} (hs : ∀ t, Rep E.A σ w (tmps.getD t undef) (s t)) (hH : HRel E σ w) : ∀ (l : List ResultVar) {vs : List AV}, aRess s σ (l.map (compRes E.P)) = some vs →
    ∃ xs : List Value, (l.mapM fun (r : ResultVar) => match r with
      | .tmp t => (pure (tmps.getD t undef) : Sem Value)
      | .cell a t => do loadVar t (← asAddr (tmps.getD a undef))).run E.P w = .ok xs w ∧ xs.length = vs.length ∧ ∀ (j : Nat) (x : Value) (y : AV), xs[j]? = some x → vs[j]? = some y → Rep E.A σ w x y
  | [], vs, h => by
    simp only [List.map_nil, aRess, Option.some.injEq] at h; subst h
    exact ⟨[], by simp, rfl, fun j x y hx => by simp at hx⟩
  | r :: l, vs, h => by
    simp only [List.map_cons, aRess] at h
    split at h
    · rename_i v vs' h1 h2
      simp only [Option.some.injEq] at h
      subst h
      obtain ⟨x, x1, x2⟩ := res_sound hs hH r h1
      obtain ⟨xs, y1, y2, y3⟩ := ress_sound hs hH l h2
      refine ⟨x :: xs, ?_, by simp [y2], fun j p q hp hq => ?_⟩
      · rw [List.mapM_cons]
        simp only [Sem.run_bind, x1, Result.andThen_ok, y1, Sem.run_pure]
      · match j, hp, hq with
        | 0, hp, hq => simp at hp hq; subst hp; subst hq; exact x2
        | j + 1, hp, hq => exact y3 j p q (by simpa using hp) (by simpa using hq)
    · cases h

/-- THE CONTRACT OF A FUNCTION, out of its code. -/
theorem ACalls.body {f : FuncId} {fn : Func} {code : Code} {c : ACode} {rs : List ARes} {args : List AV} {σ : Hp} {K : AV → Hp → Prop} (hf : E.P.funcs[f]? = some fn) (hn : (fn.name == "runtime.NumGoroutine") = false) (hb : fn.body = some code)
    (hc : comp E.P fn.ntmps code = c.strip) (hr : fn.results.toList.map (compRes E.P) = rs) (hl : Nat.ble args.length fn.ntmps = true)
    (h : aCode E fn.ntmps c (bodyQ E rs K) (Slots.init args) σ) : ACalls E f args σ K := by
  refine ⟨fun w vs hH hvs => ?_⟩
  have hrun : (callFunc f vs).run E.P w = .ok (.enter f vs) w := by
    simp only [callFunc, Sem.run_bind, run_program, Result.andThen_ok, hf, hn, hb, Option.isNone_some, Bool.false_eq_true, if_false, Sem.run_pure]
  rw [hrun]
  have hsz : vs.size = args.length := by have := hvs.1; simpa using this
  have hle : args.length ≤ fn.ntmps := by simpa using hl
  refine calls_of_wp hf hb ?_
  have htm : (vs ++ Array.replicate (fn.ntmps - vs.size) undef).size = fn.ntmps := by simp; omega
  have := (code_sound fn.ntmps c _ _ σ h).out code (fun _ => True) { tmps := vs ++ Array.replicate (fn.ntmps - vs.size) undef, defers := [] } w hc ?_ ?_ hH htm
  · refine wp_mono this fun e a' w' hg => ?_
    obtain ⟨s', σ', h1, h2, h3, h4, h5, h6, h7⟩ := hg
    have fin : aRet E rs K s' σ' → a'.defers = [] ∧ ∃ v, (results fn a'.tmps).run E.P w' = .ok v w' ∧ ∃ v' a σ', Ending.returned v = .returned v' ∧ K a σ' ∧ HRel E σ' w' ∧ Rep E.A σ' w' v' a ∧ Trans σ w σ' w' := by
      intro h1
      refine ⟨h7, ?_⟩
      unfold aRet at h1
      have key : ∀ (vs1 : List AV) (y : AV), aRess s' σ' rs = some vs1 → (vs1 = [y] ∨ (vs1.length ≠ 1 ∧ y = .tuple vs1)) → Ret E K y σ' → ∃ v, (results fn a'.tmps).run E.P w' = .ok v w' ∧ ∃ v' a σ', Ending.returned v = .returned v' ∧ K a σ' ∧ HRel E σ' w' ∧ Rep E.A σ' w' v' a ∧ Trans σ w σ' w' := by
        intro vs1 y e1 e2 h1
        rw [← hr] at e1
        obtain ⟨xs, x1, x2, x3⟩ := ress_sound h2 h3 fn.results.toList e1
        have hm : (fn.results.mapM fun (r : ResultVar) => match r with
            | .tmp t => (pure (a'.tmps.getD t undef) : Sem Value)
            | .cell a t => do loadVar t (← asAddr (a'.tmps.getD a undef))).run E.P w' = .ok xs.toArray w' := by
          rw [Array.mapM_eq_mapM_toList]
          simp only [Sem.run_map, x1, Result.andThen_ok]
        obtain ⟨a, σ'', g1, g2, g3⟩ := h1
        obtain ⟨k1, k2⟩ := h3.drop σ'' g1
        have hres : ∃ v, (results fn a'.tmps).run E.P w' = .ok v w' ∧ Rep E.A σ' w' v y := by
          rcases e2 with rfl | ⟨hne, rfl⟩
          · match xs, x2, x3 with
            | [x], _, x3 =>
              refine ⟨x, ?_, x3 0 x y rfl rfl⟩
              unfold results
              simp only [Sem.run_bind]
              exact (congrArg (fun r => Result.andThen r _) hm).trans (by simp)
          · refine ⟨.tuple xs.toArray, ?_, .tuple _ _ (by simpa using x2) fun j p q hp hq => x3 j p q (by simpa using hp) hq⟩
            unfold results
            simp only [Sem.run_bind]
            refine (congrArg (fun r => Result.andThen r _) hm).trans ?_
            have : ¬ (xs.toArray.size = 1) := by simpa [x2] using hne
            simp only [Result.andThen_ok, dif_neg this, Sem.run_pure]
        obtain ⟨v, v1, v2⟩ := hres
        exact ⟨v, v1, v, a, σ'', rfl, g3, k1, g2 w' v h3 g1 v2, h5.trans k2⟩
      split at h1
      · rename_i v e1; exact key [v] v e1 (.inl rfl) h1
      · rename_i vs1 e1 hne
        refine key vs1 _ hne (.inr ⟨fun hlen => ?_, rfl⟩) h1
        match vs1, hlen with
        | [v], _ => exact e1 v rfl
      · exact h1.elim
    cases e with
    | normal => exact fin h1
    | ret => exact fin h1
    | _ => exact h1.elim
  · clear h
    have : ∀ c : ACode, c.wrP (fun _ => True) := by
      intro c
      induction c <;> simp_all [ACode.wrP]
    exact this c
  · intro t
    simp only [Slots.init]
    by_cases ht : t < args.length
    · have h1 : (vs ++ Array.replicate (fn.ntmps - vs.size) undef).getD t undef = vs[t]'(by omega) := by
        rw [Array.getD_eq_getD_getElem?, Array.getElem?_append_left (by omega), Array.getElem?_eq_getElem (by omega)]; rfl
      have h2 : args.getD t .any = args[t] := by simp [ht]
      rw [h1, h2]
      exact hvs.2 t _ _ (by rw [Array.getElem?_toList, Array.getElem?_eq_getElem (by omega)]) (List.getElem?_eq_getElem ht)
    · have h2 : args.getD t .any = .any := by simp [List.getElem?_eq_none (show args.length ≤ t by omega)]
      rw [h2]; exact .any _
end
end Pat
end Go.Proofs.YthmcfphafofheaaDoor
