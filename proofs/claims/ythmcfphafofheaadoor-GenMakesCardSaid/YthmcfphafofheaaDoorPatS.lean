/- The abstract machine: lists that grow, results, choices. No statement of the seat is proved in this file. -/
import Derived.Test.YthmcfphafofheaaDoorPatR
namespace Go.Proofs.YthmcfphafofheaaDoor
namespace Pat
set_option linter.unusedVariables false
set_option linter.unusedSimpArgs false

section
variable {E : Env} {N : Nat} {Q : Exit → Slots → Hp → Prop} {fs : List Fr} {s : Slots} {σ : Hp} {l : List AOper} {d : Option Nat} {K : AV → Hp → Prop}
/-! Results -/
theorem q_ret1 (n : Nat) : bodyQ E [.t n] K .ret s σ = Ret E K (s n) σ := rfl
theorem q_end1 (n : Nat) : bodyQ E [.t n] K .normal s σ = Ret E K (s n) σ := rfl
theorem q_ret2 (m n : Nat) : bodyQ E [.t m, .t n] K .ret s σ = Ret E K (.tuple [s m, s n]) σ := rfl
theorem q_end0 : bodyQ E [] K .normal s σ = Ret E K (.tuple []) σ := rfl
theorem q_ret0 : bodyQ E [] K .ret s σ = Ret E K (.tuple []) σ := rfl
theorem q_ret3 (m n k : Nat) : bodyQ E [.t m, .t n, .t k] K .ret s σ = Ret E K (.tuple [s m, s n, s k]) σ := rfl
theorem Sub.refl (σ : Hp) : Sub σ σ := fun _ _ h => h
theorem Sub.trans {σ σ' σ'' : Hp} (h : Sub σ' σ) (k : Sub σ'' σ') : Sub σ'' σ := fun b x hx => h b x (k b x hx)
theorem Ret.here {v : AV} (h : K v σ) : Ret E K v σ := ⟨v, σ, Sub.refl σ, Fz.refl _ _ _, h⟩
theorem Ret.less {v : AV} {σ' : Hp} (hs : Sub σ' σ) (h : K v σ') : Ret E K v σ := ⟨v, σ', hs, Fz.refl _ _ _, h⟩
theorem Ret.as {v v' : AV} {σ' : Hp} (hs : Sub σ' σ) (hf : Fz E σ σ' v v') (h : K v' σ') : Ret E K v σ := ⟨v', σ', hs, hf, h⟩

/-! Choices -/
theorem gob_split {p : Prop} [Decidable p] {x y : ACode} (h1 : p → GoC E N Q x fs s σ) (h2 : ¬ p → GoC E N Q y fs s σ) : GoB E N Q (.bool (decide p)) x y fs s σ :=
  ⟨fun h => h1 (of_decide_eq_true h), fun h => h2 (of_decide_eq_false h)⟩
theorem gob_bool {b : Bool} {x y : ACode} (h1 : b = true → GoC E N Q x fs s σ) (h2 : b = false → GoC E N Q y fs s σ) : GoB E N Q (.bool b) x y fs s σ := ⟨h1, h2⟩

/-! A list of elements that grows: nil, or a row of its own. -/
def Lst (σ0 σ : Hp) (v : AV) (sz : Nat) (xs : List AV) : Prop :=
  (v = .nils ∧ xs = [] ∧ σ = σ0) ∨ ∃ b, σ0 b = none ∧ v = .own b sz 0 xs.length ∧ σ = σ0.upd b (.row sz xs)
theorem Lst.nil (σ : Hp) (sz : Nat) : Lst σ σ .nils sz [] := .inl ⟨rfl, rfl, rfl⟩
theorem upd_upd (b : Nat) (x y : ABlk) : (σ.upd b x).upd b y = σ.upd b y := by
  funext i
  simp only [Hp.upd]
  split <;> rfl
theorem del_upd {b : Nat} {x : ABlk} (h : σ b = none) : (σ.upd b x).del b = σ := by
  funext i
  simp only [Hp.upd, Hp.del]
  split
  · rename_i e; rw [e, h]
  · rfl
theorem Lst.sub {σ0 σ : Hp} {v : AV} {sz : Nat} {xs : List AV} (h : Lst σ0 σ v sz xs) : Sub σ0 σ := by
  rcases h with ⟨_, _, rfl⟩ | ⟨b, hb, _, rfl⟩
  · exact Sub.refl _
  · exact Sub.upd hb
/-- It is frozen. -/
theorem Lst.fz {σ0 σ : Hp} {v : AV} {sz : Nat} {xs : List AV} (h : Lst σ0 σ v sz xs) : Fz E σ σ0 v (.rd sz xs) := by
  rcases h with ⟨rfl, rfl, rfl⟩ | ⟨b, hb, rfl, rfl⟩
  · exact Fz.nils _ _ _
  · have := Fz.own (E := E) (σ := σ0.upd b (.row sz xs)) (σ' := σ0) (b := b) (sz := sz) (i := 0) (n := xs.length) (els := xs) (by simp [Hp.upd]) (by omega) hb
    simpa using this
/-- Appending to it. -/
theorem Lst.app {σ0 : Hp} {v : AV} {sz bytes : Nat} {xs ys : List AV} (h : Lst σ0 σ v sz xs) (h1 : ∀ y ∈ ys, y.cells.length = sz) (h2 : ∀ y ∈ ys, ∀ c ∈ y.cells, c.scalar = true) (hb : (xs.length + ys.length) * bytes ≤ 140737488355328)
    (hk : ∀ v' σ', Lst σ0 σ' v' sz (xs ++ ys) → GoO E N Q l fs (s.put d v') σ') : GoApp E N Q sz bytes v (some ys) d l fs s σ := by
  refine ⟨h1, h2, ?_⟩
  rcases h with ⟨rfl, rfl, rfl⟩ | ⟨b, hb0, rfl, rfl⟩
  · cases ys with
    | nil => exact hk _ _ (.inl ⟨rfl, rfl, rfl⟩)
    | cons y ys => exact ⟨by simpa using hb, fun b hb0 => hk _ _ (.inr ⟨b, hb0, by simp, rfl⟩)⟩
  · simp only [Hp.upd, if_true]
    refine ⟨⟨trivial, trivial, by omega⟩, .inl hb, fun hle => ?_, fun hlt b' i' els' hc => ?_⟩
    · have : ys = [] := List.eq_nil_of_length_eq_zero (by omega)
      subst this
      refine hk _ _ (.inr ⟨b, hb0, by simp, ?_⟩)
      rw [upd_upd]
      simp
    · rw [del_upd hb0]
      refine .inl ?_
      rcases hc with ⟨rfl, rfl, rfl⟩ | ⟨hn, rfl, rfl⟩
      · refine hk _ _ (.inr ⟨b', hb0, by simp, by simp⟩)
      · have hn' : σ0 b' = none := by
          by_cases e : b' = b
          · subst e; exact hb0
          · simpa [e] using hn
        exact hk _ _ (.inr ⟨b', hn', by simp, by simp⟩)

/-! Loops -/
/-- Behind a round. -/
def LoopQ (E : Env) (L : List Nat) (I : Nat → List AV → Hp → Prop) (n : Nat) (Q : Exit → Slots → Hp → Prop) (e : Exit) (s : Slots) (σ : Hp) : Prop :=
  match e with
  | .normal => ∃ m vs σ', Sub σ' σ ∧ FzL E σ σ' (L.map s) vs ∧ m < n ∧ I m vs σ'
  | e => Q e s σ
theorem FzL.refl (σ σ' : Hp) : ∀ vs : List AV, FzL E σ σ' vs vs
  | [] => trivial
  | v :: vs => ⟨Fz.refl _ _ _, FzL.refl σ σ' vs⟩
theorem loop_next {L : List Nat} {I : Nat → List AV → Hp → Prop} {n : Nat} {Q : Exit → Slots → Hp → Prop} (m : Nat) (hm : m < n) (h : I m (L.map s) σ) : LoopQ E L I n Q .normal s σ := ⟨m, _, σ, Sub.refl σ, FzL.refl _ _ _, hm, h⟩
theorem loop_exit {L : List Nat} {I : Nat → List AV → Hp → Prop} {n : Nat} {Q : Exit → Slots → Hp → Prop} (i : Nat) : LoopQ E L I n Q (.exit i) s σ = Q (.exit i) s σ := rfl
theorem loop_ret {L : List Nat} {I : Nat → List AV → Hp → Prop} {n : Nat} {Q : Exit → Slots → Hp → Prop} : LoopQ E L I n Q .ret s σ = Q .ret s σ := rfl
theorem kont_gox {Q : Exit → Slots → Hp → Prop} {fs : List Fr} (e : Exit) : kont E N Q fs e s σ = GoX E N Q e fs s σ := rfl
theorem least_of {p : Nat → Prop} : ∀ n, p n → ∃ m, p m ∧ ∀ k, k < m → ¬ p k := by
  intro n
  induction n using Nat.strongRecOn with
  | _ n ih =>
    intro h
    by_cases hk : ∃ k, k < n ∧ p k
    · obtain ⟨k, hk, hp⟩ := hk; exact ih k hk hp
    · exact ⟨n, h, fun k hkn hp => hk ⟨k, hkn, hp⟩⟩
theorem sets_same (t : Nat) : ∀ (L : List Nat) (vs : List AV) (a b : Slots), vs.length = L.length → t ∈ L → a.sets L vs t = b.sets L vs t
  | [], vs, a, b, _, h => by cases h
  | d :: L, [], a, b, hl, _ => by simp at hl
  | d :: L, v :: vs, a, b, hl, hm => by
    simp only [Slots.sets]
    by_cases ht : t ∈ L
    · exact sets_same t L vs _ _ (by simpa using hl) ht
    · have hd : t = d := (List.mem_cons.1 hm).resolve_right ht
      have e1 : ∀ a : Slots, (a.set d v).sets L vs t = (a.set d v) t := fun a => by
        rcases sets_get L vs (a.set d v) t (by simpa using hl) with ⟨i, v', q1, _, _⟩ | ⟨q1, _⟩
        · exact absurd (List.mem_of_getElem? q1) ht
        · exact q1
      rw [e1, e1]
      simp [Slots.set, hd]
theorem go_loop {c : ACode} (W : Wr) (Kp : List Nat) (kv : List AV) (L : List Nat) (I : Nat → List AV → Hp → Prop) (hW : c.wr W = true) (hK : (Kp.all fun t => !W.has t) = true) (hkv : Kp.map s = kv)
    (h0 : ∃ n vs σ', Sub σ' σ ∧ FzL E σ σ' (L.map s) vs ∧ I n vs σ')
    (round : ∀ n vs σ', vs.length = L.length → I n vs σ' → GoC E N (LoopQ E L I n (kont E N Q fs)) c [] (((Slots.init []).sets Kp kv).sets L vs) σ') : GoC E N Q (.loop c) fs s σ := by
  have hμ : ∃ μ : List AV → Hp → Nat, ∀ vs σ, (∃ n, I n vs σ) → I (μ vs σ) vs σ ∧ ∀ k, I k vs σ → μ vs σ ≤ k := by
    refine ⟨fun vs σ => @dite _ (∃ n, I n vs σ) (Classical.propDecidable _) (fun h => Classical.choose (least_of (p := fun n => I n vs σ) _ (Classical.choose_spec h))) (fun _ => 0), fun vs σ hex => ?_⟩
    simp only [dif_pos hex]
    have := Classical.choose_spec (least_of (p := fun n => I n vs σ) _ (Classical.choose_spec hex))
    exact ⟨this.1, fun k hk => Nat.le_of_not_lt fun hlt => this.2 k hlt hk⟩
  obtain ⟨μ, hμ⟩ := hμ
  subst hkv
  refine sCode.loop W L (fun vs σ => ∃ n, I n vs σ) μ hW ?_ ?_
  · obtain ⟨n, vs, σ', h1, h2, h3⟩ := h0
    exact ⟨vs, σ', h1, h2, n, h3⟩
  · intro vs σ' hlen hex
    obtain ⟨g1, g2⟩ := hμ vs σ' hex
    refine sCode.weak (Sub.refl _) (s' := ((Slots.init []).sets Kp (Kp.map s)).sets L vs) (fun t => ?_) ((code_sound N c _ _ _ (round _ vs σ' hlen g1)).mono fun e s1 σ1 hq => ?_)
    · rcases sets_get L vs ((Slots.init []).sets Kp (Kp.map s)) t hlen with ⟨i, v, k1, k2, k3⟩ | ⟨k1, k2⟩
      · rcases sets_get L vs (s.hav W) t hlen with ⟨i', v', k1', k2', k3'⟩ | ⟨_, k2'⟩
        · have := sets_same t L vs (s.hav W) ((Slots.init []).sets Kp (Kp.map s)) hlen (List.mem_of_getElem? k1)
          rw [this]
          exact Fz.refl _ _ _
        · exact absurd (List.mem_of_getElem? k1) k2'
      · rw [k1]
        rcases sets_get Kp (Kp.map s) (Slots.init []) t (by simp) with ⟨i, v, q1, q2, q3⟩ | ⟨q1, q2⟩
        · rw [q3]
          rcases sets_get L vs (s.hav W) t hlen with ⟨i', v', k1', _, _⟩ | ⟨k1', _⟩
          · exact absurd (List.mem_of_getElem? k1') k2
          · rw [k1']
            rw [List.getElem?_map, q1] at q2
            simp only [Option.map_some, Option.some.injEq] at q2
            have hn : W.has t = false := by
              have := List.all_eq_true.1 hK t (List.mem_of_getElem? q1)
              simpa using this
            simp only [Slots.hav, hn, Bool.false_eq_true, if_false, q2]
            exact Fz.refl _ _ _
        · rw [q1]
          simp only [Slots.init, List.getD_nil]
          exact Fz.any _ _ _
    · cases e with
      | normal =>
        obtain ⟨m, vs', σ'', q1, q2, q3, q4⟩ := hq
        exact ⟨vs', σ'', q1, q2, ⟨m, q4⟩, Nat.lt_of_le_of_lt ((hμ vs' σ'' ⟨m, q4⟩).2 m q4) q3⟩
      | _ => exact hq

/-! Rows of given values -/
theorem one_cells {v : AV} (h : v.one = true) : v.cells = [v] ∧ v.known = true ∧ v.cell = true := by cases v <;> first | exact ⟨rfl, rfl, rfl⟩ | cases h
theorem fill_seq : ∀ (vs : List (Nat × AV)) (pre rest : List AV), vs.map (·.1) = List.range' pre.length vs.length → (∀ p ∈ vs, p.2.one = true) → vs.length ≤ rest.length →
    fillA (pre ++ rest) (vs.map fun p => (p.1 * 1, p.2.cells)) = pre ++ vs.map (·.2) ++ rest.drop vs.length
  | [], pre, rest, _, _, _ => by simp [fillA]
  | (i, v) :: vs, pre, rest, h1, h2, h3 => by
    simp only [List.map_cons, List.length_cons, List.range'_succ, List.cons.injEq] at h1
    obtain ⟨rfl, h1⟩ := h1
    obtain ⟨c1, _, _⟩ := one_cells (h2 (pre.length, v) (by simp))
    simp only at c1
    cases rest with
    | nil => simp at h3
    | cons r rest =>
      have ih := fill_seq vs (pre ++ [v]) rest (by simpa using h1) (fun p hp => h2 p (by simp [hp])) (by simpa using h3)
      simp only [List.map_cons, fillA, c1, Nat.mul_one]
      rw [show List.take pre.length (pre ++ r :: rest) ++ [v] ++ List.drop (pre.length + [v].length) (pre ++ r :: rest) = pre ++ [v] ++ rest by simp [List.drop_append]]
      simp only [Nat.mul_one] at ih
      rw [ih]
      simp
theorem elems_one : ∀ l : List AV, elems false 1 l l.length = l
  | [] => rfl
  | v :: l => by simp [elems, elems_one l]
theorem partsOk_seq (n : Nat) : ∀ (vs : List (Nat × AV)), (∀ p ∈ vs, p.2.one = true) → (∀ p ∈ vs, p.1 < n) → partsOk (n * 1) (vs.map fun p => (p.1 * 1, 1, p.2)) = true
  | [], _, _ => rfl
  | (i, v) :: vs, h1, h2 => by
    obtain ⟨c1, c2, _⟩ := one_cells (h1 (i, v) (by simp))
    simp only at c1 c2
    have hi := h2 (i, v) (by simp)
    simp only at hi
    simp only [List.map_cons, partsOk, c1, c2, partsOk_seq n vs (fun p hp => h1 p (by simp [hp])) (fun p hp => h2 p (by simp [hp]))]
    simp; omega
theorem row_given {n : Nat} {z : AV} {vs : List (Nat × AV)} (h1 : vs.map (·.1) = List.range' 0 (n + 1)) (h2 : ∀ p ∈ vs, p.2.one = true) :
    partsOk ((n + 1) * 1) (vs.map fun p => (p.1 * 1, 1, p.2)) = true ∧ fillA ((List.replicate (n + 1) [z]).flatten) (vs.map fun p => (p.1 * 1, p.2.cells)) = vs.map (·.2) ∧ (vs.map (·.2)).all AV.cell = true ∧ elems false 1 (vs.map (·.2)) (n + 1) = vs.map (·.2) := by
  have hl : vs.length = n + 1 := by have := congrArg List.length h1; simpa using this
  have hf : (List.replicate (n + 1) [z]).flatten = List.replicate (n + 1) z := by
    generalize n + 1 = m
    induction m with
    | zero => rfl
    | succ m ih => simp [List.replicate_succ, ih]
  refine ⟨partsOk_seq (n + 1) vs h2 fun p hp => ?_, ?_, ?_, ?_⟩
  · have : p.1 ∈ vs.map (·.1) := List.mem_map.2 ⟨p, hp, rfl⟩
    rw [h1] at this
    simpa using this
  · have := fill_seq vs [] (List.replicate (n + 1) z) (by simpa [hl] using h1) h2 (by simp [hl])
    rw [hf]
    simpa [hl] using this
  · rw [List.all_eq_true]
    intro v hv
    obtain ⟨p, hp, rfl⟩ := List.mem_map.1 hv
    exact (one_cells (h2 p hp)).2.2
  · have := elems_one (vs.map (·.2))
    rwa [List.length_map, hl] at this
theorem blit_row {n : Nat} {z : AV} {vs : List (Nat × AV)} (h1 : vs.map (·.1) = List.range' 0 (n + 1)) (h2 : ∀ p ∈ vs, p.2.one = true) (h : GoO E N Q l fs (s.put d (.rd 1 (vs.map (·.2)))) σ) : GoBlit E N Q 1 false [z] n vs d l fs s σ := by
  obtain ⟨a, b, c, e⟩ := row_given (z := z) h1 h2
  unfold GoBlit
  rw [b, e]
  exact ⟨⟨a, .inr ⟨rfl, c⟩⟩, h⟩
theorem bsl_row {n : Nat} {z : AV} {vs : List (Nat × AV)} (h1 : vs.map (·.1) = List.range' 0 (n + 1)) (h2 : ∀ p ∈ vs, p.2.one = true) (h : ∀ b, σ b = none → GoO E N Q l fs (s.put d (.own b 1 0 (n + 1))) (σ.upd b (.row 1 (vs.map (·.2))))) : GoBsl E N Q 1 false [z] n vs d l fs s σ := by
  obtain ⟨a, b, c, e⟩ := row_given (z := z) h1 h2
  unfold GoBsl
  rw [b, e]
  exact ⟨⟨a, .inr ⟨rfl, c⟩⟩, h⟩

/-- A call whose arguments are turned: frozen, or forgotten. -/
theorem ACalls.args {f : FuncId} {args args' : List AV} {σ : Hp} {K : AV → Hp → Prop} (hf : FzL E σ σ args args') (h : ACalls E f args' σ K) : ACalls E f args σ K :=
  ⟨fun w vs hH hr => h.out w vs hH ⟨by rw [hr.1, hf.get.1], fun j x y hx hy => by
    have hl := hf.get.1
    have hj : j < args.length := by rw [hl]; exact (List.getElem?_eq_some_iff.1 hy).1
    exact hf.get.2 j args[j] y (List.getElem?_eq_getElem hj) hy w x hH (Sub.refl σ) (hr.2 j x _ hx (List.getElem?_eq_getElem hj))⟩⟩
theorem Lst.one {σ : Hp} {b sz : Nat} {v : AV} (hb : σ b = none) : Lst σ (σ.upd b (.row sz [v])) (.own b sz 0 1) sz [v] := .inr ⟨b, hb, rfl, rfl⟩

theorem Lst.ne {σ0 σ : Hp} {v : AV} {sz : Nat} {xs : List AV} (h : Lst σ0 σ v sz xs) (hx : xs ≠ []) : ∃ b, σ0 b = none ∧ v = .own b sz 0 xs.length ∧ σ = σ0.upd b (.row sz xs) := by
  rcases h with ⟨_, rfl, _⟩ | h
  · exact absurd rfl hx
  · exact h
theorem upd_same (b : Nat) (x : ABlk) : σ.upd b x b = some x := by simp [Hp.upd]

/-- Cells of known values. -/
theorem avc : (∀ k n, (AV.int k n).cells = [.int k n]) ∧ (∀ l, (AV.str l).cells = [.str l]) ∧ (∀ b, (AV.bool b).cells = [.bool b]) ∧ (AV.nils.cells = [.nils]) ∧ (AV.nilp.cells = [.nilp]) ∧ (AV.nilIface.cells = [.nilIface]) ∧ (AV.nilFunc.cells = [.nilFunc]) ∧ (AV.nilmap.cells = [.nilmap]) ∧
    (∀ sz xs, (AV.rd sz xs).cells = [.rd sz xs]) ∧ (∀ b sz i n, (AV.own b sz i n).cells = [.own b sz i n]) ∧ (∀ b sz i n, (AV.ptr b sz i n).cells = [.ptr b sz i n]) ∧ (∀ x n, (AV.re x n).cells = [.re x n]) ∧ (∀ t v, (AV.iface t v).cells = [.iface t v]) ∧ (∀ f a b, (AV.func f a b).cells = [.func f a b]) ∧ (∀ b, (AV.map b).cells = [.map b]) ∧ (∀ cs, (AV.agg cs).cells = cs) ∧
    (∀ k n, (AV.int k n).known = true) ∧ (∀ l, (AV.str l).known = true) ∧ (∀ b, (AV.bool b).known = true) ∧ (AV.nils.known = true) ∧ (AV.nilp.known = true) ∧ (AV.nilIface.known = true) ∧ (AV.nilFunc.known = true) ∧ (AV.nilmap.known = true) ∧
    (∀ sz xs, (AV.rd sz xs).known = true) ∧ (∀ b sz i n, (AV.own b sz i n).known = true) ∧ (∀ b sz i n, (AV.ptr b sz i n).known = true) ∧ (∀ x n, (AV.re x n).known = true) ∧ (∀ t v, (AV.iface t v).known = true) ∧ (∀ f a b, (AV.func f a b).known = true) ∧ (∀ b, (AV.map b).known = true) ∧ (∀ cs, (AV.agg cs).known = true) := by
  refine ⟨?_, ?_, ?_, ?_, ?_, ?_, ?_, ?_, ?_, ?_, ?_, ?_, ?_, ?_, ?_, ?_, ?_, ?_, ?_, ?_, ?_, ?_, ?_, ?_, ?_, ?_, ?_, ?_, ?_, ?_, ?_, ?_⟩ <;> intros <;> rfl
/-! Lemmas of Lean's own in one -/
theorem ew : (∀ {α : Type} {a d : α} {l : List α}, (a :: l).getD 0 d = a) ∧ (∀ {α : Type} {a d : α} {l : List α} {n : Nat}, (a :: l).getD (n + 1) d = l.getD n d) ∧
    (∀ {α β : Type} {f : α → β} {a : α} {l : List α}, (a :: l).map f = f a :: l.map f) ∧ (∀ {α β : Type} {f : α → β}, ([] : List α).map f = []) ∧
    (∀ {α : Type} {a : α} {l : List α}, (a :: l).length = l.length + 1) ∧ (∀ {α : Type}, ([] : List α).length = 0) ∧ (∀ {α β : Type} {f : α → β} {l : List α}, (l.map f).length = l.length) ∧
    (∀ {α : Type} {a : α} {l : List α}, (a :: l)[0]? = some a) ∧ (∀ {α : Type} {a : α} {l : List α} {n : Nat}, (a :: l)[n + 1]? = l[n]?) ∧ (∀ {α : Type} {n : Nat}, ([] : List α)[n]? = none) ∧
    (∀ {α β : Type} {f : α → β} {l : List α} {i : Nat}, (l.map f)[i]? = (l[i]?).map f) ∧ (∀ {α β : Type} {f : α → β} {a : α}, (some a).map f = some (f a)) ∧ (∀ {α β : Type} {f : α → β}, (none : Option α).map f = none) ∧
    (∀ {α : Type} {a b : α}, (if True then a else b) = a) ∧ (∀ {α : Type} {a b : α}, (if False then a else b) = b) ∧ (∀ {n : Nat}, ((n : Int)).toNat = n) ∧ (∀ {n : Nat}, (0 : Int) ≤ (n : Int) ↔ True) ∧
    (∀ {α : Type} {l : List α}, [] ++ l = l) ∧ (∀ {α : Type} {l : List α}, l ++ [] = l) ∧ (∀ {α : Type} {a : α} {l m : List α}, (a :: l) ++ m = a :: (l ++ m)) ∧ ((!true) = false) ∧ ((!false) = true) ∧ (decide True = true) ∧ (decide False = false) ∧
    (∀ {b : Bool}, negIf false b = b) ∧ (∀ {b : Bool}, negIf true b = !b) ∧ (∀ {n : Nat}, 0 + n = n) ∧ (∀ {n : Int}, 0 + n = n) ∧ (∀ {n : Nat}, n + 0 = n) ∧ (∀ {n : Int}, n + 0 = n) ∧ (∀ {a : Int}, a ≤ a ↔ True) ∧ ((0 : Int).toNat = 0) ∧
    (∀ {α β : Type} {f : α → β} {l : List α} {n : Nat}, (l.map f).drop n = (l.drop n).map f) ∧ (∀ {α β : Type} {f : α → β} {l : List α} {n : Nat}, (l.map f).take n = (l.take n).map f) ∧
    (∀ {sz : Nat} {xs : List AV}, (AV.rd sz xs).one = true) ∧ (∀ {k : IntKind} {n : Int}, (AV.int k n).one = true) ∧ (∀ {l : List UInt8}, (AV.str l).one = true) ∧ (AV.nils.one = true) ∧ (∀ {b sz i n : Nat}, (AV.own b sz i n).one = true) ∧ (∀ {b sz i n : Nat}, (AV.ptr b sz i n).one = true) ∧ (∀ {f : Fn} {a b : List AV}, (AV.func f a b).one = true) ∧
    (((0 : Nat) : Int) = 0) ∧ (((1 : Nat) : Int) = 1) ∧ (∀ {n : Nat}, ((n + 1 : Nat) : Int) = 0 ↔ False) ∧
    (∀ {p : Prop}, (True ∧ p) = p) ∧ (∀ {p : Prop}, (p ∧ True) = p) ∧ (∀ {p : Prop}, (True → p) = p) ∧ (∀ {p : Prop}, (False → p) = True) ∧ ((¬ True) = False) ∧ ((¬ False) = True) ∧ (∀ {α : Type} {a : α}, (a = a) = True) ∧ (∀ {α : Type} {a : α}, (a ≠ a) = False) := by
  refine ⟨?_, ?_, ?_, ?_, ?_, ?_, ?_, ?_, ?_, ?_, ?_, ?_, ?_, ?_, ?_, ?_, ?_, ?_, ?_, ?_, ?_, ?_, ?_, ?_, ?_, ?_, ?_, ?_, ?_, ?_, ?_, ?_, ?_, ?_, ?_, ?_, ?_, ?_, ?_, ?_, ?_, ?_, ?_, ?_, ?_, ?_, ?_, ?_, ?_, ?_, ?_, ?_⟩ <;> intros <;> first | rfl | (simp; done) | (simp [negIf]; done) | omega | (constructor <;> intro h <;> first | omega | exact h.elim)
end
end Pat
end Go.Proofs.YthmcfphafofheaaDoor
