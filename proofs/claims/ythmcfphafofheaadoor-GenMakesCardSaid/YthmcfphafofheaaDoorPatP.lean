/- The abstract machine: regions that draw their order (2). No statement of the seat is proved in this file. -/
import Derived.Test.YthmcfphafofheaaDoorPatO
namespace Go.Proofs.YthmcfphafofheaaDoor
namespace Pat
set_option linter.unusedVariables false
set_option linter.unusedSimpArgs false

section
variable {P : Program} {ops : Array Oper} {Q : Exit → Act → World → Prop} {T : Nat → Bool}

/-- Operation i leaves this value behind it, in this world, and does nothing else. -/
def YAt (P : Program) (ops : Array Oper) (o : Oper) (v : Value) (a : Act) (w : World) : Prop :=
  (Region.wanted o (yielded ops a.tmps) = true ∧ (execOp a.eval o).run P w = .ok (.value v) w) ∨ (Region.wanted o (yielded ops a.tmps) = false ∧ v = undef)
def qOp (P : Program) (ops : Array Oper) (i : Nat) (K : Act → World → Prop) (a : Act) (w : World) : Prop :=
  match ops[i]? with
  | none => False
  | some o => ∃ v, YAt P ops o v a w ∧ K (a.put o.dst v) w
/-- Whatever order is picked; those of T are quiet. -/
def wpM (P : Program) (ops : Array Oper) (Q : Exit → Act → World → Prop) (T : Nat → Bool) : Nat → Array Bool → Act → World → Prop
  | 0, listed, a, w => Region.ready .any ops listed = [] ∧ Q .normal a w
  | fuel + 1, listed, a, w =>
    (Region.ready .any ops listed = [] → Q .normal a w) ∧
    ∀ i ∈ Region.ready .any ops listed, (T i = true → qOp P ops i (wpM P ops Q T fuel (listed.setIfInBounds i true)) a w) ∧ (T i = false → wpOp P ops Q i (wpM P ops Q T fuel (listed.setIfInBounds i true)) a w)

theorem wpOp_of_q {i : Nat} {K : Act → World → Prop} {a : Act} {w : World} (h : qOp P ops i K a w) : wpOp P ops Q i K a w := by
  unfold qOp at h
  unfold wpOp
  cases ho : ops[i]? with
  | none => rw [ho] at h; exact h.elim
  | some o =>
    rw [ho] at h
    obtain ⟨v, h1, h2⟩ := h
    rcases h1 with ⟨g1, g2⟩ | ⟨g1, rfl⟩
    · simp only [g1, if_true, Oper.wp, g2, Oper.upon]; exact .inl h2
    · simp only [g1, Bool.false_eq_true, if_false]; exact h2
theorem qOp_mono {i : Nat} {K K' : Act → World → Prop} {a : Act} {w : World} (hk : ∀ a, K a w → K' a w) (h : qOp P ops i K a w) : qOp P ops i K' a w := by
  unfold qOp at *
  cases ho : ops[i]? with
  | none => rw [ho] at h; exact h.elim
  | some o =>
    rw [ho] at h
    obtain ⟨v, h1, h2⟩ := h
    exact ⟨v, h1, hk _ h2⟩
theorem wpAny_of_m : ∀ (fuel : Nat) (listed : Array Bool) (a : Act) (w : World), wpM P ops Q T fuel listed a w → wpAny P .any ops Q fuel listed a w
  | 0, _, _, _, h => h
  | fuel + 1, listed, a, w, h => ⟨h.1, fun i hi => by
    have := h.2 i hi
    cases hT : T i with
    | true => exact wpOp_mono (fun a w h => wpAny_of_m fuel _ a w h) (wpOp_of_q (this.1 hT))
    | false => exact wpOp_mono (fun a w h => wpAny_of_m fuel _ a w h) (this.2 hT)⟩

theorem YAt.of_same {o : Oper} {v : Value} {a a' : Act} {w : World} (hy : YAt P ops o v a w) (he : execOp a'.eval o = execOp a.eval o) (hw : Region.wanted o (yielded ops a'.tmps) = Region.wanted o (yielded ops a.tmps)) : YAt P ops o v a' w := by
  unfold YAt at *
  rw [he, hw]
  exact hy
/-- A quiet operation, with another's value already there or not. -/
theorem qOp_put {j : Nat} {oi oj : Oper} {v : Value} (hj : ops[j]? = some oj) (hap : oi.apart ops oj = true) (hsi : ∀ cs b, oi.op ≠ .select cs b) (hsj : ∀ cs b, oj.op ≠ .select cs b)
    {K : Act → World → Prop} {a : Act} {w : World} (h : qOp P ops j K (a.put oi.dst v) w) : qOp P ops j (fun a' w' => (∀ w2, YAt P ops oi v a w2 → YAt P ops oi v a' w2) ∧ K (a'.put oi.dst v) w') a w := by
  obtain ⟨h1, h2, h3⟩ := Oper.apart_spec hap
  unfold qOp at *
  simp only [hj] at *
  obtain ⟨u, hu, hk⟩ := h
  refine ⟨u, hu.of_same (execOp_put oj hsj a oi.dst v h1).symm (wanted_put oj a oi.dst v h1).symm, fun w2 hy => hy.of_same (execOp_put oi hsi a oj.dst u h3) (wanted_put oi a oj.dst u h3), ?_⟩
  rw [← Act.put_comm a v u h2]
  exact hk

/-- **An operation that may come up now is taken first**: it doesn't hang on the world; or all that may come up before it (F, with what is listed) is quiet. -/
theorem wpM_first {i : Nat} {oi : Oper} {v : Value} {F : Nat → Bool} (hi : ops[i]? = some oi) (hTi : T i = true) (hsel : ∀ (j : Nat) (o : Oper) cs b, ops[j]? = some o → o.op ≠ .select cs b)
    (hQ : ∀ c a w, ¬ Q (.panic c) a w) : ∀ (fuel : Nat) (listed : Array Bool) (a : Act) (w : World),
      (∀ j oj, ops[j]? = some oj → j ≠ i → listed.getD j true = false → (∀ e ∈ oj.after, Region.binds .any e = true → e.on ≠ i) → oi.apart ops oj = true) →
      i ∈ Region.ready .any ops listed →
      ((∀ w', YAt P ops oi v a w') ∨ (YAt P ops oi v a w ∧ (∀ k, listed.getD k false = true → F k = true) ∧ (∀ j oj, ops[j]? = some oj → j ≠ i → (∀ e ∈ oj.after, Region.binds .any e = true → F e.on = true) → listed.getD j true = false → F j = true ∧ T j = true))) →
      wpM P ops Q T fuel (listed.setIfInBounds i true) (a.put oi.dst v) w → wpM P ops Q T (fuel + 1) listed a w := by
  intro fuel
  induction fuel with
  | zero =>
    intro listed a w _ hr hy H
    have hyw : YAt P ops oi v a w := hy.elim (fun h => h w) (fun h => h.1)
    refine ⟨fun h => (by rw [h] at hr; cases hr), fun j hj => ?_⟩
    by_cases hji : j = i
    · subst hji
      refine ⟨fun _ => ?_, fun h => by rw [hTi] at h; cases h⟩
      unfold qOp; rw [hi]; exact ⟨v, hyw, H⟩
    · have := ready_mono hj hji
      rw [H.1] at this
      cases this
  | succ fuel ih =>
    intro listed a w hfree hr hy H
    have hyw : YAt P ops oi v a w := hy.elim (fun h => h w) (fun h => h.1)
    refine ⟨fun h => (by rw [h] at hr; cases hr), fun j hj => ?_⟩
    by_cases hji : j = i
    · subst hji
      refine ⟨fun _ => ?_, fun h => by rw [hTi] at h; cases h⟩
      unfold qOp; rw [hi]; exact ⟨v, hyw, H⟩
    · have h1 := H.2 j (ready_mono hj hji)
      obtain ⟨hjun, oj, hoj, hall⟩ := mem_ready.1 hj
      have hnot : ∀ e ∈ oj.after, Region.binds .any e = true → e.on ≠ i := fun e he hb heq => by
        have h1 := hall e he hb
        have h0 := (mem_ready.1 hr).1
        rw [heq] at h1
        rcases Nat.lt_or_ge i listed.size with h' | h'
        · simp [h'] at h0 h1; rw [h0] at h1; cases h1
        · simp [Array.getElem?_eq_none h'] at h1
      have hap := hfree j oj hoj hji hjun hnot
      have hfree' : ∀ k ok, ops[k]? = some ok → k ≠ i → (listed.setIfInBounds j true).getD k true = false →
          (∀ e ∈ ok.after, Region.binds .any e = true → e.on ≠ i) → oi.apart ops ok = true := fun k ok hk hki hun hno => by
        refine hfree k ok hk hki ?_ hno
        by_cases hjk : j = k
        · subst hjk; exact hjun
        · rw [getD_set_ne true hjk] at hun; exact hun
      constructor
      · intro hT
        refine qOp_mono (fun a' h3 => ?_) (qOp_put (K := wpM P ops Q T fuel ((listed.setIfInBounds i true).setIfInBounds j true)) hoj hap (fun cs b => hsel i oi cs b hi) (fun cs b => hsel j oj cs b hoj) (h1.1 hT))
        refine ih (listed.setIfInBounds j true) a' w hfree' (ready_mono hr (Ne.symm hji)) ?_ ?_
        · rcases hy with hy | ⟨_, hF, hG⟩
          · exact .inl fun w' => h3.1 w' (hy w')
          · have hFj := hG j oj hoj hji (fun e he hb => hF _ (hall e he hb)) hjun
            refine .inr ⟨h3.1 w hyw, fun k hk => ?_, fun k ok hk hki hd hun => hG k ok hk hki hd ?_⟩
            · by_cases hjk : j = k
              · subst hjk; exact hFj.1
              · exact hF k (by rw [getD_set_ne false hjk] at hk; exact hk)
            · by_cases hjk : j = k
              · subst hjk; exact hjun
              · rw [getD_set_ne true hjk] at hun; exact hun
        · rw [Array.setIfInBounds_comm _ _ hji]
          exact h3.2
      · intro hT
        rcases hy with hy | ⟨_, hF, hG⟩
        · have hy' : Yields P ops oi v a := by
            rcases hyw with ⟨g1, _⟩ | ⟨g1, g2⟩
            · refine .inl ⟨g1, fun w' => ?_⟩
              rcases hy w' with ⟨_, k2⟩ | ⟨k1, _⟩
              · exact k2
              · rw [g1] at k1; cases k1
            · exact .inr ⟨g1, g2⟩
          refine wpOp_mono (fun a' w' h3 => ?_) (wpOp_put hoj hap (fun cs b => hsel i oi cs b hi) (fun cs b => hsel j oj cs b hoj) (fun c a w h => absurd h (hQ c _ _)) hy' (h1.2 hT))
          refine ih (listed.setIfInBounds j true) a' w' hfree' (ready_mono hr (Ne.symm hji)) (.inl fun w2 => ?_) ?_
          · rcases h3.1 with ⟨g1, g2⟩ | ⟨g1, g2⟩
            · exact .inl ⟨g1, g2 w2⟩
            · exact .inr ⟨g1, g2⟩
          · rw [Array.setIfInBounds_comm _ _ hji]
            exact h3.2
        · exfalso
          have := (hG j oj hoj hji (fun e he hb => hF _ (hall e he hb)) hjun).2
          rw [hT] at this; cases this

theorem wpM_done {listed : Array Bool} {a : Act} {w : World} (hr : Region.ready .any ops listed = []) (h : Q .normal a w) : ∀ fuel, wpM P ops Q T fuel listed a w
  | 0 => ⟨hr, h⟩
  | _ + 1 => ⟨fun _ => h, by rw [hr]; simp⟩
end

/-- In which order the operations are looked at: 'take': this one first (F: what may come up before it); 'pick': whichever comes up. -/
inductive IT where
  | done
  | take (i : Nat) (F : List Nat) (r : IT)
  | pick (c : IT)
  | more (i : Nat) (r rest : IT)
  | stop
  deriving Inhabited
inductive DT where
  | done
  | take (o : AOper) (r : DT)
  | more (o : AOper) (r rest : DT)
  | stop
  deriving Inhabited
def tq (l : List AOper) (i : Nat) : Bool := match l[i]? with | some o => o.op.calm || o.op.read | none => false
def tc (l : List AOper) (i : Nat) : Bool := match l[i]? with | some o => o.op.calm | none => false
def IT.alts : IT → List Nat
  | .more i _ rest => i :: rest.alts
  | _ => []
def IT.isMore : IT → Bool
  | .more .. => true
  | _ => false
def IT.isEnd : IT → Bool
  | .more .. | .stop => true
  | _ => false
def fOk (ops : Array Oper) (l : List AOper) (listed : Array Bool) (F : List Nat) (i : Nat) : Bool :=
  (List.range ops.size).all fun j => j == i || listed.getD j true || (F.contains j && tq l j) || match ops[j]? with
    | some oj => oj.after.any fun e => Region.binds .any e && !(listed.getD e.on false || F.contains e.on)
    | none => true
/-- An order that may be looked at. -/
def IT.ok (ops : Array Oper) (l : List AOper) : IT → Nat → Array Bool → Bool
  | .done, _, listed => (Region.ready .any ops listed).isEmpty
  | .take i F r, n + 1, listed => (Region.ready .any ops listed).contains i && Region.free .any ops listed i && (tc l i || (tq l i && fOk ops l listed F i)) && !r.isEnd && r.ok ops l n (listed.setIfInBounds i true)
  | .take _ _ _, 0, _ => false
  | .pick c, n + 1, listed => c.isMore && c.alts == Region.ready .any ops listed && c.ok ops l n listed
  | .pick _, 0, _ => false
  | .more i r rest, n, listed => Nat.blt i l.length && !r.isEnd && r.ok ops l n (listed.setIfInBounds i true) && rest.isEnd && rest.ok ops l n listed
  | .stop, _, _ => true
def IT.dt (l : List AOper) : IT → DT
  | .done => .done
  | .take i _ r => .take (l.getD i default) (r.dt l)
  | .pick c => c.dt l
  | .more i r rest => .more (l.getD i default) (r.dt l) (rest.dt l)
  | .stop => .stop
def aTree (E : Env) : DT → Slots → Hp → (Slots → Hp → Prop) → Prop
  | .done, s, σ, K => K s σ
  | .take o r, s, σ, K => aOps E [o] s σ fun s σ => aTree E r s σ K
  | .more o r rest, s, σ, K => (aOps E [o] s σ fun s σ => aTree E r s σ K) ∧ aTree E rest s σ K
  | .stop, _, _, _ => True

section
variable {E : Env}
/-- What is kept along a region's operations. -/
structure Here (E : Env) (N : Nat) (T : Nat → Prop) (σ0 : Hp) (a0 : Act) (w0 : World) (s : Slots) (σ : Hp) (a : Act) (w : World) : Prop where
  rep : RelS E.A σ w a.tmps s
  rel : HRel E σ w
  size : a.tmps.size = N
  trans : Trans σ0 w0 σ w
  keep : Keep T a0 a
  defers : a.defers = a0.defers

theorem step_sound {ops : Array Oper} {N : Nat} {T : Nat → Prop} {σ0 : Hp} {a0 : Act} {w0 : World} {Q : Exit → Act → World → Prop} {i : Nat} {o : Oper} {ao : AOper} {s : Slots} {σ : Hp} {a : Act} {w : World} {K : Slots → Hp → Prop} {K' : Act → World → Prop}
    (ho : ops[i]? = some o) (hao : ao.strip = compOper E.P ops o) (hf : fits N ops o = true) (hT : ∀ d, ao.dst = some d → T d) (hh : Here E N T σ0 a0 w0 s σ a w) (hK : ∀ s σ a w, Here E N T σ0 a0 w0 s σ a w → K s σ → K' a w) (h : aOps E [ao] s σ K) :
    ((ao.op.calm || ao.op.read) = true → ∃ v, YAt E.P ops o v a w ∧ (ao.op.calm = true → ∀ w', YAt E.P ops o v a w') ∧ K' (a.put o.dst v) w) ∧ wpOp E.P ops Q i K' a w := by
  obtain ⟨hs, hH, hN, ht, hk, hd⟩ := hh
  have hadst : ao.dst = o.dst := congrArg AOper.dst hao
  have haop : compOp E.P o.op = ao.op.strip := (congrArg AOper.op hao).symm
  have hag : ao.guard = o.guard.map fun (j, w) => (((ops[j]?).bind (·.dst)).getD 0, w) := congrArg AOper.guard hao
  have hdst : ∀ t, o.dst = some t → t < a.tmps.size := fun t e => by
    have := hf
    simp only [fits, e, Bool.and_eq_true] at this
    have h2 : Nat.blt t N = true := this.1
    have h3 : t < N := by simpa using h2
    rw [hN]; exact h3
  have hTo : ∀ t, o.dst = some t → T t := fun t e => hT t (hadst.trans e)
  have step : ∀ v x σ' w', K (s.put o.dst x) σ' → HRel E σ' w' → Rep E.A σ' w' v x → Trans σ w σ' w' → K' (a.put o.dst v) w' := by
    intro v x σ' w' h1 h2 h3 h4
    exact hK _ _ _ _ ⟨(hs.mono h4).put hdst h3, h2, by rw [size_put]; exact hN, ht.trans h4, hk.trans (Keep.put hTo v), by rw [defers_put]; exact hd⟩ h1
  simp only [aOps, hadst] at h
  have exec : Region.wanted o (yielded ops a.tmps) = true → aOp E s σ ao.op (fun v σ' => K (s.put o.dst v) σ') →
      ((ao.op.calm || ao.op.read) = true → ∃ v, YAt E.P ops o v a w ∧ (ao.op.calm = true → ∀ w', YAt E.P ops o v a w') ∧ K' (a.put o.dst v) w) ∧ wpOp E.P ops Q i K' a w := by
    intro hw h
    refine ⟨fun hq => ?_, ?_⟩
    · obtain ⟨v, v1, v2, x, σ', v3, v4, v5, v6⟩ := quiet_sound hs hH o ao.op haop (by simpa using hq) h
      exact ⟨v, .inl ⟨hw, v1⟩, fun hc w' => .inl ⟨hw, v2 hc w'⟩, step v x σ' w v3 v4 v5 v6⟩
    · unfold wpOp
      simp only [ho, hw, if_true]
      exact .inl (upon_of_us (op_sound' hs hH o ao.op haop h) step)
  have skip : Region.wanted o (yielded ops a.tmps) = false → K (s.put o.dst (.tuple [])) σ →
      ((ao.op.calm || ao.op.read) = true → ∃ v, YAt E.P ops o v a w ∧ (ao.op.calm = true → ∀ w', YAt E.P ops o v a w') ∧ K' (a.put o.dst v) w) ∧ wpOp E.P ops Q i K' a w := by
    intro hw h
    have := step undef (.tuple []) σ w h hH (.tuple _ _ rfl fun j x y hx _ => by simp at hx) (.refl _ _)
    refine ⟨fun hq => ⟨undef, .inr ⟨hw, rfl⟩, fun _ _ => .inr ⟨hw, rfl⟩, this⟩, ?_⟩
    unfold wpOp
    simp only [ho, hw, Bool.false_eq_true, if_false]
    exact this
  cases hg : o.guard with
  | none =>
    rw [hag, hg] at h
    exact exec (by simp [Region.wanted, hg]) h
  | some g =>
    obtain ⟨j, want⟩ := g
    rw [hag, hg] at h
    simp only [Option.map_some] at h
    split at h
    · rename_i b hb
      have hw := guard_sound hs hN hf hg hb
      by_cases hbw : b = want
      · exact exec (by rw [hw]; simp [hbw]) (h.1 hbw)
      · refine skip (by rw [hw]; simp [hbw]) (h.2 ?_)
        cases b <;> cases want <;> simp_all
    · rename_i hb
      exact skip (guard_undef hs hN hf hg hb) h
    · exact h.elim

theorem tree_sound {ops : Array Oper} {l : List AOper} {N : Nat} {T : Nat → Prop} {σ0 : Hp} {a0 : Act} {w0 : World} {K : Slots → Hp → Prop} (hal : l.map AOper.strip = ops.toList.map (compOper E.P ops)) (hf : ∀ o ∈ ops.toList, fits N ops o = true) (hT : ∀ o ∈ l, ∀ d, o.dst = some d → T d)
    (hsel : Region.noSelect ops = true) : ∀ (t : IT) (n : Nat) (listed : Array Bool) (s : Slots) (σ : Hp) (a : Act) (w : World), t.ok ops l n listed = true → Here E N T σ0 a0 w0 s σ a w → aTree E (t.dt l) s σ K →
    (t.isEnd = false → wpM E.P ops (Good E N T σ0 a0 w0 (fun e s σ => match e with | .normal => K s σ | _ => False)) (tq l) n listed a w) ∧
    ∀ i ∈ t.alts, (tq l i = true → qOp E.P ops i (wpM E.P ops (Good E N T σ0 a0 w0 (fun e s σ => match e with | .normal => K s σ | _ => False)) (tq l) n (listed.setIfInBounds i true)) a w) ∧
      wpOp E.P ops (Good E N T σ0 a0 w0 (fun e s σ => match e with | .normal => K s σ | _ => False)) i (wpM E.P ops (Good E N T σ0 a0 w0 (fun e s σ => match e with | .normal => K s σ | _ => False)) (tq l) n (listed.setIfInBounds i true)) a w := by
  have hlen : l.length = ops.size := by have := congrArg List.length hal; simpa using this
  have hget : ∀ i, i < l.length → ∃ o ao, ops[i]? = some o ∧ l[i]? = some ao ∧ l.getD i default = ao ∧ ao.strip = compOper E.P ops o ∧ fits N ops o = true ∧ ∀ d, ao.dst = some d → T d := by
    intro i hi
    have hi' : i < ops.size := hlen ▸ hi
    have h1 := congrArg (fun l => l[i]?) hal
    simp only [List.getElem?_map, List.getElem?_eq_getElem hi, Option.map_some, Array.getElem?_toList, Array.getElem?_eq_getElem hi', Option.some.injEq] at h1
    exact ⟨ops[i], l[i], Array.getElem?_eq_getElem hi', List.getElem?_eq_getElem hi, by simp [List.getD_eq_getElem?_getD, List.getElem?_eq_getElem hi], h1, hf _ (by simp), fun d hd => hT _ (List.getElem_mem _) d hd⟩
  intro t
  induction t with
  | done =>
    intro n listed s σ a w hok hh h
    refine ⟨fun _ => wpM_done ?_ ⟨s, σ, h, hh.rep, hh.rel, hh.size, hh.trans, hh.keep, hh.defers⟩ n, fun i hi => by cases hi⟩
    simpa [IT.ok] using hok
  | take i F r ih =>
    intro n listed s σ a w hok hh h
    refine ⟨fun _ => ?_, fun i hi => by cases hi⟩
    cases n with
    | zero => simp [IT.ok] at hok
    | succ n =>
      simp only [IT.ok, Bool.and_eq_true, Bool.or_eq_true] at hok
      obtain ⟨⟨⟨⟨k1, k2⟩, k3⟩, kr⟩, k4⟩ := hok
      have hmem : i ∈ Region.ready .any ops listed := by simpa using k1
      obtain ⟨_, o, ho, _⟩ := mem_ready.1 hmem
      have hi : i < l.length := by rw [hlen]; exact (Array.getElem?_eq_some_iff.1 ho).1
      obtain ⟨o', ao, e1, e2, e3, e4, e5, e6⟩ := hget i hi
      rw [ho] at e1
      cases e1
      simp only [IT.dt, aTree, e3] at h
      have hq : (ao.op.calm || ao.op.read) = true := by
        rcases k3 with k3 | k3
        · simp only [tc, e2] at k3; simp [k3]
        · simpa only [tq, e2] using k3.1
      have hTi : tq l i = true := by simpa only [tq, e2] using hq
      obtain ⟨v, v1, v2, v3⟩ := (step_sound (Q := fun _ _ _ => False) (i := i) ho e4 e5 e6 hh (K' := wpM E.P ops (Good E N T σ0 a0 w0 (fun e s σ => match e with | .normal => K s σ | _ => False)) (tq l) n (listed.setIfInBounds i true))
        (fun s σ a w hh hk => (ih n _ s σ a w k4 hh hk).1 (by simpa using kr)) h).1 hq
      · refine wpM_first (F := fun k => listed.getD k false || F.contains k) ho hTi (Region.noSelect_spec hsel) (fun c a w hg => ?_) n listed a w (fun j oj hj hne hun hno => Region.free_spec ho k2 j oj hj hne hun hno) hmem ?_ v3
        · obtain ⟨_, _, hg, _⟩ := hg; exact hg
        · rcases k3 with k3 | ⟨_, k3⟩
          · simp only [tc, e2] at k3
            exact .inl (v2 k3)
          · refine .inr ⟨v1, fun k hk => by simp only [hk, Bool.true_or], fun j oj hj hne hd hun => ?_⟩
            simp only [fOk, List.all_eq_true, List.mem_range] at k3
            have := k3 j (Array.getElem?_eq_some_iff.1 hj).1
            simp only [hj, Bool.or_eq_true, beq_iff_eq, hne, false_or, hun, Bool.false_eq_true, Bool.and_eq_true] at this
            rcases this with this | this
            · exact ⟨by simp only [this.1, Bool.or_true], this.2⟩
            · obtain ⟨e, he, hb⟩ := Array.any_eq_true'.1 this
              simp only [Bool.and_eq_true] at hb
              have := hd e he hb.1
              simp only [this, Bool.not_true, Bool.false_eq_true, and_false] at hb
  | pick c ih =>
    intro n listed s σ a w hok hh h
    refine ⟨fun _ => ?_, fun i hi => by cases hi⟩
    cases n with
    | zero => simp [IT.ok] at hok
    | succ n =>
      simp only [IT.ok, Bool.and_eq_true] at hok
      obtain ⟨⟨k1, k2⟩, k3⟩ := hok
      have hk2 : c.alts = Region.ready .any ops listed := by simpa using k2
      have := (ih n listed s σ a w k3 hh h).2
      rw [hk2] at this
      refine ⟨fun h0 => ?_, fun i hi => ⟨fun hT => (this i hi).1 hT, fun _ => (this i hi).2⟩⟩
      rw [← hk2] at h0
      cases c <;> simp [IT.isMore, IT.alts] at k1 h0
  | more i r rest ihr ihrest =>
    intro n listed s σ a w hok hh h
    refine ⟨fun h => by simp [IT.isEnd] at h, fun k hk => ?_⟩
    simp only [IT.ok, Bool.and_eq_true] at hok
    obtain ⟨⟨⟨⟨k1, kr⟩, k2⟩, k3⟩, k4⟩ := hok
    simp only [IT.dt, aTree] at h
    have hi : i < l.length := by
      have h2 : Nat.blt i l.length = true := k1
      simpa using h2
    obtain ⟨o, ao, e1, e2, e3, e4, e5, e6⟩ := hget i hi
    simp only [IT.alts, List.mem_cons] at hk
    rcases hk with rfl | hk
    · have := step_sound (Q := Good E N T σ0 a0 w0 (fun e s σ => match e with | .normal => K s σ | _ => False)) (i := k) e1 e4 e5 e6 hh (K' := wpM E.P ops (Good E N T σ0 a0 w0 (fun e s σ => match e with | .normal => K s σ | _ => False)) (tq l) n (listed.setIfInBounds k true))
        (fun s σ a w hh hk => (ihr n _ s σ a w k2 hh hk).1 ?_) (by rw [← e3]; exact h.1)
      · refine ⟨fun hT => ?_, this.2⟩
        obtain ⟨v, v1, v2, v3⟩ := this.1 (by simpa only [tq, e2] using hT)
        unfold qOp
        rw [e1]
        exact ⟨v, v1, v3⟩
      · simpa using kr
    · exact (ihrest n listed s σ a w k4 hh h.2).2 k hk
  | stop =>
    intro n listed s σ a w hok hh h
    exact ⟨fun h => by simp [IT.isEnd] at h, fun i hi => by cases hi⟩

/-- **A REGION THAT DRAWS ITS ORDER**, along a tree of orders that has been looked at. -/
theorem sCode.draw {N : Nat} {ops : Array Oper} {l : List AOper} {Q : Exit → Slots → Hp → Prop} {s : Slots} {σ : Hp} {t : IT} {lit : DT} (hm : E.P.follows .mixedOrders = true) (hns : Region.noSelect ops = true)
    (hend : t.isEnd = false) (hok : t.ok ops l ops.size (Array.replicate ops.size false) = true) (hlit : t.dt l = lit) (h : aTree E lit s σ fun s σ => Q .normal s σ) : sCode E N (.draw ops l) Q s σ :=
  ⟨fun code T a w hc hT hs hH hN => by
    obtain ⟨id, rfl, hf, hl⟩ := comp_draw hc
    subst hlit
    obtain ⟨d1, d2⟩ := hH.drew
    have := (tree_sound (K := fun s σ => Q .normal s σ) hl.symm.symm hf hT hns t _ _ s σ a w.drew hok ⟨fun t => (hs t).mono d2, d1, hN, d2, .refl _ _, rfl⟩ h).1 hend
    refine wp_mono (wp_region_any hm (wpAny_of_m (T := tq l) _ _ _ _ this)) fun e a' w' hg => ?_
    obtain ⟨s', σ', h1, h2⟩ := hg
    cases e with
    | normal => exact ⟨s', σ', h1, h2⟩
    | _ => exact h1.elim⟩
end
end Pat
end Go.Proofs.YthmcfphafofheaaDoor
