/- The abstract machine: code is sound. No statement of the seat is proved in this file. -/
import Derived.Test.YthmcfphafofheaaDoorPatL
namespace Go.Proofs.YthmcfphafofheaaDoor
namespace Pat
set_option linter.unusedVariables false
set_option linter.unusedSimpArgs false

section
variable {E : Env}

theorem upon_of_us {σ : Hp} {w : World} {K : AV → Hp → Prop} {o : Oper} {a : Act} {next : Act → World → Prop} {Q : Exit → Act → World → Prop} {r : Result Next} (h : US E σ w K r)
    (hn : ∀ v x σ' w', K x σ' → HRel E σ' w' → Rep E.A σ' w' v x → Trans σ w σ' w' → next (a.put o.dst v) w') : o.upon E.P a next Q r := by
  unfold US Upon at h
  unfold Oper.upon
  split at h
  · obtain ⟨x, σ', h1, h2, h3, h4⟩ := h; exact hn _ x σ' _ h1 h2 h3 h4
  · obtain ⟨x, σ', h1, h2, h3, h4⟩ := h; exact hn _ x σ' _ h1 h2 h3 h4
  · refine h.mono fun e w' h => ?_
    obtain ⟨v, x, σ', rfl, h1, h2, h3, h4⟩ := h
    exact hn v x σ' w' h1 h2 h3 h4
  · exact h.elim

/-! Freezing -/
theorem Fz.refl (σ σ' : Hp) (v : AV) : Fz E σ σ' v v := fun w x hH hs hr => hr.mono (hH.drop σ' hs).2
theorem Fz.any (σ σ' : Hp) (v : AV) : Fz E σ σ' v .any := fun w x hH hs hr => .any x
theorem Fz.nils (σ σ' : Hp) (sz : Nat) : Fz E σ σ' .nils (.rd sz []) := fun w x hH hs hr => by
  cases hr with
  | nils p => exact .rd0 p 0 sz
theorem Fz.own {σ σ' : Hp} {b sz i n : Nat} {els : List AV} (hb : σ b = some (.row sz els)) (hn : i + n ≤ els.length) (hσ : σ' b = none) : Fz E σ σ' (.own b sz i n) (.rd sz ((els.drop i).take n)) := fun w x hH hs hr => by
  have htr := (hH.drop σ' hs).2
  obtain ⟨c, e, f, h1, h2, h3, h4, h5⟩ := hH.blk b _ hb
  cases hr with
  | own b sz i n cap c' e' f' hb' hc hcap =>
    have hlen : ((els.drop i).take n).length = n := by simp; omega
    have hget : ∀ (k : Nat) (x : AV), ((els.drop i).take n)[k]? = some x → els[i + k]? = some x := by
      intro k x hx
      have hk : k < n := by rw [← hlen]; exact (List.getElem?_eq_some_iff.1 hx).1
      rwa [List.getElem?_take_of_lt hk, List.getElem?_drop] at hx
    have hch : ∀ k j, ∃ v, ∀ x y, ((els.drop i).take n)[k]? = some x → x.cells[j]? = some y → w.cell? ⟨b, i * sz + k * sz + j, none⟩ = some v ∧ Rep E.A σ w v y := by
      intro k j
      cases hx : ((els.drop i).take n)[k]? with
      | none => exact ⟨undef, fun x y h => by cases h⟩
      | some x =>
        cases hy : x.cells[j]? with
        | none => exact ⟨undef, fun x' y hx' h => by cases hx'; rw [hy] at h; cases h⟩
        | some y =>
          obtain ⟨v, v1, v2⟩ := h5 (i + k) x j y (hget k x hx) hy
          refine ⟨v, fun x' y' hx' h => ?_⟩
          cases hx'; rw [hy] at h; cases h
          refine ⟨?_, v2⟩
          rw [← Nat.add_mul]
          simp [World.cell?, h1, v1]
    have hch2 : ∃ f : Nat → Nat → Value, ∀ k j x y, ((els.drop i).take n)[k]? = some x → x.cells[j]? = some y → w.cell? ⟨b, i * sz + k * sz + j, none⟩ = some (f k j) ∧ Rep E.A σ w (f k j) y :=
      ⟨fun k j => Classical.choose (hch k j), fun k j => Classical.choose_spec (hch k j)⟩
    obtain ⟨g, hg⟩ := hch2
    have := Rep.rd (A := E.A) (σ := σ') (w := w) b (i * sz) sz cap ((els.drop i).take n) g (Array.getElem?_eq_some_iff.1 h1).1 hσ (by omega) (fun x hx => h4 x (List.mem_of_mem_drop (List.mem_of_mem_take hx)))
      (fun k x j y hx hy => (hg k j x y hx hy).1) (fun k x j y hx hy => (hg k j x y hx hy).2.mono htr)
    rw [hlen] at this
    exact this
  | own0 p =>
    simp only [List.take_zero]
    exact .rd0 _ _ _
theorem Fz.ptr {σ σ' : Hp} {b sz i off : Nat} {els : List AV} {x : AV} (hb : σ b = some (.row sz els)) (hx : els[i]? = some x) (hσ : σ' b = none) : Fz E σ σ' (.ptr b sz i off) (.re x off) := fun w v hH hs hr => by
  have htr := (hH.drop σ' hs).2
  obtain ⟨c, e, f, h1, h2, h3, h4, h5⟩ := hH.blk b _ hb
  cases hr with
  | ptr =>
    have hch : ∀ j, ∃ v, ∀ y, x.cells[j]? = some y → w.cell? ⟨b, i * sz + j, none⟩ = some v ∧ Rep E.A σ w v y := by
      intro j
      cases hy : x.cells[j]? with
      | none => exact ⟨undef, fun y h => by cases h⟩
      | some y =>
        obtain ⟨v, v1, v2⟩ := h5 i x j y hx hy
        exact ⟨v, fun y' h => by cases h; exact ⟨by simp [World.cell?, h1, v1], v2⟩⟩
    have hch2 : ∃ f : Nat → Value, ∀ j y, x.cells[j]? = some y → w.cell? ⟨b, i * sz + j, none⟩ = some (f j) ∧ Rep E.A σ w (f j) y :=
      ⟨fun j => Classical.choose (hch j), fun j => Classical.choose_spec (hch j)⟩
    obtain ⟨g, hg⟩ := hch2
    exact .re b (i * sz) off x g (Array.getElem?_eq_some_iff.1 h1).1 hσ (fun j y hy => (hg j y hy).1) (fun j y hy => (hg j y hy).2.mono htr)
theorem Fz.iface {σ σ' : Hp} {t : TypeId} {v v' : AV} (h : Fz E σ σ' v v') : Fz E σ σ' (.iface t v) (.iface t v') := fun w x hH hs hr => by
  cases hr with
  | iface _ y _ hy => exact .iface t y v' (h w y hH hs hy)
theorem Fz.tuple {σ σ' : Hp} {vs vs' : List AV} (h : FzL E σ σ' vs vs') : Fz E σ σ' (.tuple vs) (.tuple vs') := fun w x hH hs hr => by
  obtain ⟨cs, rfl, h1, h2⟩ := hr.tuple_inv
  have key : ∀ (vs vs' : List AV), FzL E σ σ' vs vs' → vs.length = vs'.length ∧ ∀ (i : Nat) (v v' : AV), vs[i]? = some v → vs'[i]? = some v' → Fz E σ σ' v v' := by
    intro vs
    induction vs with
    | nil => intro vs' h; cases vs' with
      | nil => exact ⟨rfl, fun i v v' h => by simp at h⟩
      | cons => exact h.elim
    | cons v vs ih => intro vs' h; cases vs' with
      | nil => exact h.elim
      | cons v' vs' =>
        obtain ⟨g1, g2⟩ := ih vs' h.2
        refine ⟨by simp [g1], fun i u u' hu hu' => ?_⟩
        match i, hu, hu' with
        | 0, hu, hu' => simp at hu hu'; subst hu; subst hu'; exact h.1
        | i + 1, hu, hu' => exact g2 i u u' (by simpa using hu) (by simpa using hu')
  obtain ⟨k1, k2⟩ := key vs vs' h
  refine .tuple cs vs' (h1.trans k1) fun j p q hp hq => ?_
  have hj : j < vs.length := by rw [k1]; exact (List.getElem?_eq_some_iff.1 hq).1
  exact k2 j vs[j] q (List.getElem?_eq_getElem hj) hq w p hH hs (h2 j p _ hp (List.getElem?_eq_getElem hj))
theorem US.ret {σ w} {K : AV → Hp → Prop} {r} (h : US E σ w (Ret E K) r) : US E σ w K r := by
  unfold US Upon at *
  have key : ∀ {v : Value} {a : AV} {σ' : Hp} {w' : World}, Ret E K a σ' → HRel E σ' w' → Rep E.A σ' w' v a → Trans σ w σ' w' → ∃ a σ', K a σ' ∧ HRel E σ' w' ∧ Rep E.A σ' w' v a ∧ Trans σ w σ' w' := by
    intro v a σ' w' h1 h2 h3 h4
    obtain ⟨a', σ'', g1, g2, g3⟩ := h1
    obtain ⟨k1, k2⟩ := h2.drop σ'' g1
    exact ⟨a', σ'', g3, k1, g2 w' v h2 g1 h3, h4.trans k2⟩
  split at h
  · obtain ⟨a, σ', h1, h2, h3, h4⟩ := h; exact key h1 h2 h3 h4
  · obtain ⟨a, σ', h1, h2, h3, h4⟩ := h; exact key h1 h2 h3 h4
  · refine h.mono fun e w' ⟨v, a, σ', h1, h2, h3, h4, h5⟩ => ?_
    obtain ⟨a', σ'', g⟩ := key h2 h3 h4 h5
    exact ⟨v, a', σ'', h1, g⟩
  · exact h
theorem Sub.upd {σ : Hp} {b : Nat} {x : ABlk} (hb : σ b = none) : Sub σ (σ.upd b x) := fun i y hi => by
  simp only [Hp.upd]
  rw [if_neg]
  · exact hi
  · rintro rfl; rw [hb] at hi; cases hi
/-- An operation whose result is frozen at once. -/
theorem op_sound' {σ : Hp} {w : World} {K : AV → Hp → Prop} {s : Slots} {a : Act} (hs : RelS E.A σ w a.tmps s) (hH : HRel E σ w) (o : Oper) (ao : AOp) (hc : compOp E.P o.op = ao.strip) (h : aOp E s σ ao K) : US E σ w K ((execOp a.eval o).run E.P w) := by
  cases ao with
  | blit sz ag z n ps =>
    refine US.ret (op_sound hs hH o ?_)
    rw [hc]
    simp only [AOp.strip, aOp] at h ⊢
    cases n with
    | zero => exact ⟨.nils, σ, fun _ _ h => h, .refl _ _ _, h⟩
    | succ m =>
      obtain ⟨h1, h2⟩ := h
      refine ⟨h1, fun b hb => ⟨_, σ, Sub.upd hb, Fz.own (els := _) (by simp [Hp.upd]; rfl) (by rw [elems_len]; omega) hb, ?_⟩⟩
      rw [List.drop_zero, List.take_of_length_le (by rw [elems_len]; omega)]
      exact h2
  | boxf sz x =>
    refine US.ret (op_sound hs hH o ?_)
    rw [hc]
    simp only [AOp.strip, aOp] at h ⊢
    obtain ⟨h1, h2, h3⟩ := h
    exact ⟨h1, h2, fun b hb => ⟨_, σ, Sub.upd hb, Fz.ptr (els := [s.ev x]) (by simp [Hp.upd]) rfl hb, h3⟩⟩
  | _ => exact op_sound hs hH o (hc ▸ h)

/-- Which operations are wanted is as the slots say. -/
theorem guard_sound {σ : Hp} {w : World} {a : Act} {s : Slots} {N : Nat} {ops : Array Oper} {o : Oper} {j : Nat} {want : Bool} (hs : RelS E.A σ w a.tmps s) (hN : a.tmps.size = N) (hf : fits N ops o = true) (hg : o.guard = some (j, want))
    {b : Bool} (hb : s (((ops[j]?).bind (·.dst)).getD 0) = .bool b) : Region.wanted o (yielded ops a.tmps) = (b == want) := by
  simp only [fits, hg, Bool.and_eq_true] at hf
  cases hd : (ops[j]?).bind (·.dst) with
  | none => rw [hd] at hf; simp at hf
  | some d =>
    rw [hd] at hf hb
    have hlt : d < a.tmps.size := by have h2 : Nat.blt d N = true := hf.2; have h3 : d < N := by simpa using h2
                                     rw [hN]; exact h3
    have hr := hs d
    simp only [Option.getD_some] at hb
    rw [hb] at hr
    have hv := hr.bool_inv
    have : a.tmps[d]? = some (.bool b) := by
      rw [Array.getElem?_eq_getElem hlt]
      rw [Array.getD_eq_getD_getElem?, Array.getElem?_eq_getElem hlt] at hv
      simpa using hv
    simp only [Region.wanted, hg, yielded, hd, Option.bind_some, this]
    cases b <;> cases want <;> rfl

/-- Behind a skipped operation nothing is wanted. -/
theorem guard_undef {σ : Hp} {w : World} {a : Act} {s : Slots} {N : Nat} {ops : Array Oper} {o : Oper} {j : Nat} {want : Bool} (hs : RelS E.A σ w a.tmps s) (hN : a.tmps.size = N) (hf : fits N ops o = true) (hg : o.guard = some (j, want))
    (hb : s (((ops[j]?).bind (·.dst)).getD 0) = .tuple []) : Region.wanted o (yielded ops a.tmps) = false := by
  simp only [fits, hg, Bool.and_eq_true] at hf
  cases hd : (ops[j]?).bind (·.dst) with
  | none => rw [hd] at hf; simp at hf
  | some d =>
    rw [hd] at hf hb
    have hlt : d < a.tmps.size := by have h2 : Nat.blt d N = true := hf.2; have h3 : d < N := by simpa using h2
                                     rw [hN]; exact h3
    have hr := hs d
    simp only [Option.getD_some] at hb
    rw [hb] at hr
    obtain ⟨cs, hv, _, _⟩ := hr.tuple_inv
    have : a.tmps[d]? = some (.tuple cs) := by
      rw [Array.getElem?_eq_getElem hlt]
      rw [Array.getD_eq_getD_getElem?, Array.getElem?_eq_getElem hlt] at hv
      simpa using hv
    simp only [Region.wanted, hg, yielded, hd, Option.bind_some, this]
    cases want <;> rfl

theorem Keep.refl (T : Nat → Prop) (a : Act) : Keep T a a := fun _ _ => rfl
theorem Keep.trans {T : Nat → Prop} {a b c : Act} (h : Keep T a b) (k : Keep T b c) : Keep T a c := fun t ht => (k t ht).trans (h t ht)
theorem Keep.put {T : Nat → Prop} {a : Act} {d : Option Nat} (hd : ∀ t, d = some t → T t) (v : Value) : Keep T a (a.put d v) := by
  intro t ht
  cases d with
  | none => rfl
  | some d =>
    have : d ≠ t := fun e => ht (e ▸ hd d rfl)
    simp only [Act.put]
    rw [Array.getElem?_setIfInBounds_ne this]

theorem ops_sound (ops : Array Oper) (N : Nat) (T : Nat → Prop) (σ0 : Hp) (a0 : Act) (w0 : World) (K : Slots → Hp → Prop) : ∀ (l : List Oper) (al : List AOper) (k : Nat), ops.toList.drop k = l → al.map AOper.strip = l.map (compOper E.P ops) → (∀ o ∈ l, fits N ops o = true) → (∀ o ∈ al, ∀ d, o.dst = some d → T d) →
    ∀ (s : Slots) (σ : Hp) (a : Act) (w : World), RelS E.A σ w a.tmps s → HRel E σ w → a.tmps.size = N → Trans σ0 w0 σ w → Keep T a0 a → a.defers = a0.defers → aOps E al s σ K →
    wpOps E.P ops (Good E N T σ0 a0 w0 (fun e s σ => match e with | .normal => K s σ | _ => False)) (List.range' k l.length) a w
  | [], [], k, hl, hal, hf, hT, s, σ, a, w, hs, hH, hN, ht, hk, hd, h => by
    exact ⟨s, σ, h, hs, hH, hN, ht, hk, hd⟩
  | [], _ :: _, k, hl, hal, hf, hT, s, σ, a, w, hs, hH, hN, ht, hk, hd, h => by simp at hal
  | _ :: _, [], k, hl, hal, hf, hT, s, σ, a, w, hs, hH, hN, ht, hk, hd, h => by simp at hal
  | o :: l, ao :: al, k, hl, hal, hf, hT, s, σ, a, w, hs, hH, hN, ht, hk, hd, h => by
    simp only [List.map_cons, List.cons.injEq] at hal
    obtain ⟨hao, hal⟩ := hal
    have hadst : ao.dst = o.dst := congrArg AOper.dst hao
    have haop : compOp E.P o.op = ao.op.strip := (congrArg AOper.op hao).symm
    have hag : ao.guard = o.guard.map fun (j, w) => (((ops[j]?).bind (·.dst)).getD 0, w) := congrArg AOper.guard hao
    have ho : ops[k]? = some o := by
      have := congrArg (fun l => l[0]?) hl
      simpa [List.getElem?_drop] using this
    have hl' : ops.toList.drop (k + 1) = l := by
      have := congrArg List.tail hl
      simpa [List.tail_drop] using this
    have hfo := hf o (by simp)
    have hdst : ∀ t, o.dst = some t → t < a.tmps.size := fun t e => by
      have := hfo
      simp only [fits, e, Bool.and_eq_true] at this
      have h2 : Nat.blt t N = true := this.1
      have h3 : t < N := by simpa using h2
      rw [hN]; exact h3
    have hTo : ∀ t, o.dst = some t → T t := fun t e => hT ao (by simp) t (hadst.trans e)
    simp only [aOps, hadst] at h
    simp only [List.length_cons, List.range'_succ, wpOps, ho]
    have step : ∀ v x σ' w', aOps E al (s.put o.dst x) σ' K → HRel E σ' w' → Rep E.A σ' w' v x → Trans σ w σ' w' →
        wpOps E.P ops (Good E N T σ0 a0 w0 (fun e s σ => match e with | .normal => K s σ | _ => False)) (List.range' (k + 1) l.length) (a.put o.dst v) w' := by
      intro v x σ' w' h1 h2 h3 h4
      exact ops_sound ops N T σ0 a0 w0 K l al (k + 1) hl' hal (fun o' ho' => hf o' (by simp [ho'])) (fun o' ho' => hT o' (by simp [ho'])) (s.put o.dst x) σ' (a.put o.dst v) w'
        ((hs.mono h4).put hdst h3) h2 (by rw [size_put]; exact hN) (ht.trans h4) (hk.trans (Keep.put hTo v)) (by rw [defers_put]; exact hd) h1
    have exec : aOp E s σ ao.op (fun v σ' => aOps E al (s.put o.dst v) σ' K) →
        o.wp E.P a w (wpOps E.P ops (Good E N T σ0 a0 w0 (fun e s σ => match e with | .normal => K s σ | _ => False)) (List.range' (k + 1) l.length)) (Good E N T σ0 a0 w0 (fun e s σ => match e with | .normal => K s σ | _ => False)) := by
      intro h
      exact upon_of_us (op_sound' hs hH o ao.op haop h) step
    cases hg : o.guard with
    | none =>
      rw [hag, hg] at h
      simp only [Option.map_none] at h
      have : Region.wanted o (yielded ops a.tmps) = true := by simp [Region.wanted, hg]
      rw [if_pos this]
      exact .inl (exec h)
    | some g =>
      obtain ⟨j, want⟩ := g
      rw [hag, hg] at h
      simp only [Option.map_some] at h
      split at h
      · rename_i b hb
        have hw := guard_sound hs hN hfo hg hb
        rw [hw]
        by_cases hbw : b = want
        · rw [if_pos (by simp [hbw])]
          exact .inl (exec (h.1 hbw))
        · rw [if_neg (by simp [hbw])]
          refine step undef (.tuple []) σ w (h.2 ?_) hH (.tuple _ _ rfl fun j x y hx _ => by simp at hx) (.refl _ _)
          cases b <;> cases want <;> simp_all
      · rename_i hb
        have hw := guard_undef hs hN hfo hg hb
        rw [hw, if_neg (by simp)]
        exact step undef (.tuple []) σ w h hH (.tuple _ _ rfl fun j x y hx _ => by simp at hx) (.refl _ _)
      · exact h.elim

theorem wpOps_mono {P : Program} {ops : Array Oper} {Q Q' : Exit → Act → World → Prop} (hq : ∀ e a w, Q e a w → Q' e a w) : ∀ (l : List Nat) (a : Act) (w : World), wpOps P ops Q l a w → wpOps P ops Q' l a w
  | [], a, w, h => hq _ _ _ h
  | i :: l, a, w, h => by
    simp only [wpOps] at h ⊢
    cases ho : ops[i]? with
    | none => rw [ho] at h; exact wpOps_mono hq l a w h
    | some o =>
      rw [ho] at h
      simp only at h ⊢
      split at h
      · rename_i hw
        rw [if_pos hw]
        rcases h with h | ⟨h1, a0, w0, h2⟩
        · refine .inl ?_
          simp only [Oper.wp, Oper.upon] at h ⊢
          split at h
          · exact wpOps_mono hq l _ _ h
          · exact wpOps_mono hq l _ _ h
          · exact wpOps_mono hq l _ _ h
          · refine h.mono fun e w' h => ?_
            cases e with
            | returned v => exact wpOps_mono hq l _ _ h
            | panicked c => exact hq _ _ _ h
            | outgrown => obtain ⟨a0, w0, h⟩ := h; exact ⟨a0, w0, hq _ _ _ h⟩
          · exact h.mono fun v w' h => wpOps_mono hq l _ _ h
          · exact hq _ _ _ h
          · exact h.elim
        · exact .inr ⟨h1, a0, w0, hq _ _ _ h2⟩
      · rename_i hw
        rw [if_neg hw]
        exact wpOps_mono hq l _ _ h

/-! What code it is -/
theorem comp_seq {P : Program} {N : Nat} {c : Code} {x y : ACode} (h : comp P N c = .seq x y) : ∃ a b, c = .seq a b ∧ comp P N a = x ∧ comp P N b = y := by
  cases c <;> simp only [comp] at h <;> try (cases h; done)
  · rename_i id ops draw
    cases hf : ops.toList.all (fits N ops) <;> cases draw <;> simp [hf] at h
  · rename_i a b; cases h; exact ⟨a, b, rfl, rfl, rfl⟩
theorem comp_cond {P : Program} {N : Nat} {c : Code} {o : AOpd} {x y : ACode} (h : comp P N c = .cond o x y) : ∃ p a b, c = .cond p a b ∧ opd p = o ∧ comp P N a = x ∧ comp P N b = y := by
  cases c <;> simp only [comp] at h <;> try (cases h; done)
  · rename_i id ops draw
    cases hf : ops.toList.all (fits N ops) <;> cases draw <;> simp [hf] at h
  · rename_i p a b; cases h; exact ⟨p, a, b, rfl, rfl, rfl, rfl⟩
theorem comp_block {P : Program} {N : Nat} {c : Code} {id : Nat} {x : ACode} (h : comp P N c = .block id x) : ∃ a, c = .block id a ∧ comp P N a = x := by
  cases c <;> simp only [comp] at h <;> try (cases h; done)
  · rename_i id ops draw
    cases hf : ops.toList.all (fits N ops) <;> cases draw <;> simp [hf] at h
  · rename_i i a; cases h; exact ⟨a, rfl, rfl⟩
theorem comp_loop {P : Program} {N : Nat} {c : Code} {x : ACode} (h : comp P N c = .loop x) : ∃ a, c = .loop a ∧ comp P N a = x := by
  cases c <;> simp only [comp] at h <;> try (cases h; done)
  · rename_i id ops draw
    cases hf : ops.toList.all (fits N ops) <;> cases draw <;> simp [hf] at h
  · rename_i a; cases h; exact ⟨a, rfl, rfl⟩
theorem comp_skip {P : Program} {N : Nat} {c : Code} (h : comp P N c = .skip) : c = .skip := by
  cases c <;> simp only [comp] at h <;> try (first | rfl | (cases h; done))
  · rename_i id ops draw
    cases hf : ops.toList.all (fits N ops) <;> cases draw <;> simp [hf] at h
theorem comp_ret {P : Program} {N : Nat} {c : Code} (h : comp P N c = .ret) : c = .ret := by
  cases c <;> simp only [comp] at h <;> try (first | rfl | (cases h; done))
  · rename_i id ops draw
    cases hf : ops.toList.all (fits N ops) <;> cases draw <;> simp [hf] at h
theorem comp_exit {P : Program} {N : Nat} {c : Code} {id : Nat} (h : comp P N c = .exit id) : c = .exit id := by
  cases c <;> simp only [comp] at h <;> try (first | (cases h; done) | (cases h; rfl))
  · rename_i id ops draw
    cases hf : ops.toList.all (fits N ops) <;> cases draw <;> simp [hf] at h
theorem comp_ops {P : Program} {N : Nat} {c : Code} {l : List AOper} (h : comp P N c = .ops l) : ∃ id ops, c = .region id ops false ∧ (∀ o ∈ ops.toList, fits N ops o = true) ∧ l = ops.toList.map (compOper P ops) := by
  cases c <;> simp only [comp] at h <;> try (cases h; done)
  · rename_i id ops draw
    cases hf : ops.toList.all (fits N ops) <;> cases draw <;> simp only [hf, cond_true, cond_false] at h <;> cases h
    exact ⟨id, ops, rfl, List.all_eq_true.1 hf, rfl⟩
theorem comp_draw {P : Program} {N : Nat} {c : Code} {l : List AOper} {ops0 : Array Oper} (h : comp P N c = .draw ops0 l) : ∃ id, c = .region id ops0 true ∧ (∀ o ∈ ops0.toList, fits N ops0 o = true) ∧ l = ops0.toList.map (compOper P ops0) := by
  cases c <;> simp only [comp] at h <;> try (cases h; done)
  · rename_i id ops draw
    cases hf : ops.toList.all (fits N ops) <;> cases draw <;> simp only [hf, cond_true, cond_false] at h <;> cases h
    exact ⟨id, rfl, List.all_eq_true.1 hf, rfl⟩

theorem Good.mono {N T σ a w Q Q' e a' w'} (h : Good E N T σ a w Q e a' w') (hq : ∀ s σ, Q e s σ → Q' e s σ) : Good E N T σ a w Q' e a' w' := by
  obtain ⟨s', σ', h1, h2⟩ := h; exact ⟨s', σ', hq _ _ h1, h2⟩
/-- A piece of code behind another one. -/
theorem Good.behind {N T σ a w Q e a' w' σ1 a1 w1} (h : Good E N T σ1 a1 w1 Q e a' w') (ht : Trans σ w σ1 w1) (hk : Keep T a a1) (hd : a1.defers = a.defers) : Good E N T σ a w Q e a' w' := by
  obtain ⟨s', σ', h1, h2, h3, h4, h5, h6, h7⟩ := h
  exact ⟨s', σ', h1, h2, h3, h4, ht.trans h5, hk.trans h6, h7.trans hd⟩

/-- CODE IS SOUND. -/
theorem code_sound (N : Nat) : ∀ (c : ACode) (Q : Exit → Slots → Hp → Prop) (s : Slots) (σ : Hp), aCode E N c Q s σ → sCode E N c Q s σ
  | .skip, Q, s, σ, h => ⟨fun code T a w hc hT hs hH hN => by
    rw [comp_skip hc]; exact wp_skip ⟨s, σ, h, hs, hH, hN, .refl _ _, .refl _ _, rfl⟩⟩
  | .exit id, Q, s, σ, h => ⟨fun code T a w hc hT hs hH hN => by
    rw [comp_exit hc]; exact wp_exit ⟨s, σ, h, hs, hH, hN, .refl _ _, .refl _ _, rfl⟩⟩
  | .ret, Q, s, σ, h => ⟨fun code T a w hc hT hs hH hN => by
    rw [comp_ret hc]; exact wp_ret ⟨s, σ, h, hs, hH, hN, .refl _ _, .refl _ _, rfl⟩⟩
  | .bad, Q, s, σ, h => h.elim
  | .ops l, Q, s, σ, h => ⟨fun code T a w hc hT hs hH hN => by
    obtain ⟨id, ops, rfl, hf, hal⟩ := comp_ops hc
    refine wp_region ?_
    have := ops_sound ops N T σ a w (fun s σ => Q .normal s σ) ops.toList l 0 rfl hal hf hT s σ a w hs hH hN (.refl _ _) (.refl _ _) rfl h
    rw [Array.length_toList, ← List.range_eq_range'] at this
    refine wpOps_mono (fun e a' w' hg => ?_) _ _ _ this
    refine hg.mono fun s σ h => ?_
    cases e <;> first | exact h | exact h.elim⟩
  | .seq x y, Q, s, σ, h => ⟨fun code T a w hc hT hs hH hN => by
    obtain ⟨cx, cy, rfl, hx, hy⟩ := comp_seq hc
    have ih := (code_sound N x _ s σ h).out cx T a w hx hT.1 hs hH hN
    refine wp_seq (wp_mono ih fun e a' w' hg => ?_)
    cases e with
    | normal =>
      obtain ⟨s', σ', h1, h2, h3, h4, h5, h6, h7⟩ := hg
      have ih2 := (code_sound N y Q s' σ' h1).out cy T a' w' hy hT.2 h2 h3 h4
      exact wp_mono ih2 fun e a'' w'' hg => hg.behind h5 h6 h7
    | _ => exact hg⟩
  | .cond o x y, Q, s, σ, h => ⟨fun code T a w hc hT hs hH hN => by
    obtain ⟨p, cx, cy, rfl, rfl, hx, hy⟩ := comp_cond hc
    simp only [aCode] at h
    have hp := RelS.ev hs p
    split at h
    · rename_i b hb
      rw [hb] at hp
      refine wp_cond_split hp.bool_inv (fun e => ?_) (fun e => ?_)
      · exact (code_sound N x Q s σ (h.1 e)).out cx T a w hx hT.1 hs hH hN
      · exact (code_sound N y Q s σ (h.2 e)).out cy T a w hy hT.2 hs hH hN
    · exact h.elim⟩
  | .block id c, Q, s, σ, h => h
  | .loop c, Q, s, σ, h => h
  | .draw ops l, Q, s, σ, h => h
  | .mark c, Q, s, σ, h => h
end
end Pat
end Go.Proofs.YthmcfphafofheaaDoor
