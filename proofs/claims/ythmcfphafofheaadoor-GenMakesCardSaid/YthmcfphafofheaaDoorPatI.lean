/- The abstract machine: each operation is sound (5). No statement of the seat is proved in this file. -/
import Derived.Test.YthmcfphafofheaaDoorPatH
namespace Go.Proofs.YthmcfphafofheaaDoor
namespace Pat
set_option linter.unusedVariables false
set_option linter.unusedSimpArgs false

theorem foldl_set (vs : List Value) (off : Nat) : ∀ (k : Nat) (cells : Array Value), off + k + vs.length ≤ cells.size →
    ((vs.zipIdx k).foldl (fun cs (p : Value × Nat) => cs.setIfInBounds (off + p.2) p.1) cells).size = cells.size ∧
    ∀ j, ((vs.zipIdx k).foldl (fun cs (p : Value × Nat) => cs.setIfInBounds (off + p.2) p.1) cells)[j]? = if off + k ≤ j ∧ j < off + k + vs.length then vs[j - (off + k)]? else cells[j]? := by
  induction vs with
  | nil => intro k cells h; exact ⟨rfl, fun j => by rw [if_neg (by simp)]; rfl⟩
  | cons v vs ih =>
    intro k cells h
    simp only [List.length_cons] at h
    obtain ⟨h1, h2⟩ := ih (k + 1) (cells.setIfInBounds (off + k) v) (by simp; omega)
    refine ⟨by simpa using h1, fun j => ?_⟩
    have := h2 j
    simp only [List.zipIdx_cons, List.foldl_cons] at this ⊢
    rw [this]
    by_cases e1 : j = off + k
    · subst e1
      rw [if_neg (by omega), if_pos (by simp)]
      simp [show off + k < cells.size by omega]
    · rw [Array.getElem?_setIfInBounds_ne (by omega)]
      by_cases e2 : off + (k + 1) ≤ j ∧ j < off + (k + 1) + vs.length
      · rw [if_pos e2, if_pos (by simp; omega)]
        rw [show j - (off + k) = (j - (off + (k + 1))) + 1 by omega, List.getElem?_cons_succ]
      · rw [if_neg e2, if_neg (by simp; omega)]

/-- Cells that are what a list of abstract values says. -/
def RepA (A : Nat → Addr) (σ : Hp) (w : World) (cs : Array Value) (as : List AV) : Prop :=
  cs.size = as.length ∧ ∀ (j : Nat) (y : AV), as[j]? = some y → ∃ u, cs[j]? = some u ∧ Rep A σ w u y

theorem fill_rep {A : Nat → Addr} {σ : Hp} {w : World} (place : Nat → Option (Nat × Nat)) : ∀ (ps : List (Nat × Value)) (aps : List (Nat × Nat × AV)) (cells : Array Value) (ac : List AV),
    ps.length = aps.length → (∀ (k i : Nat) (v : Value) (o z : Nat) (x : AV), ps[k]? = some (i, v) → aps[k]? = some (o, z, x) → place i = some (o, z) ∧ Rep A σ w v x) → RepA A σ w cells ac → partsOk ac.length aps = true →
    ∃ cells', Instr.fill place cells ps = some cells' ∧ RepA A σ w cells' (fillA ac (aps.map fun p => (p.1, p.2.2.cells))) ∧ (fillA ac (aps.map fun p => (p.1, p.2.2.cells))).length = ac.length
  | [], aps, cells, ac, hl, hp, hr, ho => by
    have : aps = [] := List.length_eq_zero_iff.1 (by simpa using hl.symm)
    subst this
    exact ⟨cells, rfl, hr, rfl⟩
  | (i, v) :: ps, [], cells, ac, hl, hp, hr, ho => by simp at hl
  | (i, v) :: ps, (o, z, x) :: aps, cells, ac, hl, hp, hr, ho => by
    simp only [partsOk, Bool.and_eq_true] at ho
    obtain ⟨⟨⟨hk, hz⟩, hle⟩, ho⟩ := ho
    have hz : x.cells.length = z := by simpa using hz
    have hle : o + z ≤ ac.length := by simpa using hle
    obtain ⟨h1, h2⟩ := hp 0 i v o z x rfl rfl
    obtain ⟨c1, c2⟩ := h2.cell hk
    have hsz := hr.1
    obtain ⟨f1, f2⟩ := foldl_set v.cells.toList o 0 cells (by rw [Array.length_toList]; omega)
    have hlen : (ac.take o ++ x.cells ++ ac.drop (o + x.cells.length)).length = ac.length := by simp; omega
    obtain ⟨cells', g1, g2, g3⟩ := fill_rep place ps aps (v.cells.zipIdx.foldl (fun cs (c, j) => cs.setIfInBounds (o + j) c) cells) (ac.take o ++ x.cells ++ ac.drop (o + x.cells.length)) (by simpa using hl)
      (fun k i v o z x h3 h4 => hp (k + 1) i v o z x (by simpa using h3) (by simpa using h4)) (by
        have e0 : v.cells.zipIdx.foldl (fun cs (c, j) => cs.setIfInBounds (o + j) c) cells = (v.cells.toList.zipIdx 0).foldl (fun cs (p : Value × Nat) => cs.setIfInBounds (o + p.2) p.1) cells := by
          rw [← Array.foldl_toList, Array.toList_zipIdx]
        rw [e0]
        refine ⟨by rw [f1, hlen]; exact hsz, fun j y hy => ?_⟩
        rw [f2]
        have hvl : v.cells.toList.length = x.cells.length := by rw [Array.length_toList]; exact c1
        by_cases e1 : o ≤ j ∧ j < o + x.cells.length
        · rw [if_pos (by omega)]
          rw [List.append_assoc, List.getElem?_append_right (by simp; omega), List.length_take, Nat.min_eq_left (by omega), List.getElem?_append_left (by omega)] at hy
          obtain ⟨u, u1, u2⟩ := c2 (j - o) y hy
          exact ⟨u, by rw [Nat.add_zero, Array.getElem?_toList]; exact u1, u2⟩
        · rw [if_neg (by omega)]
          have : ac[j]? = some y := by
            by_cases e2 : j < o
            · rw [List.append_assoc, List.getElem?_append_left (by simp; omega), List.getElem?_take_of_lt e2] at hy; exact hy
            · rw [List.getElem?_append_right (by simp; omega), List.length_append, List.length_take, Nat.min_eq_left (by omega), List.getElem?_drop] at hy
              rwa [show o + x.cells.length + (j - (o + x.cells.length)) = j by omega] at hy
          exact hr.2 j y this) (by rw [hlen]; exact ho)
    refine ⟨cells', ?_, by simpa [fillA] using g2, by
      have : (fillA (ac.take o ++ x.cells ++ ac.drop (o + x.cells.length)) (aps.map fun p => (p.1, p.2.2.cells))).length = ac.length := g3.trans hlen
      simpa [fillA] using this⟩
    simp only [Instr.fill, h1]
    rw [if_neg]
    · exact g1
    · simp; omega

section
variable {E : Env} {s : Slots} {σ : Hp} {K : AV → Hp → Prop} {w : World} {a : Act}

theorem repA_zero {A : Nat → Addr} (z : Value) : RepA A σ w z.cells (AV.ofValue z).cells := by
  have hrep := rep_ofValue A σ w z
  unfold AV.ofValue at *
  split at hrep
  · rename_i cs
    obtain ⟨cs', e1, e2, e3⟩ := hrep.agg_inv
    cases e1
    refine ⟨e2, fun j y hy => ?_⟩
    have hlt : j < cs.size := by rw [e2]; exact (List.getElem?_eq_some_iff.1 hy).1
    exact ⟨cs[j], by simp [Value.cells, hlt], e3 j _ y (Array.getElem?_eq_getElem hlt) hy⟩
  · rename_i cs
    refine ⟨rfl, fun j y hy => ?_⟩
    match j, hy with
    | 0, hy => simp [AV.cells] at hy; subst hy; exact ⟨_, rfl, hrep⟩
  · rename_i v h1 h2
    have hc : (AV.ofScalar z).cells = [AV.ofScalar z] := by unfold AV.ofScalar; split <;> rfl
    have hv : z.cells = #[z] := by cases z <;> simp_all [Value.cells]
    rw [hc, hv]
    refine ⟨rfl, fun j y hy => ?_⟩
    match j, hy with
    | 0, hy => simp at hy; subst hy; exact ⟨_, rfl, hrep⟩

theorem partsOf_get {P : Program} {fs : Array Field} : ∀ {ps : List (Nat × Operand)} {l : List (Nat × Nat × AOpd)}, partsOf fs P ps = some l →
    l.length = ps.length ∧ ∀ (k i : Nat) (x : Operand), ps[k]? = some (i, x) → ∃ (f : Field) (fi : TypeInfo), fs[i]? = some f ∧ P.info? f.type = some fi ∧ l[k]? = some (f.offset, fi.size, opd x)
  | [], l, h => by simp [partsOf] at h; subst h; exact ⟨rfl, fun k i x h => by simp at h⟩
  | (i0, x0) :: ps, l, h => by
    simp only [partsOf] at h
    split at h
    · cases h
    · rename_i f hf
      split at h
      · rename_i fi l' hi hl'
        simp only [Option.some.injEq] at h
        subst h
        obtain ⟨h1, h2⟩ := partsOf_get hl'
        refine ⟨by simp [h1], fun k i x hk => ?_⟩
        match k, hk with
        | 0, hk => simp at hk; obtain ⟨rfl, rfl⟩ := hk; exact ⟨f, fi, hf, hi, rfl⟩
        | k + 1, hk => simpa using h2 k i x (by simpa using hk)
      · cases h

theorem places_some {P : Program} : ∀ (fs : List Field), (∀ f ∈ fs, (P.info? f.type).isSome = true) → ∃ places, fs.mapM (fun f => (P.info? f.type).map fun i => (f.offset, i.size)) = some places ∧
    ∀ (i : Nat) (f : Field) (fi : TypeInfo), fs[i]? = some f → P.info? f.type = some fi → places[i]? = some (f.offset, fi.size)
  | [], _ => ⟨[], rfl, fun i f fi h => by simp at h⟩
  | f :: fs, h => by
    obtain ⟨places, h1, h2⟩ := places_some fs (fun g hg => h g (by simp [hg]))
    obtain ⟨i, hi⟩ := Option.isSome_iff_exists.1 (h f (by simp))
    refine ⟨(f.offset, i.size) :: places, by simp [List.mapM_cons, hi, h1], fun k g fi hk hfi => ?_⟩
    match k, hk with
    | 0, hk => simp at hk; subst hk; rw [hi] at hfi; cases hfi; rfl
    | k + 1, hk => simpa using h2 k g fi (by simpa using hk) hfi

theorem snd_build (hs : RelS E.A σ w a.tmps s) (hH : HRel E σ w) (t : TypeId) (ps : Array (Nat × Operand)) (h : aOp E s σ (compOp E.P (.build t ps)) K) :
    VS E σ w K ((Instr.build t (ps.map fun (i, x) => (i, a.eval x))).run E.P w) := by
  simp only [compOp] at h
  have fin : ∀ (z : Value) (i : TypeInfo) (place : Nat → Option (Nat × Nat)) (aps : List (Nat × Nat × AOpd)), E.P.info? t = some i → i.zero = some z →
      (aps.length = ps.toList.length ∧ ∀ (k j : Nat) (x : Operand), ps.toList[k]? = some (j, x) → ∃ (o z : Nat), place j = some (o, z) ∧ aps[k]? = some (o, z, opd x)) →
      (∀ cells, Instr.fill place z.cells (ps.toList.map fun (i, x) => (i, a.eval x)) = some cells → (Instr.build t (ps.map fun (i, x) => (i, a.eval x))).run E.P w = .ok (.agg cells) w) →
      aOp E s σ (.build (AV.ofValue z).cells aps) K → VS E σ w K ((Instr.build t (ps.map fun (i, x) => (i, a.eval x))).run E.P w) := by
    intro z i place aps hi hz hap hrun h
    simp only [aOp] at h
    obtain ⟨cells', g1, g2, g3⟩ := fill_rep (A := E.A) (σ := σ) (w := w) place (ps.toList.map fun (i, x) => (i, a.eval x)) (aps.map fun (o, z, x) => (o, z, s.ev x)) z.cells (AV.ofValue z).cells
      (by simp [hap.1]) (fun k j v o zz x h1 h2 => by
        rw [List.getElem?_map] at h1 h2
        cases hk : ps.toList[k]? with
        | none => simp [hk] at h1
        | some p =>
          obtain ⟨j', x'⟩ := p
          obtain ⟨o', z', e1, e2⟩ := hap.2 k j' x' hk
          simp only [hk, e2, Option.map_some, Option.some.injEq, Prod.mk.injEq] at h1 h2
          obtain ⟨rfl, rfl⟩ := h1
          obtain ⟨rfl, rfl, rfl⟩ := h2
          exact ⟨e1, hs.ev x'⟩) (repA_zero z) h.1
    refine VS.here (hrun cells' g1) hH h.2 ?_
    have e : (aps.map fun (o, z, x) => (o, z, s.ev x)).map (fun p => (p.1, p.2.2.cells)) = aps.map fun (o, _, x) => (o, (s.ev x).cells) := by rw [List.map_map]; rfl
    rw [e] at g2
    refine .agg cells' _ g2.1 fun j x y hx hy => ?_
    obtain ⟨u, u1, u2⟩ := g2.2 j y hy
    rw [hx] at u1; cases u1; exact u2
  split at h
  · rename_i i fs hi hu
    split at h
    · rename_i z l hz hl
      split at h
      · rename_i hall
        obtain ⟨h1, h2⟩ := partsOf_get hl
        obtain ⟨places, hpl, hpg⟩ := places_some (P := E.P) fs.toList (fun f hf => by
          rw [List.all_eq_true] at hall; exact hall f hf)
        refine fin z i (places.toArray[·]?) l hi hz ⟨h1, fun k j x hk => ?_⟩ (fun cells hc => ?_) h
        · obtain ⟨f, fi, e1, e2, e3⟩ := h2 k j x hk
          exact ⟨_, _, by have := hpg j f fi (by rw [Array.getElem?_toList]; exact e1) e2; simpa using this, e3⟩
        · refine run_build w t _ cells ?_
          simp only [Program.built, hi, hu, hz, hpl, Array.toList_map]
          exact hc
      · exact h.elim
    · exact h.elim
  · rename_i i n e hi hu
    split at h
    · rename_i z ie hz hie
      refine fin z i (fun j => some (j * ie.size, ie.size)) (ps.toList.map fun (j, x) => (j * ie.size, ie.size, opd x)) hi hz ⟨by simp, fun k j x hk => ⟨_, _, rfl, by simp [List.getElem?_map] at hk ⊢; exact ⟨_, _, hk, rfl, rfl⟩⟩⟩ (fun cells hc => ?_) h
      refine run_build w t _ cells ?_
      simp only [Program.built, hi, hu, hz, hie, Array.toList_map]
      exact hc
    · exact h.elim
  · exact h.elim
end
end Pat
end Go.Proofs.YthmcfphafofheaaDoor
