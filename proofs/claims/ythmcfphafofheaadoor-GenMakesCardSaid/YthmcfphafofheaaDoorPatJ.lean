/- The abstract machine: each operation is sound (6). No statement of the seat is proved in this file. -/
import Derived.Test.YthmcfphafofheaaDoorPatI
import Derived.IntWalk
namespace Go.Proofs.YthmcfphafofheaaDoor
namespace Pat
set_option linter.unusedVariables false
set_option linter.unusedSimpArgs false

theorem elems_get {ag : Bool} {sz : Nat} (hag : ag = true ∨ sz = 1) : ∀ (n : Nat) (l : List AV), l.length = n * sz → (ag = true ∨ l.all AV.cell = true) →
    (elems ag sz l n).length = n ∧ (∀ x ∈ elems ag sz l n, x.cells.length = sz) ∧ ∀ (i : Nat) (x : AV) (j : Nat) (y : AV), (elems ag sz l n)[i]? = some x → x.cells[j]? = some y → l[i * sz + j]? = some y
  | 0, l, hl, hc => ⟨rfl, fun x hx => by simp [elems] at hx, fun i x j y h => by simp [elems] at h⟩
  | n + 1, l, hl, hc => by
    have hsz : sz ≤ l.length := by rw [hl, Nat.add_mul, Nat.one_mul]; omega
    obtain ⟨h1, h2, h3⟩ := elems_get hag n (l.drop sz) (by rw [List.length_drop, hl, Nat.add_mul, Nat.one_mul]; omega) (hc.imp id fun h => by
      rw [List.all_eq_true] at h ⊢
      exact fun x hx => h x (List.mem_of_mem_drop hx))
    have hhead : ∀ x, x = (if ag then AV.agg (l.take sz) else l.headD .any) → x.cells.length = sz ∧ ∀ (j : Nat) (y : AV), x.cells[j]? = some y → l[j]? = some y := by
      intro x hx
      cases ag with
      | true =>
        simp only [if_true] at hx
        subst hx
        refine ⟨by simp [AV.cells]; omega, fun j y hy => ?_⟩
        simp only [AV.cells] at hy
        have hj : j < sz := by
          rcases Nat.lt_or_ge j sz with h | h
          · exact h
          · rw [List.getElem?_eq_none (by simp; omega)] at hy; cases hy
        rwa [List.getElem?_take_of_lt hj] at hy
      | false =>
        simp only [Bool.false_eq_true, if_false] at hx
        have hs1 : sz = 1 := by rcases hag with h | h; cases h; exact h
        subst hs1
        match l, hsz, hc with
        | c :: l', _, hc =>
          simp only [List.headD_cons] at hx
          subst hx
          have hcell : x.cell = true := by rcases hc with h | h; cases h; simp at h; exact h.1
          have : x.cells = [x] := by cases x <;> simp_all [AV.cell, AV.cells]
          rw [this]
          exact ⟨rfl, fun j y hy => by
            match j, hy with
            | 0, hy => simpa using hy⟩
    simp only [elems]
    refine ⟨by simp [h1], fun x hx => ?_, fun i x j y hx hy => ?_⟩
    · rcases List.mem_cons.1 hx with rfl | hx
      · exact (hhead _ rfl).1
      · exact h2 x hx
    · match i, hx with
      | 0, hx =>
        simp only [List.getElem?_cons_zero, Option.some.injEq] at hx
        rw [Nat.zero_mul, Nat.zero_add]
        exact (hhead x hx.symm).2 j y hy
      | i + 1, hx =>
        have := h3 i x j y (by simpa using hx) hy
        rw [List.getElem?_drop] at this
        rw [Nat.add_mul, Nat.one_mul, show i * sz + sz + j = sz + (i * sz + j) by omega]
        exact this

theorem flatten_replicate_get {zero : List AV} {sz : Nat} (hz : zero.length = sz) (h0 : 0 < sz) : ∀ (n : Nat), ((List.replicate n zero).flatten).length = n * sz ∧ ∀ k, k < n * sz → ((List.replicate n zero).flatten)[k]? = zero[k % sz]?
  | 0 => ⟨by simp, fun k hk => by simp at hk⟩
  | n + 1 => by
    obtain ⟨h1, h2⟩ := flatten_replicate_get hz h0 n
    refine ⟨by simp [List.replicate_succ, h1, hz, Nat.add_mul]; omega, fun k hk => ?_⟩
    rw [List.replicate_succ, List.flatten_cons]
    by_cases hlt : k < sz
    · rw [List.getElem?_append_left (by omega), Nat.mod_eq_of_lt hlt]
    · rw [List.getElem?_append_right (by omega), hz, h2 (k - sz) (by rw [Nat.add_mul, Nat.one_mul] at hk; omega)]
      conv => rhs; rw [Nat.mod_eq_sub_mod (show k ≥ sz by omega)]

section
variable {E : Env} {s : Slots} {σ : Hp} {K : AV → Hp → Prop} {w : World} {a : Act}

theorem repA_zeros {A : Nat → Addr} (z : Value) (n sz : Nat) (hz : z.cells.size = sz) (h0 : 0 < sz) : RepA A σ w ((Array.range (n * sz)).map (z.cells[· % z.cells.size]!)) ((List.replicate n (AV.ofValue z).cells).flatten) := by
  obtain ⟨r1, r2⟩ := repA_zero (σ := σ) (w := w) (A := A) z
  obtain ⟨h1, h2⟩ := flatten_replicate_get (zero := (AV.ofValue z).cells) (sz := sz) (by omega) h0 n
  refine ⟨by simp [h1], fun j y hy => ?_⟩
  have hj : j < n * sz := by rw [← h1]; exact (List.getElem?_eq_some_iff.1 hy).1
  rw [h2 j hj] at hy
  obtain ⟨u, u1, u2⟩ := r2 _ y hy
  refine ⟨u, ?_, u2⟩
  have hm : j % sz < z.cells.size := by rw [hz]; exact Nat.mod_lt _ h0
  rw [Array.getElem?_map, Array.getElem?_range, if_pos hj]
  simp only [Option.map_some, hz, Option.some.injEq]
  rw [getElem!_pos z.cells (j % sz) hm]
  rw [Array.getElem?_eq_getElem hm] at u1
  exact Option.some.inj u1

theorem elems_len : ∀ (ag : Bool) (sz : Nat) (n : Nat) (l : List AV), (elems ag sz l n).length = n
  | _, _, 0, _ => rfl
  | ag, sz, n + 1, l => by simp [elems, elems_len ag sz n]

theorem snd_buildSlice (hs : RelS E.A σ w a.tmps s) (hH : HRel E σ w) (t : TypeId) (n : Nat) (ps : Array (Nat × Operand)) (h : aOp E s σ (compOp E.P (.buildSlice t n ps)) K) :
    VS E σ w K ((Instr.buildSlice t n (ps.map fun (i, x) => (i, a.eval x))).run E.P w) := by
  simp only [compOp] at h
  split at h
  · rename_i e hu
    split at h
    · rename_i ag sz ie hl hie
      split at h
      · rename_i z hz
        cases hb : (Nat.blt 0 sz && Nat.beq z.cells.size sz && Nat.blt (n * sz) 10000 && (ag == isAggV z) && (Nat.blt 0 n || Nat.beq ps.size 0)) with
        | false => rw [hb] at h; exact h.elim
        | true =>
          rw [hb] at h
          simp only [cond_true] at h
          simp only [Bool.and_eq_true] at hb
          obtain ⟨⟨⟨⟨b1, b2⟩, b3⟩, b4⟩, b5⟩ := hb
          have b1 : 0 < sz := by simpa using b1
          have b2 : z.cells.size = sz := by simpa using b2
          have b3 : n * sz < 10000 := by simpa using b3
          have hsz := (lay_some (P := E.P) (w := w) hl).2
          have hzz := repA_zeros (A := E.A) (σ := σ) (w := w) z n sz b2 b1
          have hzv : (zeroValue e).run E.P w = .ok z w := by simp [zeroValue, run_inf hie, hz]
          have hag : ag = true ∨ sz = 1 := by
            cases z <;> simp_all [Value.cells, isAggV]
          simp only [aOp] at h
          have hbd : ¬ (n * sz > 2 ^ 24) := by omega
          cases n with
          | zero =>
            simp only at h
            have hps : ps = #[] := by simpa using b5
            subst hps
            obtain ⟨g1, g2, g3⟩ := hH.alloc sz [] #[] e (by simp) (by simp) (fun k x j y hx => by simp at hx) (w.alloc (.cells #[] e)) rfl rfl rfl rfl
            obtain ⟨d1, d2⟩ := g2.drop σ (fun b x hb => by
              simp only [Hp.upd]
              rw [if_neg]
              · exact hb
              · intro he; rw [he, g1] at hb; cases hb)
            refine VS.mk (v := .slice (some ⟨w.heap.size, 0, none⟩) 0 0) (w' := w.alloc (.cells #[] e)) ?_ h d1 (.nils _) (g3.trans d2)
            have hr0 : ∀ f : Nat → Value, (Array.range 0).map f = #[] := fun f => Array.size_eq_zero_iff.mp (by simp)
            simp [Instr.buildSlice, run_und hu, hsz, Instr.fill, newRow, hr0]
          | succ m =>
            simp only at h
            obtain ⟨⟨ho, hcell⟩, h⟩ := h
            have hn : (m + 1) * sz ≠ 0 := by rw [Nat.add_mul, Nat.one_mul]; omega
            obtain ⟨cells', g1, g2, g3⟩ := fill_rep (A := E.A) (σ := σ) (w := w) (fun i => some (i * sz, sz)) (ps.toList.map fun (i, x) => (i, a.eval x)) (ps.toList.map fun (j, x) => (j * sz, sz, s.ev (opd x))) _ _
              (by simp) (fun k j v o zz x h1 h2 => by
                rw [List.getElem?_map] at h1 h2
                cases hk : ps.toList[k]? with
                | none => simp [hk] at h1
                | some p =>
                  simp only [hk, Option.map_some, Option.some.injEq, Prod.mk.injEq] at h1 h2
                  obtain ⟨rfl, rfl⟩ := h1
                  obtain ⟨rfl, rfl, rfl⟩ := h2
                  exact ⟨rfl, hs.ev _⟩) hzz (by
                  rw [(flatten_replicate_get (zero := (AV.ofValue z).cells) (sz := sz) (by have := (repA_zero (A := E.A) (σ := σ) (w := w) z).1; omega) b1 (m + 1)).1]
                  rw [List.map_map] at ho
                  exact ho)
            have e1 : (ps.toList.map fun (j, x) => (j * sz, sz, s.ev (opd x))).map (fun p => (p.1, p.2.2.cells)) = (ps.toList.map fun (j, x) => (j, opd x)).map fun (j, x) => (j * sz, (s.ev x).cells) := by
              rw [List.map_map, List.map_map]; rfl
            rw [e1] at g2 g3
            have hfl : (fillA ((List.replicate (m + 1) (AV.ofValue z).cells).flatten) ((ps.toList.map fun (j, x) => (j, opd x)).map fun (j, x) => (j * sz, (s.ev x).cells))).length = (m + 1) * sz := by
              rw [g3, (flatten_replicate_get (zero := (AV.ofValue z).cells) (sz := sz) (by have := (repA_zero (A := E.A) (σ := σ) (w := w) z).1; omega) b1 (m + 1)).1]
            obtain ⟨q1, q2, q3⟩ := elems_get (ag := ag) hag (m + 1) _ hfl (by
              rcases hcell with h | ⟨_, h⟩
              · exact .inl h
              · exact .inr h)
            obtain ⟨r1, r2, r3⟩ := hH.alloc sz _ cells' e (by rw [q1, g2.1, hfl]; exact Nat.le_refl _) q2 (fun i x j y hx hy => g2.2 _ y (q3 i x j y hx hy)) (w.alloc (.cells cells' e)) rfl rfl rfl rfl
            refine VS.mk (v := .slice (some ⟨w.heap.size, 0, none⟩) (m + 1) (m + 1)) (w' := w.alloc (.cells cells' e)) ?_ (h _ r1) r2 ?_ r3
            · simp only [Instr.buildSlice, Sem.run_bind, run_und hu, Result.andThen_ok, hsz, hbd, if_false, hn, hzv, Sem.run_pure, Array.toList_map, g1, newRow, run_newObj] <;> rfl
            · have := Rep.own (A := E.A) (σ := σ.upd w.heap.size (.row sz (elems ag sz (fillA ((List.replicate (m + 1) (AV.ofValue z).cells).flatten) ((ps.toList.map fun (j, x) => (j, opd x)).map fun (j, x) => (j * sz, (s.ev x).cells))) (m + 1)))) w.heap.size sz 0 (m + 1) (m + 1) cells' e (0, 0) (heap_alloc_new w _) (by
                rw [g2.1, hfl, Nat.zero_add]) (Nat.le_refl _)
              rw [Nat.zero_mul] at this
              exact this
      · exact h.elim
    · exact h.elim
  · exact h.elim

theorem snd_makeSlice (hs : RelS E.A σ w a.tmps s) (hH : HRel E σ w) (t : TypeId) (l c : Operand) (h : aOp E s σ (compOp E.P (.makeSlice t l c)) K) :
    VS E σ w K ((Instr.makeSlice t (a.eval l) (a.eval c)).run E.P w) := by
  simp only [compOp] at h
  split at h
  · rename_i i hel
    split at h
    · rename_i z hz
      cases hb : (Nat.blt 0 i.size && Nat.beq z.cells.size i.size) with
      | false => rw [hb] at h; exact h.elim
      | true =>
        rw [hb] at h
        simp only [Bool.and_eq_true] at hb
        obtain ⟨b1, b2⟩ := hb
        have b1 : 0 < i.size := by simpa using b1
        have b2 : z.cells.size = i.size := by simpa using b2
        simp only [cond_true, aOp] at h
        obtain ⟨e, hu, hi⟩ : ∃ e, E.P.underlying t = some (.slice e) ∧ E.P.info? e = some i := by
          unfold elemOfSlice at hel
          split at hel
          · rename_i e hu; exact ⟨e, hu, hel⟩
          · cases hel
        have hl := hs.ev l
        have hc := hs.ev c
        split at h
        · rename_i kl lv kc cv e1 e2
          rw [e1] at hl; rw [e2] at hc
          rw [hl.int_inv, hc.int_inv]
          obtain ⟨⟨h0, h1, h2, h3⟩, h⟩ := h
          have hw : ∀ q : Int, 0 ≤ q → q ≤ 140737488355328 → IntKind.i64.wrap q = q := by
            intro q q0 q1
            exact IntWalk.i64_in q (by omega)
          have hwl := hw lv h0 (by omega)
          have hwc := hw cv (by omega) h3
          have hzv : ∀ w' : World, (zeroValue e).run E.P w' = .ok z w' := fun w' => by simp [zeroValue, run_inf hi, hz]
          obtain ⟨n, rfl⟩ := Int.eq_ofNat_of_zero_le (show 0 ≤ cv by omega)
          obtain ⟨m, rfl⟩ := Int.eq_ofNat_of_zero_le h0
          have hzz := repA_zeros (A := E.A) (σ := σ) (w := w) z n i.size b2 b1
          have hzr := repA_zero (A := E.A) (σ := σ) (w := w) z
          have hzl : (AV.ofValue z).cells.length = i.size := by have := hzr.1; omega
          have hmn : m ≤ n := by omega
          obtain ⟨g1, g2, g3⟩ := hH.alloc i.size (List.replicate m (AV.ofValue z)) ((Array.range (n * i.size)).map (z.cells[· % z.cells.size]!)) e
            (by simp; exact Nat.mul_le_mul_right _ hmn) (fun x hx => by rw [List.eq_of_mem_replicate hx]; exact hzl) (fun k x j y hx hy => by
              have hk : k < m := by have := (List.getElem?_eq_some_iff.1 hx).1; simpa using this
              rw [List.eq_of_mem_replicate (List.mem_of_getElem? hx)] at hy
              have hj : j < i.size := by rw [← hzl]; exact (List.getElem?_eq_some_iff.1 hy).1
              refine hzz.2 (k * i.size + j) y ?_
              rw [(flatten_replicate_get hzl b1 n).2 _ (flat_lt hj (by omega)), (divmod hj).2]
              exact hy) (w.alloc (.cells ((Array.range (n * i.size)).map (z.cells[· % z.cells.size]!)) e)) rfl rfl rfl rfl
          refine VS.mk (v := .slice (some ⟨w.heap.size, 0, none⟩) m n) (w' := w.alloc (.cells ((Array.range (n * i.size)).map (z.cells[· % z.cells.size]!)) e)) ?_ (h _ g1) g2 ?_ g3
          · have c1 : (decide ((n : Int) < 0) || decide ((i.bytes : Int) * (n : Int) > 2 ^ 48)) = false := by
              have : (n : Int) * i.bytes ≤ 140737488355328 := h2
              rw [Int.mul_comm] at this
              simp; omega
            have c2 : ¬ ((m : Int) < 0 ∨ (m : Int) > (n : Int)) := by omega
            have c3 : ((decide ((n : Int) < 0) || decide ((i.bytes : Int) * (n : Int) > 2 ^ 48)) = true ∨ (m : Int) < 0) ∨ (m : Int) > (n : Int) ↔ False := by
              rw [c1]; simp; omega
            have hr0 : ∀ f : Nat → Value, (Array.range 0).map f = #[] := fun f => Array.size_eq_zero_iff.mp (by simp)
            simp only [Instr.makeSlice, Sem.run_bind, run_und hu, Result.andThen_ok, asInt, asIntOf, Sem.run_pure, run_inf hi, hwl, hwc, run_askRoom, run_siz hi, newRow, run_newObj, c1, Bool.false_or, Bool.or_eq_true, decide_eq_true_eq, Bool.false_eq_true, false_or]
            split
            · rename_i hc
              exfalso
              have : (n : Int) * i.bytes ≤ 140737488355328 := h2
              rw [Int.mul_comm] at this
              simp at hc; omega
            simp only [Sem.run_bind, Sem.run_pure, Result.andThen_ok, run_askRoom, run_siz hi, newRow, run_newObj, Int.toNat_natCast]
            rcases Nat.eq_zero_or_pos (n * i.size) with hz0 | hz0
            · rw [if_pos hz0]
              simp only [Sem.run_pure, Result.andThen_ok, hz0, hr0]
              rfl
            · rw [if_neg (by omega)]
              simp only [Sem.run_bind, hzv, Sem.run_pure, Result.andThen_ok]
              rfl
          · have := Rep.own (A := E.A) (σ := σ.upd w.heap.size (.row i.size (List.replicate m (AV.ofValue z)))) (w := w.alloc (.cells ((Array.range (n * i.size)).map (z.cells[· % z.cells.size]!)) e)) w.heap.size i.size 0 m n _ e (0, 0) (heap_alloc_new w _) (by
                rw [Array.size_map, Array.size_range, Nat.zero_add]) hmn
            rw [Nat.zero_mul] at this
            exact this
        · exact h.elim
    · exact h.elim
  · exact h.elim
end
end Pat
end Go.Proofs.YthmcfphafofheaaDoor
