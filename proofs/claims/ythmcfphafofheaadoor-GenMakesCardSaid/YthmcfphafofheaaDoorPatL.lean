/- The abstract machine: maps; and every operation is sound. No statement of the seat is proved in this file. -/
import Derived.Test.YthmcfphafofheaaDoorPatK
namespace Go.Proofs.YthmcfphafofheaaDoor
namespace Pat
set_option linter.unusedVariables false
set_option linter.unusedSimpArgs false

theorem beq_bytes (a b : ByteArray) : (a == b) = (a.data.toList == b.data.toList) := by
  rw [beq_toListBytes, ByteArray.toList_eq, ByteArray.toList_eq]

theorem find_now {A : Nat → Addr} {σ : Hp} {w : World} (ks : ByteArray) : ∀ (l : List MapEntry) (es : List (List UInt8 × AV)) (i : Nat), l.length = es.length →
    (∀ (j : Nat) (x : MapEntry) (y : List UInt8 × AV), l[j]? = some x → es[j]? = some y → Rep A σ w x.key (.str y.1) ∧ Rep A σ w x.val y.2) →
    (es.lookup ks.data.toList = none ∧ Instr.findNow .string (.string ks) l i = some none) ∨
    ∃ j e v, es.lookup ks.data.toList = some v ∧ Instr.findNow .string (.string ks) l i = some (some (i + j, e.val)) ∧ l[j]? = some e ∧ es[j]? = some (ks.data.toList, v) ∧ Rep A σ w e.val v ∧ e.key = .string ks
  | [], [], i, _, _ => .inl ⟨rfl, rfl⟩
  | [], y :: es, i, h, _ => by simp at h
  | x :: l, [], i, h, _ => by simp at h
  | x :: l, (yk, yv) :: es, i, hl, hr => by
    obtain ⟨h1, h2⟩ := hr 0 x (yk, yv) rfl rfl
    obtain ⟨sx, e1, e2⟩ := h1.str_inv
    have hs : Instr.sameNow .string (.string ks) x.key = some (ks == sx) := by rw [e1]; rfl
    cases hb : (ks == sx) with
    | true =>
      rw [hb] at hs
      have hk : ks = sx := by
        rw [beq_bytes] at hb
        have : ks.data.toList = sx.data.toList := by simpa using hb
        have h3 : ks.data = sx.data := Array.toList_inj.1 this
        cases ks; cases sx; simp_all
      subst hk
      simp only at e2
      refine .inr ⟨0, x, yv, ?_, ?_, rfl, ?_, h2, e1⟩
      · rw [← e2]; simp [List.lookup]
      · simp only [Instr.findNow, hs, Nat.add_zero]
      · rw [← e2]; rfl
    | false =>
      rw [hb] at hs
      have hne : (ks.data.toList == yk) = false := by
        have e2' : sx.data.toList = yk := e2
        rw [beq_bytes] at hb; rw [← e2']; exact hb
      have hlk : ((yk, yv) :: es).lookup ks.data.toList = es.lookup ks.data.toList := by simp only [List.lookup, hne]
      rcases find_now ks l es (i + 1) (by simpa using hl) (fun j x y hx hy => hr (j + 1) x y (by simpa using hx) (by simpa using hy)) with ⟨g1, g2⟩ | ⟨j, e, v, g1, g2, g3, g4, g5, g6⟩
      · exact .inl ⟨hlk.trans g1, by simp only [Instr.findNow, hs, g2]⟩
      · refine .inr ⟨j + 1, e, v, hlk.trans g1, ?_, by simpa using g3, by simpa using g4, g5, g6⟩
        simp only [Instr.findNow, hs, g2]
        congr 3; omega

theorem lookup_nodup {es : List (List UInt8 × AV)} (hn : (es.map (·.1)).Nodup) {j : Nat} {k : List UInt8} {v : AV} (h : es[j]? = some (k, v)) : ∀ (i : Nat) (y : List UInt8 × AV), es[i]? = some y → (y.1 = k ↔ i = j) := by
  intro i y hy
  have hi := (List.getElem?_eq_some_iff.1 hy).1
  have hj := (List.getElem?_eq_some_iff.1 h).1
  constructor
  · intro e
    have h1 : (es.map (·.1))[i]? = some k := by simp [List.getElem?_map, hy, e]
    have h2 : (es.map (·.1))[j]? = some k := by simp [List.getElem?_map, h]
    exact (List.getElem?_inj (by simpa using hi) hn).1 (h1.trans h2.symm)
  · rintro rfl
    rw [h] at hy; cases hy; rfl

section
variable {E : Env} {s : Slots} {σ : Hp} {K : AV → Hp → Prop} {w : World} {a : Act}

theorem run_checkKey {P : Program} {t : TypeId} (b : Bool) (n : Nat) (k : ByteArray) (hu : P.underlying t = some .string) : (Instr.checkKey b (n + 1) t (.string k)).run P w = .ok () w := by
  simp [Instr.checkKey, run_und hu]
theorem run_findKey {P : Program} {t : TypeId} (k : ByteArray) (l : List MapEntry) (hu : P.underlying t = some .string) {r} (h : Instr.findNow .string (.string k) l 0 = some r) : (Instr.findKey t (.string k) l).run P w = .ok r w := by
  simp [Instr.findKey, run_und hu, h]
theorem run_getMap {P : Program} {b : Nat} {es : Array MapEntry} {c : Nat} (h : w.heap[b]? = some (.map es c)) : (getObj b).run P w = .ok (.map es c) w := by
  simp [getObj, Sem.run, h]

theorem snd_lookup (hs : RelS E.A σ w a.tmps s) (hH : HRel E σ w) (t : TypeId) (x k : Operand) (ok : Bool) (h : aOp E s σ (compOp E.P (.lookup t x k ok)) K) :
    VS E σ w K ((Instr.lookup t (a.eval x) (a.eval k) ok).run E.P w) := by
  simp only [compOp] at h
  have hx := hs.ev x
  have hk := hs.ev k
  split at h
  · rename_i kt e hu
    split at h
    · rename_i i huk hi
      split at h
      · rename_i z hz
        simp only [aOp] at h
        have hzv : ∀ w' : World, (zeroValue e).run E.P w' = .ok z w' := fun w' => by simp [zeroValue, run_inf hi, hz]
        have hzr : Rep E.A σ w z (zeroAV i) := by unfold zeroAV; rw [hz]; exact rep_ofValue ..
        have two : ∀ {v : Value} {y : AV} {b : Bool}, Rep E.A σ w v y → Rep E.A σ w (.tuple #[v, .bool b]) (.tuple [y, .bool b]) := by
          intro v y b hv
          refine .tuple _ _ rfl fun j p q hp hq => ?_
          match j, hp, hq with
          | 0, hp, hq => simp at hp hq; subst hp; subst hq; exact hv
          | 1, hp, hq => simp at hp hq; subst hp; subst hq; exact .bool _
        split at h
        · rename_i ks e1
          rw [e1] at hk
          obtain ⟨kb, e2, e3⟩ := hk.str_inv
          rw [e2]
          have none_ : ∀ (mv : Value), (Instr.lookup t mv (.string kb) ok).run E.P w = .ok (if ok then .tuple #[z, .bool false] else z) w → K (okd ok (zeroAV i) false) σ →
              VS E σ w K ((Instr.lookup t mv (.string kb) ok).run E.P w) := by
            intro mv hr hK
            refine VS.here hr hH hK ?_
            cases ok
            · exact hzr
            · exact two hzr
          split at h
          · rename_i b e4
            rw [e4] at hx
            split at h
            · rename_i es hσ
              obtain ⟨entries, clock, g1, g2, g3, g4⟩ := hH.blk b _ hσ
              generalize a.eval x = ev at hx ⊢
              cases hx with
              | map =>
                rcases find_now (A := E.A) (σ := σ) (w := w) kb entries.toList es 0 (by simpa using g2) (fun j x y hx hy => g4 j x y (by rw [Array.getElem?_toList] at hx; exact hx) hy) with ⟨q1, q2⟩ | ⟨j, e', v, q1, q2, q3, q4, q5, q6⟩
                · rw [e3] at q1
                  rw [q1] at h
                  refine none_ _ ?_ h
                  simp only [Instr.lookup, Sem.run_bind, run_und hu, Result.andThen_ok, run_getMap g1, Sem.run_pure, run_checkKey _ 9999 _ huk, run_findKey _ _ huk q2, hzv]
                · rw [e3] at q1
                  rw [q1] at h
                  have hrun : (Instr.lookup t (.map (some b)) (.string kb) ok).run E.P w = .ok (if ok then .tuple #[e'.val, .bool true] else e'.val) w := by
                    simp only [Instr.lookup, Sem.run_bind, run_und hu, Result.andThen_ok, run_getMap g1, Sem.run_pure, run_checkKey _ 9999 _ huk, run_findKey _ _ huk q2]
                  refine VS.here hrun hH h ?_
                  cases ok
                  · exact q5
                  · exact two q5
            · exact h.elim
          · rename_i e4
            rw [e4] at hx
            generalize a.eval x = ev at hx ⊢
            cases hx with
            | nilmap =>
              refine none_ _ ?_ h
              simp only [Instr.lookup, Sem.run_bind, run_und hu, Result.andThen_ok, Sem.run_pure, run_checkKey _ 9999 _ huk]
              have q2 : Instr.findNow .string (.string kb) ([] : List MapEntry) 0 = some none := rfl
              simp only [run_findKey _ _ huk q2, Result.andThen_ok, Sem.run_bind, hzv, Sem.run_pure]
          · exact h.elim
        · exact h.elim
      · exact h.elim
    · exact h.elim
  · exact h.elim

/-- A map that is owned turns into another one. -/
theorem map_change (hH : HRel E σ w) {b : Nat} {es es' : List (List UInt8 × AV)} {entries entries' : Array MapEntry} {clock clock' : Nat} (hσ : σ b = some (.amap es)) (hb : w.heap[b]? = some (.map entries clock))
    (h1 : entries'.size = es'.length) (h2 : (es'.map (·.1)).Nodup) (h3 : ∀ (i : Nat) (x : MapEntry) (y : List UInt8 × AV), entries'[i]? = some x → es'[i]? = some y → Rep E.A σ w x.key (.str y.1) ∧ Rep E.A σ w x.val y.2) :
    (setObj b (.map entries' clock')).run E.P w = .ok () { w with heap := w.heap.setIfInBounds b (.map entries' clock') } ∧
    HRel E (σ.upd b (.amap es')) { w with heap := w.heap.setIfInBounds b (.map entries' clock') } ∧ Trans σ w (σ.upd b (.amap es')) { w with heap := w.heap.setIfInBounds b (.map entries' clock') } := by
  have hlt := (Array.getElem?_eq_some_iff.1 hb).1
  refine ⟨by simp [setObj, Sem.run, hb], ?_⟩
  refine hH.change b _ hσ _ (fun i hi => by simp [Hp.upd, hi]) _ (by simp) (fun i hi => by simp [Array.getElem?_setIfInBounds_ne (Ne.symm hi)]) (fun c e f hc => by rw [hb] at hc; cases hc) (fun htr x hx => ?_) rfl rfl rfl
  simp only [Hp.upd, if_true, Option.some.injEq] at hx
  subst hx
  refine ⟨entries', clock', by simp [hlt], h1, h2, fun i x y hx hy => ?_⟩
  obtain ⟨g1, g2⟩ := h3 i x y hx hy
  exact ⟨g1.mono htr, g2.mono htr⟩

theorem snd_mapUpdate (hs : RelS E.A σ w a.tmps s) (hH : HRel E σ w) (t : TypeId) (m k v : Operand) (h : aOp E s σ (compOp E.P (.mapUpdate t m k v)) K) :
    ∃ w' b σ', (Instr.mapUpdate t (a.eval m) (a.eval k) (a.eval v)).run E.P w = .ok () w' ∧ K b σ' ∧ HRel E σ' w' ∧ Trans σ w σ' w' ∧ Rep E.A σ' w' undef b := by
  simp only [compOp] at h
  have hm := hs.ev m
  have hk := hs.ev k
  have hv := hs.ev v
  split at h
  · rename_i kt e hu
    split at h
    · rename_i huk
      simp only [aOp] at h
      split at h
      · rename_i ks b e1 e2
        rw [e1] at hk
        rw [e2] at hm
        obtain ⟨kb, e3, e4⟩ := hk.str_inv
        rw [e3]
        split at h
        · rename_i es hσ
          obtain ⟨entries, clock, g1, g2, g3, g4⟩ := hH.blk b _ hσ
          generalize a.eval m = ev at hm ⊢
          cases hm with
          | map =>
            have hkr : Rep E.A σ w (.string kb) (.str ks) := e4 ▸ Rep.str kb
            rcases find_now (A := E.A) (σ := σ) (w := w) kb entries.toList es 0 (by simpa using g2) (fun j x y hx hy => g4 j x y (by rw [Array.getElem?_toList] at hx; exact hx) hy) with ⟨q1, q2⟩ | ⟨j, e', u, q1, q2, q3, q4, q5, q6⟩
            · rw [e4] at q1
              rw [q1] at h
              simp only [Option.isSome_none, Bool.false_eq_true, if_false] at h
              have hnm : ∀ y ∈ es, y.1 ≠ ks := by
                intro y hy he
                subst he
                have : es.lookup y.1 ≠ none := by
                  rw [Ne, List.lookup_eq_none_iff]
                  intro hall
                  have := hall y hy
                  simp at this
                exact this q1
              obtain ⟨r1, r2, r3⟩ := map_change (entries' := entries.push { key := .string kb, val := a.eval v, born := clock }) (es' := es ++ [(ks, s.ev (opd v))]) (clock' := clock + 1) hH hσ g1 (by simp [g2])
                (by
                  rw [List.map_append, List.nodup_append]
                  refine ⟨g3, by simp, fun x hx y hy => ?_⟩
                  obtain ⟨p, hp, rfl⟩ := List.mem_map.1 hx
                  simp at hy; subst hy
                  exact hnm p hp) (fun i x y hx hy => by
                  rw [Array.getElem?_push] at hx
                  split at hx
                  · rename_i hi
                    cases hx
                    rw [hi, List.getElem?_append_right (by omega), g2, Nat.sub_self] at hy
                    cases hy
                    exact ⟨hkr, hv⟩
                  · have hlt := (Array.getElem?_eq_some_iff.1 hx).1
                    rw [List.getElem?_append_left (by omega)] at hy
                    exact g4 i x y hx hy)
              refine ⟨_, _, _, ?_, h, r2, r3, .any _⟩
              simp only [Instr.mapUpdate, Sem.run_bind, run_und hu, Result.andThen_ok, run_getMap g1, run_checkKey _ 9999 _ huk, run_findKey _ _ huk q2, r1]
            · rw [e4] at q1 q4
              rw [q1] at h
              simp only [Option.isSome_some, if_true] at h
              have hnd := lookup_nodup g3 q4
              rw [Nat.zero_add] at q2
              rw [Array.getElem?_toList] at q3
              have hjl := (Array.getElem?_eq_some_iff.1 q3).1
              have hmod : ∀ (f : MapEntry → MapEntry) (i : Nat), (entries.modify j f)[i]? = if i = j then entries[i]?.map f else entries[i]? := by
                intro f i
                rw [Array.getElem?_modify]
                by_cases e : j = i
                · subst e; simp
                · rw [if_neg e, if_neg (Ne.symm e)]
              obtain ⟨r1, r2, r3⟩ := map_change (entries' := entries.modify j fun e => { e with key := .string kb, val := a.eval v }) (es' := es.map fun e => if e.1 == ks then (ks, s.ev (opd v)) else e) (clock' := clock) hH hσ g1 (by simp [g2])
                (by
                  have : (es.map fun e => if e.1 == ks then (ks, s.ev (opd v)) else e).map (·.1) = es.map (·.1) := by
                    rw [List.map_map]
                    apply List.map_congr_left
                    intro y _
                    simp only [Function.comp]
                    split
                    · rename_i he; exact (by simpa using he : y.1 = ks).symm
                    · rfl
                  rw [this]; exact g3) (fun i x y hx hy => by
                  rw [hmod] at hx
                  rw [List.getElem?_map] at hy
                  cases hy0 : es[i]? with
                  | none => rw [hy0] at hy; cases hy
                  | some y0 =>
                    rw [hy0] at hy
                    simp only [Option.map_some, Option.some.injEq] at hy
                    have := hnd i y0 hy0
                    by_cases hi : i = j
                    · rw [if_pos hi] at hx
                      rw [if_pos (by simpa using this.2 hi)] at hy
                      subst hy
                      cases hx0 : entries[i]? with
                      | none => rw [hx0] at hx; cases hx
                      | some x0 =>
                        rw [hx0] at hx
                        simp only [Option.map_some, Option.some.injEq] at hx
                        subst hx
                        exact ⟨hkr, hv⟩
                    · rw [if_neg hi] at hx
                      rw [if_neg (by simpa using fun he => hi (this.1 he))] at hy
                      subst hy
                      exact g4 i x _ hx hy0)
              refine ⟨_, _, _, ?_, h, r2, r3, .any _⟩
              have hks : (Instr.keyThatStays (((entries[j]?).map (·.key)).getD (.string kb)) (.string kb)).run E.P w = .ok (.string kb) w := by
                simp [Instr.keyThatStays, q3, q6, Instr.sameBits, beq_bytes]
              simp only [Instr.mapUpdate, Sem.run_bind, run_und hu, Result.andThen_ok, run_getMap g1, run_checkKey _ 9999 _ huk, run_findKey _ _ huk q2, hks, r1]
        · exact h.elim
      · exact h.elim
    · exact h.elim
  · exact h.elim

theorem filter_erase : ∀ (es : List (List UInt8 × AV)) (k : List UInt8), (es.map (·.1)).Nodup → ∀ (j : Nat) (v : AV), es[j]? = some (k, v) → es.filter (fun e => e.1 != k) = es.eraseIdx j
  | [], _, _, j, _, h => by simp at h
  | y :: es, k, hn, 0, v, h => by
    simp only [List.getElem?_cons_zero, Option.some.injEq] at h
    subst h
    rw [List.map_cons, List.nodup_cons] at hn
    have : ((k, v) :: es).filter (fun e => e.1 != k) = es.filter (fun e => e.1 != k) := by simp
    rw [this, List.eraseIdx_cons_zero, List.filter_eq_self]
    intro y hy
    have : y.1 ≠ k := fun e => hn.1 (List.mem_map.2 ⟨y, hy, e⟩)
    simpa using this
  | y :: es, k, hn, j + 1, v, h => by
    rw [List.map_cons, List.nodup_cons] at hn
    have hk : y.1 ≠ k := fun e => hn.1 (e ▸ List.mem_map.2 ⟨(k, v), List.mem_of_getElem? (by simpa using h), rfl⟩)
    have hb : (y.1 != k) = true := by simpa using hk
    have ih := filter_erase es k hn.2 j v (by simpa using h)
    simp only [List.filter_cons, hb, if_true, List.eraseIdx_cons_succ, ih]

theorem snd_delete (hs : RelS E.A σ w a.tmps s) (hH : HRel E σ w) (t u ty : TypeId) (m k : Operand) (h : aOp E s σ (compBuiltin E.P .delete #[t, u] #[m, k]) K) :
    VS E σ w K ((Builtin.delete_ #[t, u] ty #[a.eval m, a.eval k]).run E.P w) := by
  have h : aOp E s σ (match E.P.underlying t with
    | some (.map kt _) => match E.P.underlying kt with
      | some .string => .mdel (opd m) (opd k)
      | _ => .bad
    | _ => .bad) K := h
  have hm := hs.ev m
  have hk := hs.ev k
  split at h
  · rename_i kt e hu
    split at h
    · rename_i huk
      simp only [aOp] at h
      split at h
      · rename_i ks b e1 e2
        rw [e1] at hk
        rw [e2] at hm
        obtain ⟨kb, e3, e4⟩ := hk.str_inv
        rw [e3]
        split at h
        · rename_i es hσ
          obtain ⟨entries, clock, g1, g2, g3, g4⟩ := hH.blk b _ hσ
          generalize a.eval m = ev at hm ⊢
          cases hm with
          | map =>
            rcases find_now (A := E.A) (σ := σ) (w := w) kb entries.toList es 0 (by simpa using g2) (fun j x y hx hy => g4 j x y (by rw [Array.getElem?_toList] at hx; exact hx) hy) with ⟨q1, q2⟩ | ⟨j, e', u, q1, q2, q3, q4, q5, q6⟩
            · rw [e4] at q1
              have hf : es.filter (fun e => e.1 != ks) = es := by
                rw [List.filter_eq_self]
                intro y hy
                rw [List.lookup_eq_none_iff] at q1
                have := q1 y hy
                simp only [bne_iff_ne, ne_eq]
                intro he
                rw [he] at this
                simp at this
              rw [hf] at h
              obtain ⟨r1, r2, r3⟩ := map_change (entries' := entries) (es' := es) (clock' := clock) hH hσ g1 g2 g3 g4
              refine VS.mk (v := .tuple #[]) ?_ h r2 (.any _) r3
              simp only [Builtin.delete_, List.getElem?_toArray, List.getElem?_cons_zero, List.getElem?_cons_succ, Sem.run_bind, run_und hu, Result.andThen_ok, run_getMap g1, run_checkKey _ 9999 _ huk, run_findKey _ _ huk q2, r1, Sem.run_pure]
            · rw [e4] at q1 q4
              rw [Nat.zero_add] at q2
              rw [Array.getElem?_toList] at q3
              have hjl := (Array.getElem?_eq_some_iff.1 q3).1
              rw [filter_erase es ks g3 j u q4] at h
              have hei : entries.eraseIdxIfInBounds j = entries.eraseIdx j hjl := by simp [Array.eraseIdxIfInBounds, hjl]
              obtain ⟨r1, r2, r3⟩ := map_change (entries' := entries.eraseIdxIfInBounds j) (es' := es.eraseIdx j) (clock' := clock) hH hσ g1
                (by rw [hei, Array.size_eraseIdx, List.length_eraseIdx, if_pos (by omega), g2])
                (List.Nodup.sublist ((List.eraseIdx_sublist es j).map _) g3) (fun i x y hx hy => by
                  rw [hei, Array.getElem?_eraseIdx] at hx
                  rw [List.getElem?_eraseIdx] at hy
                  by_cases hi : i < j
                  · rw [if_pos hi] at hx hy; exact g4 i x y hx hy
                  · rw [if_neg hi] at hx hy; exact g4 (i + 1) x y hx hy)
              refine VS.mk (v := .tuple #[]) ?_ h r2 (.any _) r3
              simp only [Builtin.delete_, List.getElem?_toArray, List.getElem?_cons_zero, List.getElem?_cons_succ, Sem.run_bind, run_und hu, Result.andThen_ok, run_getMap g1, run_checkKey _ 9999 _ huk, run_findKey _ _ huk q2, r1, Sem.run_pure]
        · exact h.elim
      · exact h.elim
    · exact h.elim
  · exact h.elim

theorem snd_call (hs : RelS E.A σ w a.tmps s) (hH : HRel E σ w) (f : Operand) (args : Array Operand) (h : aOp E s σ (.call (opd f) (opds args)) K) :
    US E σ w K ((do let d ← Deferred.ofValue (a.eval f) (args.map a.eval); invoke d.target d.args : Sem Next).run E.P w) := by
  simp only [aOp] at h
  have hf := hs.ev f
  obtain ⟨h1, h2⟩ := repArr hs args
  split at h
  · rename_i fi af ac e1
    rw [e1] at hf
    generalize a.eval f = ev at hf ⊢
    cases hf with
    | func _ first cap _ _ hf hc rf rc =>
      simp only [Deferred.ofValue, Sem.run_bind, Sem.run_pure, Result.andThen_ok, invoke]
      refine h.out w _ hH ⟨by rw [Array.length_toList, Array.size_append, Array.size_append, hf, hc, h1]; simp only [List.length_append], fun j x y hx hy => ?_⟩
      rw [Array.getElem?_toList] at hx
      have hlen : (first ++ args.map a.eval).size = (af ++ (opds args).map s.ev).length := by rw [Array.size_append, List.length_append, hf, h1]
      by_cases e3 : j < (af ++ (opds args).map s.ev).length
      · rw [Array.getElem?_append_left (by omega)] at hx
        rw [List.getElem?_append_left e3] at hy
        by_cases e4 : j < af.length
        · rw [Array.getElem?_append_left (by omega)] at hx
          rw [List.getElem?_append_left e4] at hy
          exact rf j x y hx hy
        · rw [Array.getElem?_append_right (by omega)] at hx
          rw [List.getElem?_append_right (by omega)] at hy
          rw [hf] at hx
          exact h2 _ x y hx hy
      · rw [Array.getElem?_append_right (by omega)] at hx
        rw [List.getElem?_append_right (by omega)] at hy
        rw [hlen] at hx
        exact rc _ x y hx hy
  · exact h.elim

theorem arr1 {α : Type} {l : Array α} {x : α} (h : l.toList = [x]) : l = #[x] := Array.toList_inj.1 h
theorem arr2 {α : Type} {l : Array α} {x y : α} (h : l.toList = [x, y]) : l = #[x, y] := Array.toList_inj.1 h

/-- EVERY OPERATION IS SOUND. -/
theorem op_sound (hs : RelS E.A σ w a.tmps s) (hH : HRel E σ w) (o : Oper) (h : aOp E s σ (compOp E.P o.op) K) : US E σ w K ((execOp a.eval o).run E.P w) := by
  unfold execOp
  generalize o.op = op at h ⊢
  cases op with
  | move x => exact US.value hH h (hs.ev x)
  | assign x => exact US.value hH h (hs.ev x)
  | pick c x y =>
    simp only [compOp, aOp] at h
    dsimp only
    have hc := hs.ev c
    split at h
    · rename_i b e1
      rw [e1] at hc
      show US E σ w K ((do pure (Next.value (if ← asBool (a.eval c) then a.eval x else a.eval y)) : Sem Next).run E.P w)
      rw [hc.bool_inv]
      cases b
      · exact US.value (v := a.eval y) hH h (hs.ev y)
      · exact US.value (v := a.eval x) hH h (hs.ev x)
    · exact h.elim
  | alloc t => exact VS.us (snd_alloc hH t h)
  | box t x => exact VS.us (snd_box hs hH t x h)
  | build t ps => exact VS.us (snd_build hs hH t ps h)
  | buildSlice t n ps => exact VS.us (snd_buildSlice hs hH t n ps h)
  | insert t m k v => exact h.elim
  | load t x => exact VS.us (snd_load hs hH t x h)
  | store t x y =>
    obtain ⟨w', b, σ', g1, g2, g3, g4, g5⟩ := snd_store hs hH t x y h
    simp only [Sem.run_bind, g1, Result.andThen_ok, Sem.run_pure]
    exact ⟨b, σ', g2, g3, g5, g4⟩
  | ready g => exact h.elim
  | waits g => exact h.elim
  | nilCheck x =>
    simp only [compOp, aOp] at h
    have hx := hs.ev x
    dsimp only
    split at h
    · rename_i e1
      rw [e1] at hx
      generalize a.eval x = ev at hx ⊢
      cases hx with
      | ptr => exact US.value hH h (.ptr _ _ _ _)
    · rename_i e1
      rw [e1] at hx
      generalize a.eval x = ev at hx ⊢
      cases hx with
      | re b p off xv vs hb hσ hc hr => exact US.value hH h (.re b p _ _ vs hb hσ hc hr)
    · rename_i e1
      rw [e1] at hx
      generalize a.eval x = ev at hx ⊢
      cases hx with
      | func _ first cap af ac hf hc rf rc => exact US.value hH h (.func _ first cap _ _ hf hc rf rc)
    · exact h.elim
  | binOp op t x y t' => exact VS.us (snd_binOp hs hH op t t' x y h)
  | unOp op t x =>
    have hx := hs.ev x
    dsimp only
    cases op with
    | not =>
      simp only [compOp, aOp] at h
      split at h
      · rename_i b e1
        rw [e1] at hx
        rw [hx.bool_inv]
        exact US.value (v := .bool !b) hH h (.bool _)
      · exact h.elim
    | neg =>
      simp only [compOp, aOp] at h
      split at h
      · rename_i k n e1
        rw [e1] at hx
        rw [hx.int_inv]
        exact US.value (v := .int k (k.wrap (0 - n))) hH h (.int _ _)
      · exact h.elim
    | xor => exact h.elim
    | plus => exact h.elim
  | convert src dst x => exact VS.us (snd_convert hs hH src dst x h)
  | sliceToArrayPointer t x => exact h.elim
  | makeInterface t x =>
    simp only [compOp] at h
    split at h
    · exact h.elim
    · rename_i d hni hu
      refine VS.us (VS.here (v := .iface t (a.eval x)) ?_ hH h (.iface _ _ _ (hs.ev x)))
      cases d <;> simp_all [Instr.makeInterface, run_und hu]
    · exact h.elim
  | makeFunc fn first cap =>
    simp only [compOp, aOp] at h
    obtain ⟨f1, f2⟩ := repArr hs first
    obtain ⟨c1, c2⟩ := repArr hs cap
    refine VS.us (VS.here (v := .func fn (first.map a.eval) (cap.map a.eval)) rfl hH h (.func _ _ _ _ _ f1 c1 f2 c2))
  | makeMap t r =>
    cases r with
    | some r => exact h.elim
    | none =>
      simp only [compOp, aOp] at h
      obtain ⟨g1, g2, g3⟩ := hH.allocMap (w.alloc (.map #[] 0)) rfl rfl rfl rfl
      refine VS.us (VS.mk (v := .map (some w.heap.size)) (w' := w.alloc (.map #[] 0)) ?_ (h _ g1) g2 (.map _) g3)
      simp [Instr.makeMap]
  | makeChan t x => exact h.elim
  | makeSlice t l c => exact VS.us (snd_makeSlice hs hH t l c h)
  | slice t x lo hi mx => exact VS.us (snd_slice hs hH t x lo hi mx h)
  | fieldAddr t x f => exact VS.us (snd_field hs hH t x f h)
  | field t x f => exact VS.us (snd_fld hs hH t x f h)
  | indexAddr t x i => exact VS.us (snd_indexAddr hs hH t x i h)
  | index t x i => exact VS.us (snd_index hs hH t x i h)
  | lookup t x k ok => exact VS.us (snd_lookup hs hH t x k ok h)
  | mapUpdate t m k v =>
    obtain ⟨w', b, σ', g1, g2, g3, g4, g5⟩ := snd_mapUpdate hs hH t m k v h
    simp only [Sem.run_bind, g1, Result.andThen_ok, Sem.run_pure]
    exact ⟨b, σ', g2, g3, g5, g4⟩
  | mapEntry t m k => exact h.elim
  | entryStore t m st v => exact h.elim
  | range t x => exact h.elim
  | next x b => exact h.elim
  | entry x => exact h.elim
  | typeAssert x t' t ok => exact VS.us (snd_typeAssert hs hH x t' t ok h)
  | extract x i =>
    simp only [compOp, aOp] at h
    dsimp only
    have hx := hs.ev x
    split at h
    · rename_i vs e1
      rw [e1] at hx
      obtain ⟨cs, e2, e3, e4⟩ := hx.tuple_inv
      rw [e2]
      split at h
      · rename_i v hv
        have hlt : i < cs.size := by rw [e3]; exact (List.getElem?_eq_some_iff.1 hv).1
        exact VS.us (VS.here (v := cs[i]) (by simp [Instr.extract, hlt]) hH h (e4 i _ v (Array.getElem?_eq_getElem hlt) hv))
      · exact h.elim
    · exact h.elim
  | call c =>
    obtain ⟨callee, args, argTypes⟩ := c
    cases callee with
    | value f => exact snd_call hs hH f args h
    | invoke r n => exact h.elim
    | builtin b =>
      simp only [compOp] at h
      simp only [resolve, Sem.run_bind, Sem.run_pure, Result.andThen_ok, invoke]
      cases b <;> try exact h.elim
      case append =>
        have : ∃ x y t u, args = #[x, y] ∧ argTypes = #[t, u] := by
          rcases hl : args.toList with _ | ⟨x, _ | ⟨y, _ | ⟨z, l⟩⟩⟩ <;> rcases ht : argTypes.toList with _ | ⟨t, _ | ⟨u, _ | ⟨z', l'⟩⟩⟩ <;> simp only [compBuiltin, hl, ht] at h <;> first | exact h.elim | exact ⟨_, _, _, _, arr2 hl, arr2 ht⟩
        obtain ⟨x, y, t, u, rfl, rfl⟩ := this
        refine VS.us ?_
        rw [show Array.map a.eval #[x, y] = #[a.eval x, a.eval y] by simp]
        exact snd_append hs hH t u _ x y h
      case delete =>
        have : ∃ x y t u, args = #[x, y] ∧ argTypes = #[t, u] := by
          rcases hl : args.toList with _ | ⟨x, _ | ⟨y, _ | ⟨z, l⟩⟩⟩ <;> rcases ht : argTypes.toList with _ | ⟨t, _ | ⟨u, _ | ⟨z', l'⟩⟩⟩ <;> simp only [compBuiltin, hl, ht] at h <;> first | exact h.elim | exact ⟨_, _, _, _, arr2 hl, arr2 ht⟩
        obtain ⟨x, y, t, u, rfl, rfl⟩ := this
        refine VS.us ?_
        rw [show Array.map a.eval #[x, y] = #[a.eval x, a.eval y] by simp]
        exact snd_delete hs hH t u _ x y h
      case len =>
        have : ∃ x t, args = #[x] ∧ argTypes = #[t] := by
          rcases hl : args.toList with _ | ⟨x, _ | ⟨y, _ | ⟨z, l⟩⟩⟩ <;> rcases ht : argTypes.toList with _ | ⟨t, _ | ⟨u, _ | ⟨z', l'⟩⟩⟩ <;> simp only [compBuiltin, hl, ht] at h <;> first | exact h.elim | exact ⟨_, _, arr1 hl, arr1 ht⟩
        obtain ⟨x, t, rfl, rfl⟩ := this
        refine VS.us ?_
        rw [show Array.map a.eval #[x] = #[a.eval x] by simp]
        exact snd_len hs hH t _ x h
      case max =>
        have : ∃ x y, args = #[x, y] := by
          rcases hl : args.toList with _ | ⟨x, _ | ⟨y, _ | ⟨z, l⟩⟩⟩ <;> simp only [compBuiltin, hl] at h <;> first | exact h.elim | exact ⟨_, _, arr2 hl⟩
        obtain ⟨x, y, rfl⟩ := this
        refine VS.us ?_
        rw [show Array.map a.eval #[x, y] = #[a.eval x, a.eval y] by simp]
        exact snd_max hs hH argTypes _ x y h
      case min =>
        have : ∃ x y, args = #[x, y] := by
          rcases hl : args.toList with _ | ⟨x, _ | ⟨y, _ | ⟨z, l⟩⟩⟩ <;> simp only [compBuiltin, hl] at h <;> first | exact h.elim | exact ⟨_, _, arr2 hl⟩
        obtain ⟨x, y, rfl⟩ := this
        refine VS.us ?_
        rw [show Array.map a.eval #[x, y] = #[a.eval x, a.eval y] by simp]
        exact snd_min hs hH argTypes _ x y h
  | go c => exact h.elim
  | defer c => exact h.elim
  | panic x => exact h.elim
  | send c x => exact h.elim
  | recv t c ok => exact h.elim
  | select cs b => exact h.elim
end
end Pat
end Go.Proofs.YthmcfphafofheaaDoor
