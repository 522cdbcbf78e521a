/- The abstract machine: append is sound. No statement of the seat is proved in this file. -/
import Derived.Test.YthmcfphafofheaaDoorPatC
namespace Go.Proofs.YthmcfphafofheaaDoor
namespace Pat
set_option linter.unusedVariables false
set_option linter.unusedSimpArgs false

theorem divmod {sz i j : Nat} (h : j < sz) : (i * sz + j) / sz = i ∧ (i * sz + j) % sz = j := by
  constructor
  · rw [Nat.mul_comm, Nat.mul_add_div (by omega), Nat.div_eq_of_lt h, Nat.add_zero]
  · rw [Nat.mul_comm, Nat.mul_add_mod, Nat.mod_eq_of_lt h]
theorem flat_lt {sz i j n : Nat} (h : j < sz) (hi : i < n) : i * sz + j < n * sz := by
  have := Nat.mul_le_mul_right sz (show i + 1 ≤ n by omega)
  rw [Nat.add_mul, Nat.one_mul] at this; omega
theorem flat_div {sz k n : Nat} (h : k < n * sz) : k / sz < n ∧ k % sz < sz := by
  have h0 : 0 < sz := by rcases Nat.eq_zero_or_pos sz with h1 | h1 <;> simp_all
  exact ⟨(Nat.div_lt_iff_lt_mul h0).2 h, Nat.mod_lt _ h0⟩

/-- Cells that hold elements, one behind the other. -/
def Flat (A : Nat → Addr) (σ : Hp) (w : World) (sz : Nat) (cells : Array Value) (els : List AV) : Prop :=
  cells.size = els.length * sz ∧ ∀ (i : Nat) (x : AV) (j : Nat) (y : AV), els[i]? = some x → x.cells[j]? = some y → ∃ v, cells[i * sz + j]? = some v ∧ Rep A σ w v y

theorem Flat.mono {A σ w σ' w' sz c l} (h : Flat A σ w sz c l) (ht : Trans σ w σ' w') : Flat A σ' w' sz c l :=
  ⟨h.1, fun i x j y hx hy => let ⟨v, h1, h2⟩ := h.2 i x j y hx hy; ⟨v, h1, h2.mono ht⟩⟩
theorem VS.pre {E : Env} {σ w σ1 K r} (ht : Trans σ w σ1 w) (h : VS E σ1 w K r) : VS E σ w K r := by
  unfold VS at *
  split at h
  · obtain ⟨a, σ', h1, h2, h3, h4⟩ := h; exact ⟨a, σ', h1, h2, h3, ht.trans h4⟩
  · exact h
theorem VS.drop {E : Env} {σ w r} {K K' : AV → Hp → Prop} (h : VS E σ w K' r) (hk : ∀ a σ', K' a σ' → ∃ σ'', (∀ b x, σ'' b = some x → σ' b = some x) ∧ K a σ'') : VS E σ w K r := by
  unfold VS at *
  split at h
  · obtain ⟨a, σ', h1, h2, h3, h4⟩ := h
    obtain ⟨σ'', h5, h6⟩ := hk a σ' h1
    obtain ⟨h7, h8⟩ := h2.drop σ'' h5
    exact ⟨a, σ'', h6, h7, h3.mono h8, h4.trans h8⟩
  · exact h
theorem Flat.append {A σ w sz c1 c2 l1 l2} (h1 : Flat A σ w sz c1 l1) (h2 : Flat A σ w sz c2 l2) (hs1 : ∀ x ∈ l1, x.cells.length = sz) : Flat A σ w sz (c1 ++ c2) (l1 ++ l2) := by
  refine ⟨by simp [h1.1, h2.1, Nat.add_mul], fun i x j y hx hy => ?_⟩
  by_cases hi : i < l1.length
  · rw [List.getElem?_append_left hi] at hx
    obtain ⟨v, h3, h4⟩ := h1.2 i x j y hx hy
    exact ⟨v, by rw [Array.getElem?_append_left (Array.getElem?_eq_some_iff.1 h3).1]; exact h3, h4⟩
  · rw [List.getElem?_append_right (by omega)] at hx
    obtain ⟨v, h3, h4⟩ := h2.2 (i - l1.length) x j y hx hy
    refine ⟨v, ?_, h4⟩
    have e : i * sz + j = l1.length * sz + ((i - l1.length) * sz + j) := by
      rw [← Nat.add_assoc, ← Nat.add_mul]; congr 2; omega
    rw [e, Array.getElem?_append_right (by rw [h1.1]; omega), h1.1, Nat.add_sub_cancel_left]
    exact h3

/-- A row that is read, cell by cell. -/
theorem load_flat {A : Nat → Addr} {σ : Hp} {P : Program} {w : World} {b p sz : Nat} {els : List AV} (hs : ∀ x ∈ els, x.cells.length = sz)
    (h : ∀ (i : Nat) (x : AV) (j : Nat) (y : AV), els[i]? = some x → x.cells[j]? = some y → ∃ v, w.cell? ⟨b, p + i * sz + j, none⟩ = some v ∧ Rep A σ w v y) :
    ∃ cells, (loadCells ⟨b, p, none⟩ (els.length * sz)).run P w = .ok cells w ∧ Flat A σ w sz cells els := by
  have hch : ∀ k, ∃ v, ∀ x y, els[k / sz]? = some x → x.cells[k % sz]? = some y → w.cell? ⟨b, p + k / sz * sz + k % sz, none⟩ = some v ∧ Rep A σ w v y := by
    intro k
    cases hx : els[k / sz]? with
    | none => exact ⟨undef, fun x y h => by cases h⟩
    | some x =>
      cases hy : x.cells[k % sz]? with
      | none => exact ⟨undef, fun x' y' hx' h => by cases hx'; rw [hy] at h; cases h⟩
      | some y =>
        obtain ⟨v, h1, h2⟩ := h _ _ _ _ hx hy
        exact ⟨v, fun x' y' hx' h => by cases hx'; rw [hy] at h; cases h; exact ⟨h1, h2⟩⟩
  have hch2 : ∃ f : Nat → Value, ∀ k x y, els[k / sz]? = some x → x.cells[k % sz]? = some y → w.cell? ⟨b, p + k / sz * sz + k % sz, none⟩ = some (f k) ∧ Rep A σ w (f k) y :=
    ⟨fun j => Classical.choose (hch j), fun j => Classical.choose_spec (hch j)⟩
  obtain ⟨f, hf⟩ := hch2
  refine ⟨((List.range (els.length * sz)).map f).toArray, ?_, by simp, fun i x j y hx hy => ?_⟩
  · refine run_loadCells w _ _ f fun k hk => ?_
    obtain ⟨h1, h2⟩ := flat_div hk
    have hx := List.getElem?_eq_getElem h1
    have h2' : k % sz < els[k / sz].cells.length := by rw [hs _ (List.getElem_mem h1)]; exact h2
    have := (hf k _ _ hx (List.getElem?_eq_getElem h2')).1
    rw [add_none, show p + k = p + k / sz * sz + k % sz by rw [Nat.add_assoc, Nat.div_add_mod']]
    exact this
  · have hi := (List.getElem?_eq_some_iff.1 hx).1
    have hj : j < sz := by have := (List.getElem?_eq_some_iff.1 hy).1; rw [hs x (List.mem_of_getElem? hx)] at this; exact this
    obtain ⟨e1, e2⟩ := divmod (i := i) hj
    refine ⟨f (i * sz + j), ?_, ?_⟩
    · simp [List.getElem?_range (flat_lt hj hi)]
    · exact (hf (i * sz + j) x y (by rw [e1]; exact hx) (by rw [e2]; exact hy)).2

/-- What is viewed as a slice is read as one. -/
theorem view_read {E : Env} {σ : Hp} {w : World} (hH : HRel E σ w) {x : Value} {av : AV} {ys : List AV} {sz : Nat} (hr : Rep E.A σ w x av) (hv : view σ av = some ys)
    (hs : ∀ y ∈ ys, y.cells.length = sz) : (Builtin.lenOf x).run E.P w = .ok ys.length w ∧
      ∃ cells, (Builtin.firstCells sz ys.length x).run E.P w = .ok cells w ∧ Flat E.A σ w sz cells ys := by
  cases hr with
  | nils a =>
    simp only [view, Option.some.injEq] at hv; subst hv
    refine ⟨rfl, #[], ?_, by simp, fun i x j y hx => by simp at hx⟩
    cases a <;> simp [Builtin.firstCells, loadCells, loadCellsFrom]
  | rd b p sz' cap xs vs hb hσ hcap hs' hc hr =>
    simp only [view, Option.some.injEq] at hv; subst hv
    refine ⟨rfl, ?_⟩
    rcases List.eq_nil_or_concat xs with e | _
    · subst e
      exact ⟨#[], by simp [Builtin.firstCells, loadCells, loadCellsFrom], by simp, fun i x j y hx => by simp at hx⟩
    · rename_i hne
      have e : sz' = sz := by
        obtain ⟨l, z, rfl⟩ := hne
        rw [← hs' z (by simp), ← hs z (by simp)]
      subst e
      exact load_flat hs (fun i x j y hx hy => ⟨vs i j, hc i x j y hx hy, hr i x j y hx hy⟩)
  | rd0 a cap sz' =>
    simp only [view, Option.some.injEq] at hv; subst hv
    refine ⟨rfl, #[], ?_, by simp, fun i x j y hx => by simp at hx⟩
    cases a <;> simp [Builtin.firstCells, loadCells, loadCellsFrom]
  | own b sz' i n cap c e f hb hc hn =>
    simp only [view] at hv
    split at hv
    · rename_i sz'' els hσ
      split at hv
      · rename_i hh
        obtain ⟨rfl, hle⟩ := hh
        simp only [Option.some.injEq] at hv
        obtain ⟨c', e', f', h1, h2, h3, h4, h5⟩ := hH.blk b _ hσ
        have hlen : ys.length = n := by rw [← hv]; simp; omega
        refine ⟨by rw [hlen]; rfl, ?_⟩
        rcases Nat.eq_zero_or_pos n with h0 | h0
        · have : ys = [] := List.length_eq_zero_iff.1 (by omega)
          subst this
          exact ⟨#[], by simp [Builtin.firstCells, loadCells, loadCellsFrom], by simp, fun i x j y hx => by simp at hx⟩
        · have e : sz'' = sz := by
            have hz : els[i]? = some els[i] := List.getElem?_eq_getElem (by omega)
            rw [← h4 _ (List.mem_of_getElem? hz)]
            have hm : els[i] ∈ List.take n (List.drop i els) := List.mem_iff_getElem?.2 ⟨0, by rw [List.getElem?_take_of_lt h0, List.getElem?_drop]; simp⟩
            exact hs _ (hv ▸ hm)
          subst e
          refine load_flat (els := ys) hs (fun k x j y hx hy => ?_)
          rw [← hv] at hx
          have hk : k < n := by
            rcases Nat.lt_or_ge k n with h | h
            · exact h
            · rw [List.getElem?_eq_none (by simp; omega)] at hx; cases hx
          rw [List.getElem?_take_of_lt hk, List.getElem?_drop] at hx
          obtain ⟨v, h6, h7⟩ := h5 (i + k) x j y hx hy
          refine ⟨v, ?_, h7⟩
          simp only [World.cell?, h1, Option.isSome_none, Bool.false_eq_true, if_false]
          rw [← Nat.add_mul]; exact h6
      · cases hv
    · cases hv
  | own0 a b sz' i c e f hb hc =>
    simp only [view] at hv
    split at hv
    · split at hv
      · simp only [Option.some.injEq, List.take_zero] at hv; subst hv
        refine ⟨rfl, #[], ?_, by simp, fun i x j y hx => by simp at hx⟩
        cases a <;> simp [Builtin.firstCells, loadCells, loadCellsFrom]
      · cases hv
    · cases hv
  | str s =>
    simp only [view, Option.some.injEq] at hv; subst hv
    have hl : s.data.toList.length = s.size := by rw [Array.length_toList]; rfl
    have he : (s.extract 0 s.size).data = s.data := by rw [ByteArray.data_extract]; exact Array.extract_size
    have hm : (s.data.toList.map fun b => AV.int .u8 b.toNat).length = s.size := by rw [List.length_map, hl]
    refine ⟨by rw [hm]; rfl, (s.data.map fun b => .int .u8 b.toNat), ?_, ?_⟩
    · rw [hm]; simp only [Builtin.firstCells, he]; rfl
    · rcases Nat.eq_zero_or_pos s.size with h0 | h0
      · have : s.data.toList = [] := List.length_eq_zero_iff.1 (by omega)
        have h2 : s.data = #[] := by simpa using this
        rw [h2]
        exact ⟨by simp, fun i x j y hx => by simp at hx⟩
      · have e : sz = 1 := by
          obtain ⟨z, hz⟩ : ∃ z, s.data.toList[0]? = some z := ⟨_, List.getElem?_eq_getElem (by omega)⟩
          rw [← hs (.int .u8 z.toNat) (List.mem_map.2 ⟨z, List.mem_of_getElem? hz, rfl⟩)]; rfl
        subst e
        refine ⟨by rw [hm, Array.size_map, Nat.mul_one]; rfl, fun i x j y hx hy => ?_⟩
        simp only [List.getElem?_map] at hx
        cases hz : s.data.toList[i]? with
        | none => simp [hz] at hx
        | some z =>
          simp only [hz, Option.map_some, Option.some.injEq] at hx
          subst hx
          match j with
          | 0 =>
            simp only [AV.cells, List.getElem?_cons_zero, Option.some.injEq] at hy
            subst hy
            refine ⟨.int .u8 z.toNat, ?_, .int _ _⟩
            rw [Array.getElem?_toList] at hz
            simp [hz]
          | j + 1 => simp [AV.cells] at hy
  | any v => simp [view] at hv
  | _ => simp [view] at hv

theorem flat_scalar {A σ w sz cells ys} (hf : Flat A σ w sz cells ys) (hs : ∀ y ∈ ys, y.cells.length = sz) (hc : ∀ y ∈ ys, ∀ c ∈ y.cells, c.scalar = true) : ∀ v ∈ cells.toList, v.oneCell' = true := by
  intro v hv
  obtain ⟨k, hk⟩ := List.mem_iff_getElem?.1 hv
  rw [Array.getElem?_toList] at hk
  have hlt := (Array.getElem?_eq_some_iff.1 hk).1
  rw [hf.1] at hlt
  obtain ⟨h1, h2⟩ := flat_div hlt
  have hx := List.getElem?_eq_getElem h1
  have hm := List.getElem_mem h1
  have h2' : k % sz < ys[k / sz].cells.length := by rw [hs _ hm]; exact h2
  have hy := List.getElem?_eq_getElem h2'
  obtain ⟨u, h3, h4⟩ := hf.2 _ _ _ _ hx hy
  rw [Nat.div_add_mod', hk] at h3
  cases h3
  exact (h4.scalar (hc _ hm _ (List.mem_of_getElem? hy))).1

/-- A grown row, in new memory. -/
theorem append_new {E : Env} {σ : Hp} {w : World} (hH : HRel E σ w) {K : AV → Hp → Prop} {sz n m : Nat} {olds news : List AV} {old new : Array Value} {e : TypeId} {i : TypeInfo} {z : Value} (sCap bytes : Nat)
    (ho : Flat E.A σ w.drew sz old olds) (hn : Flat E.A σ w.drew sz new news) (hso : ∀ x ∈ olds, x.cells.length = sz) (hsn : ∀ x ∈ news, x.cells.length = sz) (h1 : olds.length = n) (h2 : news.length = m)
    (hi : E.P.info? e = some i) (hz : i.zero = some z) (hb : i.bytes = bytes) (hzs : z.cells.size = sz) (hsz : 0 < sz) (hk : ∀ b', σ b' = none → K (.own b' sz 0 (n + m)) (σ.upd b' (.row sz (olds ++ news)))) :
    VS E σ w K ((do
      let newCap ← choose (.appendCap (n + m) sCap e)
      askRoom (newCap * bytes)
      let rest := Builtin.zeroCells (← zeroValue e).cells (newCap - (n + m))
      pure (.slice (some (← newRow e (old ++ new ++ rest))) (n + m) newCap) : Sem Value).run E.P w) := by
  have hq : ∃ q, q = (Question.appendCap (n + m) sCap e).cut (w.tape w.drawn (Question.appendCap (n + m) sCap e)) ∧ n + m ≤ q := ⟨_, rfl, by simp [Question.cut]⟩
  obtain ⟨q, hq1, hq2⟩ := hq
  obtain ⟨hd1, hd2⟩ := hH.drew
  have hzv : ∀ w', (zeroValue e).run E.P w' = .ok z w' := fun w' => by simp [zeroValue, run_inf hi, hz]
  have hfl : Flat E.A σ w.drew sz (old ++ new) (olds ++ news) := ho.append hn hso
  have hsize : (Builtin.zeroCells z.cells (q - (n + m))).size = (q - (n + m)) * sz := by simp [Builtin.zeroCells, hzs]
  have hall : ∀ x ∈ olds ++ news, x.cells.length = sz := fun x hx => by
    rcases List.mem_append.1 hx with h | h
    · exact hso x h
    · exact hsn x h
  obtain ⟨g1, g2, g3⟩ := hd1.alloc sz (olds ++ news) (old ++ new ++ Builtin.zeroCells z.cells (q - (n + m))) e
    (by rw [Array.size_append, hfl.1]; omega) hall
    (fun i x j y hx hy => by
      obtain ⟨v, h3, h4⟩ := hfl.2 i x j y hx hy
      exact ⟨v, by rw [Array.getElem?_append_left (Array.getElem?_eq_some_iff.1 h3).1]; exact h3, h4⟩)
    (w.drew.alloc (.cells (old ++ new ++ Builtin.zeroCells z.cells (q - (n + m))) e)) rfl rfl rfl rfl
  have hrun : ((do
      let newCap ← choose (.appendCap (n + m) sCap e)
      askRoom (newCap * bytes)
      let rest := Builtin.zeroCells (← zeroValue e).cells (newCap - (n + m))
      pure (.slice (some (← newRow e (old ++ new ++ rest))) (n + m) newCap) : Sem Value).run E.P w) =
      .ok (.slice (some ⟨w.heap.size, 0, none⟩) (n + m) q) (w.drew.alloc (.cells (old ++ new ++ Builtin.zeroCells z.cells (q - (n + m))) e)) := by
    simp only [Sem.run_bind, run_choose, Question.forced, Bool.false_eq_true, if_false, Result.andThen_ok, run_askRoom, hzv, newRow, run_newObj, Sem.run_pure, ← hq1]
    rfl
  refine VS.mk hrun (hk _ g1) g2 ?_ (hd2.trans g3)
  have hnew : (w.drew.alloc (.cells (old ++ new ++ Builtin.zeroCells z.cells (q - (n + m))) e)).heap[w.heap.size]? = some (.cells (old ++ new ++ Builtin.zeroCells z.cells (q - (n + m))) e) := heap_alloc_new w.drew _
  have := Rep.own (A := E.A) (σ := σ.upd w.heap.size (.row sz (olds ++ news))) w.heap.size sz 0 (n + m) q _ e (0, 0) hnew (by
    rw [Array.size_append, hfl.1, hsize, List.length_append, h1, h2, ← Nat.add_mul, Nat.zero_add]; congr 1; omega) hq2
  rw [Nat.zero_mul] at this
  exact this


section
variable {P : Program} {w : World} {t u e ty : TypeId} {i : TypeInfo} {d : TypeDesc}
theorem run_append_in (ht : P.underlying t = some (.slice e)) (hi : P.info? e = some i) (hu : P.underlying u = some d) (hd : d = .string ∨ ∃ e', d = .slice e')
    {base : Option Addr} {sLen sCap m : Nat} {y : Value} {new : Array Value} (hlen : (Builtin.lenOf y).run P w = .ok m w) (hnew : (Builtin.firstCells i.size m y).run P w = .ok new w) (hroom : sLen + m ≤ sCap) :
    (Builtin.append_ #[t, u] ty #[.slice base sLen sCap, y]).run P w =
      match base with
      | some a => ((storeCells (a.add (sLen * i.size)) new.toList).run P w).andThen fun _ w => .ok (.slice base (sLen + m) sCap) w
      | none => .ok (.slice base (sLen + m) sCap) w := by
  rcases hd with rfl | ⟨e', rfl⟩ <;> cases base <;>
    simp [Builtin.append_, run_und ht, run_und hu, run_siz hi, hlen, hnew, hroom]
theorem run_append_out (ht : P.underlying t = some (.slice e)) (hi : P.info? e = some i) (hu : P.underlying u = some d) (hd : d = .string ∨ ∃ e', d = .slice e')
    {base : Option Addr} {sLen sCap m : Nat} {y : Value} {old new : Array Value} (hlen : (Builtin.lenOf y).run P w = .ok m w) (hnew : (Builtin.firstCells i.size m y).run P w.drew = .ok new w.drew)
    (hold : (Builtin.firstCells i.size sLen (.slice base sLen sCap)).run P w.drew = .ok old w.drew) (hroom : sCap < sLen + m) (hb : 0 < i.bytes) (hbound : (sLen + m) * i.bytes ≤ 140737488355328) :
    (Builtin.append_ #[t, u] ty #[.slice base sLen sCap, y]).run P w = (do
      let newCap ← choose (.appendCap (sLen + m) sCap e)
      askRoom (newCap * i.bytes)
      let rest := Builtin.zeroCells (← zeroValue e).cells (newCap - (sLen + m))
      pure (.slice (some (← newRow e (old ++ new ++ rest))) (sLen + m) newCap) : Sem Value).run P w := by
  have h48 : ¬ (Builtin.nextslicecap (sLen + m) sCap * i.bytes > 2 ^ 48) := by
    have := growslice_fits hroom hbound; omega
  have hr : ¬ (sLen + m ≤ sCap) := by omega
  have hbn : ¬ (i.bytes = 0) := by omega
  rcases hd with rfl | ⟨e', rfl⟩ <;>
    (simp only [Builtin.append_, List.getElem?_toArray, List.getElem?_cons_zero, List.getElem?_cons_succ, Sem.run_bind, run_und ht, run_und hu, run_siz hi, run_inf hi, Result.andThen_ok, hlen, Sem.run_pure, Bool.false_eq_true, if_false, false_or, hr, hbn, and_false, h48]
     simp only [run_choose, Question.forced, Bool.false_eq_true, if_false, Result.andThen_ok, run_askRoom]
     simp only [World.drew_eq, hold, Result.andThen_ok, Bool.not_false, if_true, hnew])
end

theorem append_sound {E : Env} {σ : Hp} {w : World} (hH : HRel E σ w) {K : AV → Hp → Prop} {t u : TypeId} {i : TypeInfo} {e : TypeId} {z : Value} {d : TypeDesc} (ht : E.P.underlying t = some (.slice e)) (hi : E.P.info? e = some i)
    (hz : i.zero = some z) (hzs : z.cells.size = i.size) (hsz : 0 < i.size) (hby : 0 < i.bytes) (hu : E.P.underlying u = some d) (hd : d = .string ∨ ∃ e', d = .slice e') {ty : TypeId} {x y : Value} {xa ya : AV} {ys : List AV} (hx : Rep E.A σ w x xa) (hy : Rep E.A σ w y ya) (hv : view σ ya = some ys)
    (h1 : ∀ y ∈ ys, y.cells.length = i.size) (h2 : ∀ y ∈ ys, ∀ c ∈ y.cells, c.scalar = true)
    (h : match xa with
      | .nils => match ys with
        | [] => K .nils σ
        | _ => ys.length * i.bytes ≤ 140737488355328 ∧ ∀ b, σ b = none → K (.own b i.size 0 ys.length) (σ.upd b (.row i.size ys))
      | .own b sz' j n => match σ b with
        | some (.row sz'' els) => (sz' = i.size ∧ sz'' = i.size ∧ j + n ≤ els.length) ∧
          ((n + ys.length) * i.bytes ≤ 140737488355328 ∨ j + n + ys.length ≤ els.length) ∧
          (j + n + ys.length ≤ els.length → K (.own b i.size j (n + ys.length)) (σ.upd b (.row i.size (els.take (j + n) ++ ys ++ els.drop (j + n + ys.length))))) ∧
          (els.length < j + n + ys.length → ∀ b' j' els', (b' = b ∧ j' = j ∧ els' = els.take (j + n) ++ ys) ∨ (σ b' = none ∧ j' = 0 ∧ els' = (els.drop j).take n ++ ys) →
            K (.own b' i.size j' (n + ys.length)) ((σ.del b).upd b' (.row i.size els')) ∨ K (.own b' i.size j' (n + ys.length)) (σ.upd b' (.row i.size els')))
        | _ => False
      | _ => False) : VS E σ w K ((Builtin.append_ #[t, u] ty #[x, y]).run E.P w) := by
  obtain ⟨hd1, hd2⟩ := hH.drew
  obtain ⟨hlen, new, hnew, hfl⟩ := view_read hH hy hv h1
  obtain ⟨_, new', hnew', hfl'⟩ := view_read hd1 (hy.mono hd2) hv h1
  have hone := flat_scalar hfl h1 h2
  have hnil : ∀ (base : Option Addr) (w' : World), (Builtin.firstCells i.size 0 (.slice base 0 0)).run E.P w' = .ok #[] w' := fun base w' => by
    cases base <;> simp [Builtin.firstCells, loadCells, loadCellsFrom]
  have hf0 : Flat E.A σ w.drew i.size #[] [] := ⟨by simp, fun i x j y hx => by simp at hx⟩
  -- new memory
  have grow : ∀ (base : Option Addr) (sLen sCap : Nat) (old : Array Value) (olds : List AV), (Builtin.firstCells i.size sLen (.slice base sLen sCap)).run E.P w.drew = .ok old w.drew →
      Flat E.A σ w.drew i.size old olds → (∀ x ∈ olds, x.cells.length = i.size) → olds.length = sLen → sCap < sLen + ys.length → (sLen + ys.length) * i.bytes ≤ 140737488355328 →
      (∀ b', σ b' = none → ∃ σ1 : Hp, (∀ b x, σ1 b = some x → σ b = some x) ∧ K (.own b' i.size 0 (sLen + ys.length)) (σ1.upd b' (.row i.size (olds ++ ys)))) →
      VS E σ w K ((Builtin.append_ #[t, u] ty #[.slice base sLen sCap, y]).run E.P w) := by
    intro base sLen sCap old olds hold hflo hso hlo hcap hbd hk
    rw [run_append_out ht hi hu hd hlen hnew' hold hcap hby hbd]
    refine VS.drop (K' := fun a σ' => ∃ b', σ b' = none ∧ a = .own b' i.size 0 (sLen + ys.length) ∧ σ' = σ.upd b' (.row i.size (olds ++ ys)))
      (append_new hH sCap i.bytes hflo hfl' hso h1 hlo rfl hi hz rfl hzs hsz (fun b' hb' => ⟨b', hb', rfl, rfl⟩)) ?_
    rintro a σ' ⟨b', hb', rfl, rfl⟩
    obtain ⟨σ1, hσ1, hk⟩ := hk b' hb'
    refine ⟨_, fun c x hc => ?_, hk⟩
    simp only [Hp.upd] at hc ⊢
    split at hc
    · rename_i e; rw [if_pos e]; exact hc
    · rename_i e; rw [if_neg e]; exact hσ1 c x hc
  cases hx with
  | nils a =>
    cases ys with
    | nil =>
      have h0 : new = #[] := by have := hfl.1; simpa using this
      refine VS.here (v := .slice a 0 0) ?_ hH h (.nils a)
      rw [run_append_in ht hi hu hd hlen hnew (by simp)]
      cases a <;> simp [h0, storeCells]
    | cons y0 yr =>
      refine grow a 0 0 #[] [] (hnil a _) hf0 (by simp) rfl (by simp) (by simpa using h.1) (fun b' hb' => ⟨σ, fun b x hb => hb, ?_⟩)
      have := h.2 b' hb'
      simpa using this
  | own b sz' j n cap c ee f hb hc hn =>
    simp only at h
    split at h
    · rename_i sz'' els hσ
      obtain ⟨⟨rfl, rfl, hle⟩, hbd, hk1, hk2⟩ := h
      obtain ⟨c', e', f', g1, g2, g3, g4, g5⟩ := hH.blk b _ hσ
      rw [hb] at g1; cases g1
      have hel : els.length ≤ j + cap := by
        have := g2; rw [← hc] at this; exact Nat.le_of_mul_le_mul_right this hsz
      by_cases hroom : n + ys.length ≤ cap
      · -- in place
        have hsz2 : j * i.size + n * i.size + ys.length * i.size ≤ c.size := by
          rw [← hc, ← Nat.add_mul, ← Nat.add_mul]; exact Nat.mul_le_mul_right _ (by omega)
        obtain ⟨w', c2, s1, s2, s3, s4, s5, s6, s7, s8, s9⟩ := store_cells (P := E.P) b new.toList (j * i.size + n * i.size) 0 w c ee f hb g3 hone (by
          rw [Array.length_toList, hfl.1]; omega)
        have hpr : ∀ els', (∀ x ∈ els', x.cells.length = i.size) → (els' = els.take (j + n) ++ ys ++ els.drop (j + n + ys.length)) →
            HRel E (σ.upd b (.row i.size els')) w' ∧ Trans σ w (σ.upd b (.row i.size els')) w' := by
          intro els' hall hels
          refine hH.change b _ hσ _ (fun i hi => by simp [Hp.upd, hi]) w' s2 s3 (fun c0 e0 f0 hc0 => by rw [hb] at hc0; cases hc0; exact ⟨c2, f, s4, s5⟩) (fun htr x' hx' => ?_) s7 s8 s9
          simp only [Hp.upd, if_true, Option.some.injEq] at hx'
          subst hx'
          have hlen' : els'.length ≤ j + cap := by rw [hels]; simp; omega
          refine ⟨c2, ee, f, s4, ?_, fun o ho => ?_, hall, fun k x q y hx hy => ?_⟩
          · rw [s5, ← hc]; exact Nat.mul_le_mul_right _ hlen'
          · have : w'.frozen? ⟨b, o, none⟩ = w.frozen? ⟨b, o, none⟩ := by simp only [World.frozen?, s4, hb]
            rw [this]; exact g3 o (by omega)
          · have hq : q < i.size := by have := (List.getElem?_eq_some_iff.1 hy).1; rw [hall x (List.mem_of_getElem? hx)] at this; exact this
            have hnl : new.toList.length = ys.length * i.size := by rw [Array.length_toList, hfl.1]
            rw [s6, hnl]
            rw [hels] at hx
            by_cases hk : k < j + n
            · rw [List.append_assoc, List.getElem?_append_left (by simp; omega), List.getElem?_take_of_lt hk] at hx
              obtain ⟨v, v1, v2⟩ := g5 k x q y hx hy
              refine ⟨v, ?_, v2.mono htr⟩
              rw [if_neg]
              · exact v1
              · have := flat_lt (sz := i.size) (n := j + n) hq hk
                rw [Nat.add_mul] at this; omega
            · by_cases hk2 : k < j + n + ys.length
              · rw [List.append_assoc, List.getElem?_append_right (by simp; omega), List.length_take, Nat.min_eq_left (by omega), List.getElem?_append_left (by omega)] at hx
                obtain ⟨v, v1, v2⟩ := hfl.2 (k - (j + n)) x q y hx hy
                refine ⟨v, ?_, v2.mono htr⟩
                have e1 : k * i.size + q = j * i.size + n * i.size + ((k - (j + n)) * i.size + q) := by
                  rw [← Nat.add_mul, ← Nat.add_assoc, ← Nat.add_mul]; congr 2; omega
                have e2 := flat_lt (sz := i.size) (n := ys.length) hq (show k - (j + n) < ys.length by omega)
                rw [if_pos (by omega), e1, show j * i.size + n * i.size + ((k - (j + n)) * i.size + q) - (j * i.size + n * i.size + 0) = (k - (j + n)) * i.size + q by omega, Array.getElem?_toList]
                exact v1
              · rw [List.getElem?_append_right (by simp; omega), List.getElem?_drop] at hx
                have e0 : j + n + ys.length + (k - (els.take (j + n) ++ ys).length) = k := by simp; omega
                rw [e0] at hx
                obtain ⟨v, v1, v2⟩ := g5 k x q y hx hy
                refine ⟨v, ?_, v2.mono htr⟩
                rw [if_neg]
                · exact v1
                · have := Nat.mul_le_mul_right i.size (show j + n + ys.length ≤ k by omega)
                  rw [Nat.add_mul, Nat.add_mul] at this; omega
        have hrun : (Builtin.append_ #[t, u] ty #[.slice (some ⟨b, j * i.size, none⟩) n cap, y]).run E.P w = .ok (.slice (some ⟨b, j * i.size, none⟩) (n + ys.length) cap) w' := by
          rw [run_append_in ht hi hu hd hlen hnew hroom]
          simp only [add_none, s1, Result.andThen_ok]
        have hrep : ∀ σ', Rep E.A σ' w' (.slice (some ⟨b, j * i.size, none⟩) (n + ys.length) cap) (.own b i.size j (n + ys.length)) := fun σ' =>
          .own b i.size j (n + ys.length) cap c2 ee f s4 (by rw [s5]; exact hc) hroom
        by_cases hin : j + n + ys.length ≤ els.length
        · obtain ⟨p1, p2⟩ := hpr _ (fun x hx => by
            rcases List.mem_append.1 hx with hx | hx
            · rcases List.mem_append.1 hx with hx | hx
              · exact g4 x (List.mem_of_mem_take hx)
              · exact h1 x hx
            · exact g4 x (List.mem_of_mem_drop hx)) rfl
          exact VS.mk hrun (hk1 hin) p1 (hrep _) p2
        · have hdr : els.drop (j + n + ys.length) = [] := List.drop_eq_nil_of_le (by omega)
          obtain ⟨p1, p2⟩ := hpr (els.take (j + n) ++ ys) (fun x hx => by
            rcases List.mem_append.1 hx with hx | hx
            · exact g4 x (List.mem_of_mem_take hx)
            · exact h1 x hx) (by rw [hdr, List.append_nil])
          have hk := hk2 (by omega) b j (els.take (j + n) ++ ys) (.inl ⟨rfl, rfl, rfl⟩)
          have heq : (σ.del b).upd b (.row i.size (els.take (j + n) ++ ys)) = σ.upd b (.row i.size (els.take (j + n) ++ ys)) := by
            funext k; simp only [Hp.upd, Hp.del]; split <;> rfl
          rw [heq, or_self] at hk
          exact VS.mk hrun hk p1 (hrep _) p2
      · -- new memory
        have hso : ∀ x ∈ (els.drop j).take n, x.cells.length = i.size := fun x hx => g4 x (List.mem_of_mem_drop (List.mem_of_mem_take hx))
        have hol : ((els.drop j).take n).length = n := by simp; omega
        obtain ⟨old, o1, o2⟩ := load_flat (A := E.A) (σ := σ) (P := E.P) (w := w.drew) (b := b) (p := j * i.size) hso (fun k x q y hx hy => by
          have hk : k < n := by
            rcases Nat.lt_or_ge k n with h | h
            · exact h
            · rw [List.getElem?_eq_none (by omega)] at hx; cases hx
          rw [List.getElem?_take_of_lt hk, List.getElem?_drop] at hx
          obtain ⟨v, v1, v2⟩ := g5 (j + k) x q y hx hy
          refine ⟨v, ?_, v2.mono hd2⟩
          have hb' : w.drew.heap[b]? = some (.cells c ee f) := hb
          simp only [World.cell?, hb', Option.isSome_none, Bool.false_eq_true, if_false]
          rw [← Nat.add_mul]; exact v1)
        rw [hol] at o1
        have hout : els.length < j + n + ys.length := by omega
        refine grow (some ⟨b, j * i.size, none⟩) n cap old _ o1 o2 hso hol (by omega) (by omega) (fun b' hb' => ?_)
        rcases hk2 hout b' 0 _ (.inr ⟨hb', rfl, rfl⟩) with hk | hk
        · refine ⟨σ.del b, fun b' x hb' => ?_, hk⟩
          simp only [Hp.del] at hb'
          split at hb'
          · cases hb'
          · exact hb'
        · exact ⟨σ, fun _ _ h => h, hk⟩
    · exact h.elim
  | own0 a b sz' j c ee f hb hc =>
    simp only at h
    split at h
    · rename_i sz'' els hσ
      obtain ⟨⟨rfl, rfl, hle⟩, hbd, hk1, hk2⟩ := h
      obtain ⟨c', e', f', g1, g2, g3, g4, g5⟩ := hH.blk b _ hσ
      rw [hb] at g1; cases g1
      have hel : els.length ≤ j := by
        have := g2; rw [← hc] at this; exact Nat.le_of_mul_le_mul_right this hsz
      cases ys with
      | nil =>
        have h0 : new = #[] := by have := hfl.1; simpa using this
        have hk := hk1 (by simpa using hle)
        have heq : σ.upd b (.row i.size (els.take (j + 0) ++ [] ++ els.drop (j + 0 + ([] : List AV).length))) = σ := by
          funext k
          simp only [Hp.upd]
          split
          · rename_i e; subst e; rw [hσ]; simp
          · rfl
        rw [heq] at hk
        refine VS.here (v := .slice a 0 0) ?_ hH hk (.own0 a b i.size j c ee f hb hc)
        rw [run_append_in ht hi hu hd hlen hnew (by simp)]
        cases a <;> simp [h0, storeCells]
      | cons y0 yr =>
        refine grow a 0 0 #[] [] (hnil a _) hf0 (by simp) rfl (by simp) ?_ (fun b' hb' => ?_)
        · rcases hbd with h | h
          · simpa using h
          · simp at h; omega
        · rcases hk2 (by simp; omega) b' 0 _ (.inr ⟨hb', rfl, rfl⟩) with hk | hk
          · refine ⟨σ.del b, fun b' x hb' => ?_, by simpa using hk⟩
            simp only [Hp.del] at hb'
            split at hb'
            · cases hb'
            · exact hb'
          · exact ⟨σ, fun _ _ h => h, by simpa using hk⟩
    · exact h.elim
  | _ => exact h.elim

end Pat
end Go.Proofs.YthmcfphafofheaaDoor
