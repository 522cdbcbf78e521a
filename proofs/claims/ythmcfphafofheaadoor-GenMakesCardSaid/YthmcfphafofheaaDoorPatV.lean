/- The abstract machine: what a call is handed, and how a law's row follows. No statement of the seat is proved in this file. -/
import Derived.Test.YthmcfphafofheaaDoorPatS
import GoSem.ClaimJoined
import Derived.Below
import Derived.ChangeArms
import Derived.Carry
import Derived.RowKit
import Derived.ChangeOld
namespace Go.Proofs.YthmcfphafofheaaDoor
namespace Pat
set_option linter.unusedVariables false
set_option linter.unusedSimpArgs false

def noHp : Hp := fun _ => none
/-- Cells of this type stand for such a thing. -/
def Elem {α : Type} (P : Program) (A : Nat → Addr) (W : World) (t : TypeId) (n : Nat) (f : α → AV) (ok : α → Prop) : Prop :=
  ∀ {H : Type} (enc : TypeId × Value → H) (fuel : Nat) (cs : List Value) (d : DataW H) (ps : List MemPlace), DataW.trod enc P W 0 (fun _ => true) true fuel t cs = some (d, ps) → (d.weights P t).all (· ≤ reachBytes) = true → cs.length = n →
    ∃ x, ok x ∧ (f x).cells.length = n ∧ ∀ (j : Nat) (v : Value) (y : AV), cs[j]? = some v → (f x).cells[j]? = some y → Rep A noHp W v y

section
variable {P : Program} {A : Nat → Addr} {W : World}
theorem Elem.int {t : TypeId} (k : IntKind) (hu : P.underlying t = some (.int k)) : Elem P A W t 1 (fun n : Int => .int k n) (fun n => (Lit.int k n).wf = true) := by
  intro H enc fuel cs d ps h _ hn
  obtain ⟨n, rfl, _, h3⟩ := DataW.trod_int hu h
  refine ⟨n, h3, rfl, fun j v y hv hy => ?_⟩
  cases j with
  | zero => simp [AV.cells] at hv hy; subst hv; subst hy; exact .int k n
  | succ j => simp at hv
theorem Elem.bool {t : TypeId} (hu : P.underlying t = some .bool) : Elem P A W t 1 (fun b : Bool => .bool b) (fun _ => True) := by
  intro H enc fuel cs d ps h _ hn
  obtain ⟨n, rfl, _⟩ := DataW.trod_bool hu h
  refine ⟨n, trivial, rfl, fun j v y hv hy => ?_⟩
  cases j with
  | zero => simp [AV.cells] at hv hy; subst hv; subst hy; exact .bool n
  | succ j => simp at hv
theorem Elem.str {t : TypeId} (hu : P.underlying t = some .string) : Elem P A W t 1 (fun s : List UInt8 => .str s) (fun s => s.length ≤ reachBytes) := by
  intro H enc fuel cs d ps h hw hn
  obtain ⟨s, rfl, h2, h3⟩ := DataW.trod_string hu h
  cases h2
  refine ⟨s.data.toList, by simpa [DataW.weights] using hw, rfl, fun j v y hv hy => ?_⟩
  cases j with
  | zero => simp [AV.cells] at hv hy; subst hv; subst hy; exact .str s
  | succ j => simp at hv
theorem weightsAll_mem {H : Type} {e : TypeId} : ∀ {l : List (DataW H)}, (DataW.weightsAll P e l).all (· ≤ reachBytes) = true → ∀ d ∈ l, (d.weights P e).all (· ≤ reachBytes) = true
  | [], _, d, hd => by cases hd
  | x :: l, h, d, hd => by
    simp only [DataW.weightsAll, List.all_append, Bool.and_eq_true] at h
    rcases List.mem_cons.1 hd with rfl | hd
    · exact h.1
    · exact weightsAll_mem h.2 d hd
theorem Elem.slice {α : Type} {t e : TypeId} {sz : Nat} {f : α → AV} {ok : α → Prop} (hu : P.underlying t = some (.slice e)) (hc : P.cellsOf e = sz) (hz : 0 < sz) (h : Elem P A W e sz f ok) :
    Elem P A W t 1 (fun xs : List α => .rd sz (xs.map f)) (fun xs => xs.length * P.bytesOf e ≤ reachBytes ∧ xs.length ≤ maxLen ∧ ∀ x ∈ xs, ok x) := by
  intro H enc fuel cs d ps h' hw hn
  rcases DataW.trod_slice hu h' with ⟨rfl, _⟩ | ⟨a, len, cap, elems, rest, n, rfl, rfl, h2, h3, h4, h5, h6, h7, _, _⟩
  · refine ⟨[], by simp, rfl, fun j v y hv hy => ?_⟩
    cases j with
    | zero => simp [AV.cells] at hv hy; subst hv; subst hy; exact .rd0 none 0 sz
    | succ j => simp at hv
  · cases h2
    simp only [DataW.weights, hu, List.all_cons, List.all_append, Bool.and_eq_true, decide_eq_true_eq] at hw
    obtain ⟨w1, w2, w3⟩ := hw
    have good : ∀ i, i < len → ∃ x, ok x ∧ (f x).cells.length = sz ∧ ∀ (j : Nat) (y : AV), (f x).cells[j]? = some y → ∃ v, W.cell? ((a.add (i * sz)).add j) = some v ∧ Rep A noHp W v y := by
      intro i hi
      have hi' : i < elems.length := by omega
      have h6' := h7 i hi
      rw [List.getElem?_eq_getElem hi', hc] at h6'
      obtain ⟨csi, k1, k2⟩ := Option.bind_eq_some_iff.1 h6'
      have k3 : (List.range sz).mapM (fun k => W.cell? ((a.add (i * sz)).add k)) = some csi := by
        unfold World.cells? at k1
        split at k1
        · exact k1
        · cases k1
      have hlen : csi.length = sz := by simpa using mapM_some_length k3
      obtain ⟨x, x1, x2, x3⟩ := h enc n csi elems[i].1 elems[i].2 k2 (weightsAll_mem w2 _ (List.mem_map.2 ⟨elems[i], List.getElem_mem _, rfl⟩)) hlen
      refine ⟨x, x1, x2, fun j y hy => ?_⟩
      have hj : j < csi.length := by rw [hlen, ← x2]; exact (List.getElem?_eq_some_iff.1 hy).1
      have := mapM_some_get k3 j j (by rw [List.getElem?_range (by omega)])
      rw [List.getElem?_eq_getElem hj] at this
      exact ⟨csi[j], this, x3 j _ y (List.getElem?_eq_getElem hj) hy⟩
    have hxs : ∀ m, m ≤ len → ∃ xs : List α, xs.length = m ∧ ∀ i x, xs[i]? = some x → ok x ∧ (f x).cells.length = sz ∧ ∀ (j : Nat) (y : AV), (f x).cells[j]? = some y → ∃ v, W.cell? ((a.add (i * sz)).add j) = some v ∧ Rep A noHp W v y := by
      intro m
      induction m with
      | zero => exact fun _ => ⟨[], rfl, fun i x hx => by simp at hx⟩
      | succ m ih =>
        intro hm
        obtain ⟨xs, g1, g2⟩ := ih (by omega)
        obtain ⟨x, gx⟩ := good m (by omega)
        refine ⟨xs ++ [x], by simp [g1], fun i y hy => ?_⟩
        by_cases hi : i < xs.length
        · rw [List.getElem?_append_left hi] at hy; exact g2 i y hy
        · rw [List.getElem?_append_right (by omega)] at hy
          have : i - xs.length = 0 := by
            have := (List.getElem?_eq_some_iff.1 hy).1
            simp at this; omega
          rw [this] at hy
          simp at hy
          subst hy
          have : i = m := by omega
          subst this
          exact gx
    obtain ⟨xs, g1, g2⟩ := hxs len (Nat.le_refl _)
    have hlen2 : (elems.map (·.1)).length = len := by simpa using h6
    have hb1 : xs.length * P.bytesOf e ≤ reachBytes := by
      rw [g1]
      refine Nat.le_trans (Nat.mul_le_mul_right _ ?_) w1
      rw [hlen2]; omega
    refine ⟨xs, ⟨hb1, by omega, fun x hx => ?_⟩, rfl, fun j v y hv hy => ?_⟩
    · obtain ⟨i, hi⟩ := List.getElem?_of_mem hx
      exact (g2 i x hi).1
    · cases j with
      | succ j => simp at hv
      | zero =>
        simp [AV.cells] at hv hy
        subst hv; subst hy
        cases xs with
        | nil =>
          simp at g1
          subst g1
          exact .rd0 _ _ _
        | cons x0 xs' =>
          have hsp : a.spot = none ∧ a.block < W.heap.size := by
            obtain ⟨_, q2, q3⟩ := g2 0 x0 rfl
            have h0 : ∃ y, (f x0).cells[0]? = some y := ⟨_, List.getElem?_eq_getElem (by omega)⟩
            obtain ⟨y, hy⟩ := h0
            obtain ⟨v, hv, _⟩ := q3 0 y hy
            simp only [Nat.zero_mul, Addr.add, if_true] at hv
            unfold World.cell? at hv
            split at hv
            · rename_i c e' f' hh
              refine ⟨?_, (Array.getElem?_eq_some_iff.1 hh).1⟩
              cases hs : a.spot with
              | none => rfl
              | some k => rw [hs] at hv; simp at hv
            · cases hv
          have hA : ∀ k j, ((a.add k).add j) = ⟨a.block, a.off + k + j, none⟩ := by
            intro k j
            obtain ⟨b, o, sp⟩ := a
            simp only at hsp
            rw [hsp.1]
            unfold Addr.add
            by_cases hk : k = 0 <;> by_cases hj : j = 0 <;> simp [hk, hj]
          have ha : a = ⟨a.block, a.off, none⟩ := by
            obtain ⟨b, o, sp⟩ := a
            simp only at hsp
            rw [hsp.1]
          have key := Rep.rd (A := A) (σ := noHp) (w := W) a.block a.off sz cap ((x0 :: xs').map f) (fun i j => (W.cell? ⟨a.block, a.off + i * sz + j, none⟩).getD undef) hsp.2 rfl (by simp at g1 ⊢; omega) (fun x hx => ?_)
            (fun i x j y hx hy => ?_) (fun i x j y hx hy => ?_)
          · rw [List.length_map, g1, ← ha] at key
            exact key
          · obtain ⟨x', hx', rfl⟩ := List.mem_map.1 hx
            obtain ⟨i, hi⟩ := List.getElem?_of_mem hx'
            exact (g2 i x' hi).2.1
          · rw [List.getElem?_map] at hx
            obtain ⟨x', hx', rfl⟩ := Option.map_eq_some_iff.1 hx
            obtain ⟨v, hv, _⟩ := (g2 i x' hx').2.2 j y hy
            rw [hA] at hv
            simp [hv]
          · rw [List.getElem?_map] at hx
            obtain ⟨x', hx', rfl⟩ := Option.map_eq_some_iff.1 hx
            obtain ⟨v, hv, hr⟩ := (g2 i x' hx').2.2 j y hy
            rw [hA] at hv
            simpa [hv] using hr

/-- A field of one cell. -/
theorem field_cell {H : Type} {enc : TypeId × Value → H} {fs : Array Field} {n fuel : Nat} {cs : List Value} {xs : List (DataW H × List MemPlace)} (hl : cs.length = n) (hx : xs.length = fs.size)
    (h : ∀ (i : Nat) (f : Field), fs[i]? = some f → DataW.trod enc P W 0 (fun _ => true) true fuel f.type ((cs.drop f.offset).take (P.cellsOf f.type)) = xs[i]?) (i : Nat) (f : Field) (hf : fs[i]? = some f) (ho : f.offset < n) (hc : P.cellsOf f.type = 1) :
    ∃ v x, cs[f.offset]? = some v ∧ xs[i]? = some x ∧ DataW.trod enc P W 0 (fun _ => true) true fuel f.type [v] = some x := by
  have h1 := h i f hf
  rw [hc] at h1
  have hi : i < xs.length := by rw [hx]; exact (Array.getElem?_eq_some_iff.1 hf).1
  have ho' : f.offset < cs.length := by omega
  have hd : (cs.drop f.offset).take 1 = [cs[f.offset]] := by
    rw [List.drop_eq_getElem_cons ho']; rfl
  rw [hd, List.getElem?_eq_getElem hi] at h1
  exact ⟨_, _, List.getElem?_eq_getElem ho', List.getElem?_eq_getElem hi, h1⟩
theorem weightsEach_get {H : Type} : ∀ {ts : List TypeId} {l : List (DataW H)}, (DataW.weightsEach P ts l).all (· ≤ reachBytes) = true → ∀ (i : Nat) (t : TypeId) (d : DataW H), ts[i]? = some t → l[i]? = some d → (d.weights P t).all (· ≤ reachBytes) = true
  | [], l, h, i, t, d, ht, _ => by simp at ht
  | t :: ts, [], h, i, t', d, _, hd => by simp at hd
  | t :: ts, x :: l, h, i, t', d, ht, hd => by
    simp only [DataW.weightsEach, List.all_append, Bool.and_eq_true] at h
    cases i with
    | zero => simp at ht hd; subst ht; subst hd; exact h.1
    | succ i => exact weightsEach_get h.2 i t' d (by simpa using ht) (by simpa using hd)
/-- What an argument stands for. -/
theorem Elem.arg {α : Type} {t : TypeId} {f : α → AV} {ok : α → Prop} (h : Elem P A W t 1 f ok) (hs : ∀ x, (f x).cells = [f x]) {H : Type} {enc : TypeId × Value → H} {v : Value} {d : DataW H} {ps : List MemPlace} (hv : DataW.Trod enc P W 0 (fun _ => true) true t v d ps)
    (hw : (d.weights P t).all (· ≤ reachBytes) = true) (h1 : v.cells = #[v]) : ∃ x, ok x ∧ Rep A noHp W v (f x) := by
  obtain ⟨fuel, hv⟩ := hv
  rw [h1] at hv
  obtain ⟨x, x1, _, x3⟩ := h enc fuel [v] d ps hv hw rfl
  exact ⟨x, x1, x3 0 v (f x) rfl (by rw [hs]; rfl)⟩
/-- Behind a call nothing that lay before has turned. -/
theorem Trans.below {w w' : World} {σ' : Hp} (h : Trans noHp w σ' w') : RowKit.Below w.heap.size w w' := ⟨h.os, h.tape, h.output, h.size, fun k hk => (h.old k hk rfl).1⟩
/-- What a function's contract says of its call. -/
theorem ACalls.law {E : Env} {f : FuncId} {args : List AV} {vs : Array Value} (h : ACalls E f args noHp fun v _ => v = .bool true) (hH : HRel E noHp W) (hr : RepL E.A noHp W vs.toList args) {fn : Func} (hf : E.P.funcs[f]? = some fn) (hn : (fn.name == "runtime.NumGoroutine") = false) (hb : fn.body.isSome = true) :
    Calls E.P f vs W fun e w' => e = .returned (.bool true) ∧ RowKit.Below W.heap.size W w' := by
  have h1 := h.out W vs hH hr
  have hrun : (callFunc f vs).run E.P W = .ok (.enter f vs) W := by
    have : fn.body.isNone = false := by cases hb' : fn.body <;> simp_all
    simp only [callFunc, Sem.run_bind, run_program, Result.andThen_ok, hf, hn, this, Bool.false_eq_true, if_false, Sem.run_pure]
  rw [hrun] at h1
  refine Calls.mono h1 fun e w' ⟨v, a, σ', e1, e2, e3, e4, e5⟩ => ?_
  subst e1; subst e2
  exact ⟨by rw [e4.bool_inv], e5.below⟩

theorem trodAll_stays {H : Type} {enc : TypeId × Value → H} (hl : laidOutB P = true) {W' : World} (hb : RowKit.Below W.heap.size W W') : ∀ {ts : List TypeId} {vs : List Value} {ds : List (DataW H)} {ps : List MemPlace},
    (∀ t ∈ ts, P.readableRec t = true ∧ t < P.types.size) → DataW.TrodAll enc P W 0 (fun _ => true) true ts vs ds ps → DataW.TrodAll enc P W' 0 (fun b => decide (b < W.heap.size)) true ts vs ds ps
  | [], [], [], _, _, h => h
  | t :: ts, v :: vs, d :: ds, ps, ht, h => by
    obtain ⟨p, q, h1, h2, rfl⟩ := h
    refine ⟨p, q, ?_, trodAll_stays hl hb (fun t h => ht t (by simp [h])) h2, rfl⟩
    obtain ⟨a, b⟩ := ht t (by simp)
    refine RowKit.Below.trod hl a b h1 hb ?_
    obtain ⟨n, hn⟩ := h1
    exact DataW.trod_lt n t _ _ hn
  | [], [], _ :: _, _, _, h => h.elim
  | [], _ :: _, _, _, _, h => h.elim
  | _ :: _, [], _, _, _, h => h.elim
  | _ :: _, _ :: _, [], _, _, h => h.elim
/-- A law's row: what is to be shown behind the call. -/
theorem law_post {H : Type} {enc : TypeId × Value → H} {s : ChangeSpec} {fn : Func} {W' : World} {args : Array Value} {ds gs : List (DataW H)} {before : List MemPlace} {tb : TypeId} {fresh handsOn : Bool} (hl : laidOutB P = true)
    (hW : DataW.Whole enc P fn.params.toList s.vars false W args.toList ds gs before) (hv : s.vars = []) (hs : s.fn H ds = { results := [.lit (.bool true)], args := ds }) (hp : ∀ t ∈ fn.params.toList, P.readableRec t = true ∧ t < P.types.size)
    (hr : fn.resultTypes = #[tb]) (ht : P.underlying tb = some .bool) (hb : RowKit.Below W.heap.size W W') : s.post enc P fn false fresh handsOn false W args (.bool true) W' := by
  have hW' := hW
  obtain ⟨p, q, h1, h2, _, _, _⟩ := hW
  have hg : gs = [] := by
    rw [hv] at h2
    cases gs with
    | nil => rfl
    | cons => exact h2.elim
  subst hg
  refine ⟨ds, [], before, [], p, [], hW', ?_, ?_, ?_, hb.frame _, fun h => by cases h⟩
  · rw [List.append_nil, hs, hr]
    exact ⟨[], [], RowKit.shut_bool ht true, rfl, rfl⟩
  · rw [List.append_nil, hs]
    exact trodAll_stays hl hb hp h1
  · rw [List.append_nil, hs, hv]
    rfl
end
end Pat
end Go.Proofs.YthmcfphafofheaaDoor
