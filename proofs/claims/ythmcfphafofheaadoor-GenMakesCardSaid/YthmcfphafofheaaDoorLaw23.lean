/- Programs that are made code: what the laws' programs are. No statement of the seat is proved in this file. -/
import Derived.Test.YthmcfphafofheaaDoorCode3
import Derived.Test.YthmcfphafofheaaDoorCodeLaw23
open Go Go.Proofs
namespace Go.Proofs.YthmcfphafofheaaDoor
open Pat
set_option maxRecDepth 10000
set_option maxHeartbeats 1000000
set_option linter.unusedSimpArgs false
set_option linter.unusedVariables false
variable {gs : List Nat} {s : Nat → Addr} {σ : Hp} {K : AV → Hp → Prop}
theorem newL_flat (kind n : Int) (str : List UInt8) (ks : List T) : newL kind n str (ks.map T.flat) = (T.mk kind n str ks).flat := by
  rw [newL, T.flat, T.flats_eq, List.length_map]
theorem leaf_flat (kind n : Int) (str : List UInt8) : [(⟨kind, n, 0, 1, str⟩ : Node)] = (T.mk kind n str []).flat := by simp [T.flat, T.flats]
theorem T.ok_mk {f : Nat} {word : Bool} {kind n : Int} {str : List UInt8} {ks : List T} (h1 : kindB word kind = true) (h2 : fieldsB kind n str = true) (h3 : childrenB kind ks.length = true) (h4 : ∀ (i : Nat) (u : T), ks[i]? = some u → T.ok f (takesB kind i ks.length) u) : T.ok (f + 1) word (.mk kind n str ks) := ⟨h1, h2, h3, h4⟩
theorem kid0 {P : Nat → T → Prop} {a : T} (h : P 0 a) : ∀ (i : Nat) (u : T), [a][i]? = some u → P i u := by
  intro i u hu
  cases i with
  | zero => simp at hu; subst hu; exact h
  | succ i => simp at hu
theorem kid1 {P : Nat → T → Prop} {a b : T} (h : P 0 a) (h' : P 1 b) : ∀ (i : Nat) (u : T), [a, b][i]? = some u → P i u := by
  intro i u hu
  match i, hu with
  | 0, hu => simp at hu; subst hu; exact h
  | 1, hu => simp at hu; subst hu; exact h'
  | i + 2, hu => simp at hu
theorem kidn {P : Nat → T → Prop} : ∀ (i : Nat) (u : T), ([] : List T)[i]? = some u → P i u := by
  intro i u hu; simp at hu
theorem T.ok_fit : ∀ (t : T) {f : Nat} {word : Bool}, T.ok f word t → t.flat.length ≤ 1000000000 → ∀ x ∈ t.flat, x.fit := by
  intro t
  refine T.ind (P := fun t => ∀ {f : Nat} {word : Bool}, T.ok f word t → t.flat.length ≤ 1000000000 → ∀ x ∈ t.flat, x.fit) (fun kind n str ks ih => ?_) t
  intro f word hok hl x hx
  obtain ⟨p1, p2, p3⟩ := T.ok_parts hok
  have hkl := T.flats_len_le ks
  rw [T.flat, List.length_cons] at hl
  rw [T.flat] at hx
  rcases List.mem_cons.1 hx with rfl | hx
  · have hs := fieldsB_str p2
    have hk : 1 ≤ kind ∧ kind ≤ 37 := by
      cases word
      · have := of_decide_eq_true p1; simp only [T.kind] at this; omega
      · have := of_decide_eq_true p1; simp only [T.kind] at this; omega
    have hn : 0 ≤ n ∧ n ≤ 99 := by
      refine ⟨fieldsB_n p2, ?_⟩
      have p2 : fieldsB kind n str = true := p2
      unfold fieldsB at p2
      split at p2
      · simp only [Bool.and_eq_true, Bool.or_eq_true, decide_eq_true_eq] at p2
        rcases p2.1 with h | h <;> omega
      split at p2
      · simp only [Bool.and_eq_true, decide_eq_true_eq] at p2; omega
      split at p2
      · simp only [Bool.and_eq_true, decide_eq_true_eq] at p2; omega
      split at p2
      · cases p2
      · omega
    refine ⟨⟨⟨by dsimp only; omega, by dsimp only; omega⟩, ⟨by dsimp only; omega, by dsimp only; omega⟩, ⟨by dsimp only; omega, by dsimp only; omega⟩, ⟨by dsimp only; omega, by dsimp only; omega⟩⟩, ?_⟩
    simp only [T.str] at hs
    dsimp only; omega
  · rw [T.flats_eq] at hx
    obtain ⟨l, hl2, hx⟩ := List.mem_flatten.1 hx
    obtain ⟨u, hu, rfl⟩ := List.mem_map.1 hl2
    obtain ⟨i, hi⟩ := List.getElem?_of_mem hu
    obtain ⟨f', hf'⟩ := T.ok_kid (t := .mk kind n str ks) hok hi
    have := T.flats_mem hu
    exact ih u hu hf' (by omega) x hx
/-- What was made may be. -/
theorem nameOf_ne : ∀ i : Fin 42, 1 ≤ i.val → nameOf (i.val : Int) ≠ [] := by decide +kernel
theorem CodeOk.err {L : List Ins} {h : Int} (hc : CodeOk L h) : codeErr L h = .nilIface := by
  obtain ⟨c1, c2, c3, c4, x, c5, c6⟩ := hc
  have hmay : ∀ x ∈ L, mayB L.length x = true := by
    intro x hx
    obtain ⟨o1, o2, o3, o4, o5⟩ := c1 x hx
    have hn : nameOf x.op ≠ [] := by
      have := nameOf_ne ⟨x.op.toNat, by omega⟩ (by dsimp only; omega)
      dsimp only at this
      rwa [show ((x.op.toNat : Nat) : Int) = x.op by omega] at this
    have hp : (placesL x).any (outB L.length) = false := by
      rw [List.any_eq_false]
      intro k hk
      unfold placesL at hk
      unfold outB
      rcases List.mem_append.1 hk with hk | hk
      · split at hk
        · rename_i hm
          rw [List.mem_singleton.1 hk]
          have := o2 hm
          simp; omega
        · cases hk
      · split at hk
        · rename_i hm
          rw [List.mem_singleton.1 hk]
          have := o3 (by rcases hm with h | h <;> rw [h] <;> simp)
          simp; omega
        · cases hk
    have ha : (!decide (x.op ∈ [3, 4, 15, 38, 27]) || decide (0 ≤ x.a)) = true := by
      by_cases hm : x.op ∈ [3, 4, 15, 38, 27]
      · have := o4 hm; simp [this]
      · rw [decide_eq_false hm]; rfl
    unfold mayB
    rw [hp, ha, decide_eq_false hn, decide_eq_true o5]; rfl
  have hbad : ∀ (l : List Ins) (i : Nat), (∀ j y, l[j]? = some y → L[i + j]? = some y) → badAt L.length i l = none := by
    intro l
    induction l with
    | nil => intros; rfl
    | cons y l ih =>
      intro i hl
      have hy := hl 0 y rfl
      rw [Nat.add_zero] at hy
      have hb : badB L.length i y = false := by
        unfold badB
        rw [hmay y (List.mem_of_getElem? hy)]
        by_cases hi : i + 1 = L.length
        · have : L.length - 1 = i := by omega
          rw [this, hy] at c5
          cases c5
          simp [endsB, c6]
        · simp [hi]
      rw [badAt, hb, if_neg (by simp)]
      refine ih (i + 1) fun j z hz => ?_
      have := hl (j + 1) z (by simpa using hz)
      rwa [show i + 1 + j = i + (j + 1) by omega]
  unfold codeErr
  rw [if_neg (by rintro (h | h | h | h); rw [h] at c2; exact absurd c2 (by simp); all_goals omega), hbad L 0 fun j y hy => by simpa using hy]
end Go.Proofs.YthmcfphafofheaaDoor
