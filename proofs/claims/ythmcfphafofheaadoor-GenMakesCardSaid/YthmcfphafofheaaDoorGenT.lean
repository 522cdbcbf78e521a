/- How high the stack of lists stands, as a plain law. No statement of the seat is proved in this file. -/
import Derived.Test.YthmcfphafofheaaDoorTree
namespace Go.Proofs.YthmcfphafofheaaDoor
set_option linter.unusedVariables false
set_option linter.unusedSimpArgs false

def maxi : List Int → Int
  | [] => 0
  | a :: r => max a (maxi r)
theorem maxi_le {b : Int} : ∀ {l : List Int}, 0 ≤ b → (∀ x ∈ l, x ≤ b) → maxi l ≤ b
  | [], h0, _ => h0
  | a :: r, h0, h => by
    have h1 := h a (by simp)
    have h2 := maxi_le h0 (l := r) fun x hx => h x (by simp [hx])
    simp only [maxi]; omega
theorem le_maxi {x : Int} : ∀ {l : List Int}, x ∈ l → x ≤ maxi l
  | [], h => by cases h
  | a :: r, h => by
    rcases List.mem_cons.1 h with rfl | h
    · simp only [maxi]; omega
    · have := le_maxi h; simp only [maxi]; omega
theorem maxi_nonneg : ∀ l : List Int, 0 ≤ maxi l
  | [] => Int.le_refl 0
  | a :: r => by have := maxi_nonneg r; simp only [maxi]; omega
theorem maxi_append : ∀ l m : List Int, maxi (l ++ m) = max (maxi l) (maxi m)
  | [], m => by have := maxi_nonneg m; simp only [maxi, List.nil_append]; omega
  | a :: r, m => by simp only [maxi, List.cons_append, maxi_append r m]; omega

/-- Words put together as they go. -/
def togE : List Int → Int
  | [] => 0
  | a :: r => max a (maxi (r.map (· + 1)))
def altE : List Int → Int
  | p :: c :: r => max (p + 1) (max c (altE r))
  | _ => 0
def caseE : List Int → Int
  | [] => 0
  | a :: r => max a (altE r)
/-- How high the stack stands, by the kind of a node and its children. -/
def eOf (kind : Int) (es : List Int) : Int :=
  if kind = 1 ∨ kind = 2 then 1
  else if kind = 3 ∨ kind = 4 then max 1 (togE es)
  else if kind = 12 then max 1 (maxi es)
  else if kind = 21 then togE es
  else if kind = 30 then caseE es
  else if kind = 37 then max (togE es.dropLast) (maxi es.getLast?.toList)
  else maxi es
mutual
def T.e : T → Int
  | .mk kind _ _ ks => eOf kind (T.es ks)
def T.es : List T → List Int
  | [] => []
  | t :: ts => t.e :: T.es ts
end
theorem T.es_eq : ∀ ts : List T, T.es ts = ts.map T.e
  | [] => rfl
  | t :: ts => by rw [T.es, T.es_eq ts]; rfl
theorem T.e_mk (kind n : Int) (str : List UInt8) (ks : List T) : (T.mk kind n str ks).e = eOf kind (ks.map T.e) := by rw [T.e, T.es_eq]
theorem T.e_eq (t : T) : t.e = eOf t.kind (t.ks.map T.e) := by cases t; rw [T.e, T.es_eq]; rfl
/-- How many lists a tree needs at most. -/
def hAdd (kind : Int) (i n : Nat) : Int := if kind = 3 ∨ kind = 4 ∨ kind = 21 then i else if kind = 37 then (if (i : Int) < n - 1 then i else 0) else if kind = 30 then (if i % 2 = 1 then 1 else 0) else 0
def hAll (kind : Int) (n : Nat) : Nat → List Int → Int
  | _, [] => 0
  | i, h :: hs => max (h + hAdd kind i n) (hAll kind n (i + 1) hs)
def hOf (kind : Int) (hs : List Int) : Int :=
  if kind = 1 ∨ kind = 2 ∨ kind = 12 then max 1 (hAll kind hs.length 0 hs) else if kind = 3 ∧ hs = [] then 1 else hAll kind hs.length 0 hs
mutual
def T.h : T → Int
  | .mk kind _ _ ks => hOf kind (T.hs ks)
def T.hs : List T → List Int
  | [] => []
  | t :: ts => t.h :: T.hs ts
end
theorem T.hs_eq : ∀ ts : List T, T.hs ts = ts.map T.h
  | [] => rfl
  | t :: ts => by rw [T.hs, T.hs_eq ts]; rfl
theorem T.h_mk (kind n : Int) (str : List UInt8) (ks : List T) : (T.mk kind n str ks).h = hOf kind (ks.map T.h) := by rw [T.h, T.hs_eq]
theorem T.h_eq (t : T) : t.h = hOf t.kind (t.ks.map T.h) := by cases t; rw [T.h, T.hs_eq]; rfl
theorem hAll_nonneg (kind : Int) (n : Nat) : ∀ (i : Nat) (hs : List Int), 0 ≤ hAll kind n i hs
  | _, [] => Int.le_refl 0
  | i, h :: hs => by have := hAll_nonneg kind n (i + 1) hs; simp only [hAll]; omega
theorem hAdd_nonneg (kind : Int) (i n : Nat) : 0 ≤ hAdd kind i n ∧ hAdd kind i n ≤ i := by
  unfold hAdd
  repeat' split
  all_goals omega
theorem le_hAll {kind : Int} {n : Nat} : ∀ {i j : Nat} {hs : List Int} {x : Int}, hs[j]? = some x → x + hAdd kind (i + j) n ≤ hAll kind n i hs
  | i, j, [], x, h => by simp at h
  | i, 0, h :: hs, x, e => by simp at e; subst e; simp only [hAll, Nat.add_zero]; omega
  | i, j + 1, h :: hs, x, e => by
    have := le_hAll (kind := kind) (n := n) (i := i + 1) (j := j) (hs := hs) (x := x) (by simpa using e)
    rw [show i + 1 + j = i + (j + 1) by omega] at this
    simp only [hAll]; omega
theorem hAll_le {kind : Int} {n : Nat} {b : Int} (h0 : 0 ≤ b) : ∀ {i : Nat} {hs : List Int}, (∀ j x, hs[j]? = some x → x + hAdd kind (i + j) n ≤ b) → hAll kind n i hs ≤ b
  | i, [], h => h0
  | i, x :: hs, h => by
    have h1 := h 0 x rfl
    have h2 := hAll_le h0 (i := i + 1) (hs := hs) fun j y hy => by
      have := h (j + 1) y (by simpa using hy)
      rwa [show i + (j + 1) = i + 1 + j by omega] at this
    simp only [hAll, Nat.add_zero] at h1 ⊢; omega
theorem T.h_nonneg (t : T) : 0 ≤ t.h := by
  rw [t.h_eq, hOf]
  have := hAll_nonneg t.kind (t.ks.map T.h).length 0 (t.ks.map T.h)
  repeat' split
  all_goals omega
/-- It is no more than there are nodes. -/
theorem T.h_le (t : T) : t.h ≤ t.flat.length := by
  refine T.ind (P := fun t => t.h ≤ t.flat.length) (fun kind n str ks ih => ?_) t
  have hlen : (T.mk kind n str ks).flat.length = (T.flats ks).length + 1 := by rw [T.flat]; rfl
  have key : ∀ (i : Nat) (ts : List T), (∀ t ∈ ts, t.h ≤ t.flat.length) → ∀ (j : Nat) (x : Int), (ts.map T.h)[j]? = some x → x + j ≤ (T.flats ts).length := by
    intro i ts
    induction ts with
    | nil => intro _ j x hx; simp at hx
    | cons t ts ihs =>
      intro hts j x hx
      have hl : (T.flats (t :: ts)).length = t.flat.length + (T.flats ts).length := by rw [T.flats, List.length_append]
      cases j with
      | zero => simp at hx; subst hx; have := hts t (by simp); omega
      | succ j =>
        have := ihs (fun t h => hts t (by simp [h])) j x (by simpa using hx)
        have h1 := t.flat_len_pos
        omega
  have h1 : hAll kind (ks.map T.h).length 0 (ks.map T.h) ≤ (T.flats ks).length := hAll_le (by omega) fun j x hx => by
    have h2 := key 0 ks ih j x hx
    have h3 := hAdd_nonneg kind (0 + j) (ks.map T.h).length
    omega
  rw [T.h_mk, hOf, hlen]
  repeat' split
  all_goals omega
theorem togE_le {kind : Int} {n : Nat} {b : Int} (hb : 0 ≤ b) {es hs : List Int} (hle : ∀ (j : Nat) (x y : Int), es[j]? = some x → hs[j]? = some y → x ≤ y) (hl : es.length = hs.length) (ha : ∀ i, i < es.length → hAdd kind i n = i) (h : hAll kind n 0 hs ≤ b) : togE es ≤ b := by
  have key : ∀ (j : Nat) (x : Int), es[j]? = some x → x + j ≤ b := by
    intro j x hx
    have hj := (List.getElem?_eq_some_iff.1 hx).1
    obtain ⟨y, hy⟩ : ∃ y, hs[j]? = some y := ⟨hs[j]'(by omega), List.getElem?_eq_getElem _⟩
    have h1 := le_hAll (kind := kind) (n := n) (i := 0) hy
    have h2 := hle j x y hx hy
    rw [Nat.zero_add, ha j hj] at h1
    omega
  cases es with
  | nil => exact hb
  | cons a r =>
    have h1 := key 0 a rfl
    have h2 : maxi (r.map (· + 1)) ≤ b := maxi_le hb fun x hx => by
      obtain ⟨y, hy, rfl⟩ := List.mem_map.1 hx
      obtain ⟨j, hj⟩ := List.getElem?_of_mem hy
      have := key (j + 1) y (by simpa using hj)
      omega
    simp only [togE]; omega
theorem T.e_nonneg (t : T) : 0 ≤ t.e := by
  refine T.ind (P := fun t => 0 ≤ t.e) (fun kind n str ks ih => ?_) t
  rw [T.e_mk]
  have hm := maxi_nonneg (ks.map T.e)
  have tog : ∀ l : List Int, (∀ x ∈ l, 0 ≤ x) → 0 ≤ togE l := by
    intro l hl
    cases l with
    | nil => exact Int.le_refl 0
    | cons a r => have := hl a (by simp); simp only [togE]; omega
  have hall : ∀ x ∈ ks.map T.e, 0 ≤ x := by
    intro x hx; obtain ⟨t, ht, rfl⟩ := List.mem_map.1 hx; exact ih t ht
  have h1 := tog _ hall
  have h2 : 0 ≤ togE (ks.map T.e).dropLast := tog _ fun x hx => hall x (List.dropLast_subset _ hx)
  have h3 : 0 ≤ caseE (ks.map T.e) := by
    cases hk : ks.map T.e with
    | nil => exact Int.le_refl 0
    | cons a r => have := hall a (by simp [hk]); simp only [caseE]; omega
  unfold eOf
  repeat' split
  all_goals omega
theorem T.h_word (t : T) {f : Nat} (h : T.ok f true t) : 1 ≤ t.h := by
  revert f
  refine T.ind (P := fun t => ∀ {f}, T.ok f true t → 1 ≤ t.h) (fun kind n str ks ih => ?_) t
  intro f hok
  cases f with
  | zero => exact hok.elim
  | succ f =>
    obtain ⟨h1, h2, h3, h4⟩ := hok
    simp only [T.kind, T.ks, kindB, if_true, decide_eq_true_eq] at h1 h3 h4
    have h1 := of_decide_eq_true h1
    rw [T.h_mk, hOf]
    by_cases hk : kind = 1 ∨ kind = 2 ∨ kind = 12
    · rw [if_pos hk]; omega
    · rw [if_neg hk]
      by_cases hc : kind = 3 ∧ ks.map T.h = []
      · rw [if_pos hc]; exact Int.le_refl 1
      · rw [if_neg hc]
        cases ks with
        | nil =>
          exfalso
          have hk3 : kind ≠ 3 := fun e => hc ⟨e, rfl⟩
          have : kind = 4 ∨ kind = 5 ∨ kind = 6 ∨ kind = 7 ∨ kind = 8 ∨ kind = 9 ∨ kind = 10 ∨ kind = 11 := by omega
          rcases this with rfl | rfl | rfl | rfl | rfl | rfl | rfl | rfl <;> revert h3 <;> decide
        | cons u us =>
          have hu := h4 0 u rfl
          have ht : takesB kind (0 : Nat) ((u :: us).length : Nat) = true := by
            have : kind = 3 ∨ kind = 4 ∨ kind = 5 ∨ kind = 6 ∨ kind = 7 ∨ kind = 8 ∨ kind = 9 ∨ kind = 10 ∨ kind = 11 := by omega
            unfold takesB
            rcases this with rfl | rfl | rfl | rfl | rfl | rfl | rfl | rfl | rfl <;> simp
          rw [ht] at hu
          have h5 := ih u (by simp) hu
          have h6 := le_hAll (kind := kind) (n := ((u :: us).map T.h).length) (i := 0) (j := 0) (hs := (u :: us).map T.h) (x := u.h) rfl
          have h7 := hAdd_nonneg kind (0 + 0) ((u :: us).map T.h).length
          omega
theorem maxi_hAll {kind : Int} {n : Nat} {es hs : List Int} (hle : ∀ (j : Nat) (x y : Int), es[j]? = some x → hs[j]? = some y → x ≤ y) (hl : es.length = hs.length) : maxi es ≤ hAll kind n 0 hs := by
  refine maxi_le (hAll_nonneg _ _ _ _) fun x hx => ?_
  obtain ⟨j, hj⟩ := List.getElem?_of_mem hx
  have hj' := (List.getElem?_eq_some_iff.1 hj).1
  obtain ⟨y, hy⟩ : ∃ y, hs[j]? = some y := ⟨hs[j]'(by omega), List.getElem?_eq_getElem _⟩
  have h1 := le_hAll (kind := kind) (n := n) (i := 0) hy
  have h2 := hle j x y hj hy
  have h3 := hAdd_nonneg kind (0 + j) n
  omega
theorem altE_le {b : Int} (hb : 0 ≤ b) : ∀ {es : List Int}, (∀ (j : Nat) (x : Int), es[j]? = some x → x + (if j % 2 = 0 then 1 else 0) ≤ b) → altE es ≤ b
  | [], h => hb
  | [_], h => hb
  | p :: c :: r, h => by
    have h1 := h 0 p rfl
    have h2 := h 1 c rfl
    have h3 := altE_le hb (es := r) fun j x hx => by
      have := h (j + 2) x (by simpa using hx)
      rwa [show (j + 2) % 2 = j % 2 by omega] at this
    simp only [altE] at h1 h2 ⊢
    simp at h1 h2
    omega
/-- What is asked for is no more than what is told. -/
theorem T.e_le (t : T) : ∀ {f : Nat} {word : Bool}, T.ok f word t → t.e ≤ t.h := by
  refine T.ind (P := fun t => ∀ {f : Nat} {word : Bool}, T.ok f word t → t.e ≤ t.h) (fun kind n str ks ih => ?_) t
  intro f word hok
  cases f with
  | zero => exact hok.elim
  | succ f =>
    have hok' := hok
    obtain ⟨h1, h2, h3, h4⟩ := hok
    simp only [T.kind, T.ks] at h1 h3 h4
    have hl : (ks.map T.e).length = (ks.map T.h).length := by simp
    have hle : ∀ (j : Nat) (x y : Int), (ks.map T.e)[j]? = some x → (ks.map T.h)[j]? = some y → x ≤ y := by
      intro j x y hx hy
      rw [List.getElem?_map] at hx hy
      obtain ⟨u, hu, rfl⟩ := Option.map_eq_some_iff.1 hx
      rw [hu] at hy
      simp at hy
      subst hy
      exact ih u (List.mem_of_getElem? hu) (h4 j u hu)
    have h0 := fun k n => hAll_nonneg k n 0 (ks.map T.h)
    have hw : kind = 3 ∨ kind = 4 → 1 ≤ (T.mk kind n str ks).h := fun hk => by
      cases word with
      | true => exact T.h_word _ hok'
      | false =>
        simp only [kindB, Bool.false_eq_true, if_false] at h1
        have h1 := of_decide_eq_true h1
        omega
    rw [T.h_mk, hOf] at hw ⊢
    rw [T.e_mk, eOf]
    generalize hes : ks.map T.e = es at *
    generalize hhs : ks.map T.h = hs at *
    by_cases k1 : kind = 1 ∨ kind = 2
    · rw [if_pos k1, if_pos (by omega)]; omega
    rw [if_neg k1]
    by_cases k3 : kind = 3 ∨ kind = 4
    · rw [if_pos k3]
      rw [if_neg (by omega)] at hw ⊢
      have hw := hw k3
      by_cases kn : kind = 3 ∧ hs = []
      · rw [if_pos kn] at hw ⊢
        have : es = [] := List.eq_nil_of_length_eq_zero (by rw [hl, kn.2]; rfl)
        subst this
        simp only [togE]; omega
      · rw [if_neg kn] at hw ⊢
        have := togE_le (kind := kind) (n := hs.length) (h0 _ _) hle hl (fun i hi => by unfold hAdd; rw [if_pos (by omega)]) (Int.le_refl _)
        omega
    rw [if_neg k3]
    by_cases k12 : kind = 12
    · rw [if_pos k12, if_pos (by omega)]
      have := maxi_hAll (kind := kind) (n := hs.length) hle hl
      omega
    rw [if_neg k12, if_neg (show ¬(kind = 1 ∨ kind = 2 ∨ kind = 12) by omega), if_neg (show ¬(kind = 3 ∧ hs = []) from fun h => k3 (.inl h.1))]
    by_cases k21 : kind = 21
    · rw [if_pos k21]
      exact togE_le (kind := kind) (n := hs.length) (h0 _ _) hle hl (fun i hi => by unfold hAdd; rw [if_pos (by omega)]) (Int.le_refl _)
    rw [if_neg k21]
    by_cases k30 : kind = 30
    · rw [if_pos k30]
      have key : ∀ (j : Nat) (x : Int), es[j]? = some x → x + (if j % 2 = 1 then 1 else 0) ≤ hAll kind hs.length 0 hs := by
        intro j x hx
        have hj := (List.getElem?_eq_some_iff.1 hx).1
        obtain ⟨y, hy⟩ : ∃ y, hs[j]? = some y := ⟨hs[j]'(by omega), List.getElem?_eq_getElem _⟩
        have q1 := le_hAll (kind := kind) (n := hs.length) (i := 0) hy
        have q2 := hle j x y hx hy
        have q3 : hAdd kind (0 + j) hs.length = if j % 2 = 1 then 1 else 0 := by
          unfold hAdd; rw [if_neg (by omega), if_neg (by omega), if_pos k30, Nat.zero_add]
        omega
      cases es with
      | nil => exact h0 _ _
      | cons a r =>
        have q1 := key 0 a rfl
        have q2 := altE_le (h0 kind hs.length) (es := r) fun j x hx => by
          have := key (j + 1) x (by simpa using hx)
          by_cases hj : j % 2 = 0
          · rw [if_pos hj]; rw [if_pos (by omega)] at this; exact this
          · rw [if_neg hj]; rw [if_neg (by omega)] at this; exact this
        simp only [caseE]
        simp at q1
        omega
    rw [if_neg k30]
    by_cases k37 : kind = 37
    · rw [if_pos k37]
      have q1 : maxi es.getLast?.toList ≤ hAll kind hs.length 0 hs := by
        refine Int.le_trans (maxi_le (maxi_nonneg es) fun x hx => ?_) (maxi_hAll (kind := kind) (n := hs.length) hle hl)
        exact le_maxi (List.mem_of_getLast? (by simpa using hx))
      have q2 : togE es.dropLast ≤ hAll kind hs.length 0 hs := by
        have key : ∀ (j : Nat) (x : Int), es.dropLast[j]? = some x → x + j ≤ hAll kind hs.length 0 hs := by
          intro j x hx
          have hj := (List.getElem?_eq_some_iff.1 hx).1
          rw [List.length_dropLast] at hj
          rw [List.getElem?_dropLast, if_pos hj] at hx
          obtain ⟨y, hy⟩ : ∃ y, hs[j]? = some y := ⟨hs[j]'(by omega), List.getElem?_eq_getElem _⟩
          have q1 := le_hAll (kind := kind) (n := hs.length) (i := 0) hy
          have q2 := hle j x y hx hy
          have q3 : hAdd kind (0 + j) hs.length = j := by
            unfold hAdd; rw [if_neg (by omega), if_pos k37, if_pos (by omega)]; omega
          omega
        cases hd : es.dropLast with
        | nil => exact h0 _ _
        | cons a r =>
          rw [hd] at key
          have h1 := key 0 a rfl
          have h2 : maxi (r.map (· + 1)) ≤ hAll kind hs.length 0 hs := maxi_le (h0 _ _) fun x hx => by
            obtain ⟨y, hy, rfl⟩ := List.mem_map.1 hx
            obtain ⟨j, hj⟩ := List.getElem?_of_mem hy
            have := key (j + 1) y (by simpa using hj)
            omega
          simp only [togE]; omega
      omega
    rw [if_neg k37]
    exact maxi_hAll hle hl
end Go.Proofs.YthmcfphafofheaaDoor
