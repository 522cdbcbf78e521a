/- Programs as trees: what may be, as a plain law. No statement of the seat is proved in this file. -/
import Derived.Test.YthmcfphafofheaaDoorPatS
namespace Go.Proofs.YthmcfphafofheaaDoor
set_option linter.unusedVariables false
set_option linter.unusedSimpArgs false

structure Node where
  kind : Int
  n : Int
  k : Int
  size : Int
  str : List UInt8

def i64ok (n : Int) : Prop := -9223372036854775808 ≤ n ∧ n ≤ 9223372036854775807
/-- What a node of a machine may hold. -/
def Node.fit (x : Node) : Prop := (i64ok x.kind ∧ i64ok x.n ∧ i64ok x.k ∧ i64ok x.size) ∧ x.str.length ≤ 1000000000000
/-- The children of the first node, as they are cut out. -/
def kidsGo : Nat → List Node → List (List Node)
  | 0, _ => []
  | _ + 1, [] => []
  | n + 1, y :: r => if y.size < 1 ∨ (r.length + 1 : Int) < y.size then [] else (y :: r).take y.size.toNat :: kidsGo n ((y :: r).drop y.size.toNat)
def kids : List Node → List (List Node)
  | [] => []
  | x :: l => kidsGo x.k.toNat (l.take (x.size.toNat - 1))
theorem kidsGo_stop (n : Nat) : kidsGo n [] = [] := by cases n <;> rfl

/-! Trees -/
inductive T where
  | mk (kind n : Int) (str : List UInt8) (ks : List T)
def T.kind : T → Int | .mk k _ _ _ => k
def T.n : T → Int | .mk _ n _ _ => n
def T.str : T → List UInt8 | .mk _ _ s _ => s
def T.ks : T → List T | .mk _ _ _ ks => ks
mutual
def T.flat : T → List Node
  | .mk kind n str ks => ⟨kind, n, ks.length, (T.flats ks).length + 1, str⟩ :: T.flats ks
def T.flats : List T → List Node
  | [] => []
  | t :: ts => t.flat ++ T.flats ts
end
theorem T.flats_eq : ∀ ts : List T, T.flats ts = (ts.map T.flat).flatten
  | [] => rfl
  | t :: ts => by rw [T.flats, T.flats_eq ts]; rfl
theorem T.flats_append : ∀ ts us : List T, T.flats (ts ++ us) = T.flats ts ++ T.flats us := by
  intro ts us; rw [T.flats_eq, T.flats_eq, T.flats_eq, List.map_append, List.flatten_append]
theorem T.ind {P : T → Prop} (h : ∀ kind n str ks, (∀ t ∈ ks, P t) → P (.mk kind n str ks)) (t : T) : P t :=
  T.rec (motive_1 := P) (motive_2 := fun ks => ∀ t ∈ ks, P t) (fun kind n str ks ih => h kind n str ks ih) (fun t ht => by cases ht) (fun k ks h1 h2 t ht => by rcases List.mem_cons.1 ht with rfl | ht; exact h1; exact h2 t ht) t
theorem T.flat_len_pos (t : T) : 1 ≤ t.flat.length := by cases t; simp [T.flat]
theorem T.flat_ne (t : T) : t.flat ≠ [] := by cases t; simp [T.flat]
def T.head (t : T) : Node := ⟨t.kind, t.n, t.ks.length, t.flat.length, t.str⟩
theorem T.flat_eq (t : T) : t.flat = t.head :: T.flats t.ks := by cases t; simp [T.flat, T.head, T.kind, T.n, T.str, T.ks]
theorem T.flats_mem {t : T} : ∀ {ts : List T}, t ∈ ts → t.flat.length ≤ (T.flats ts).length
  | [], h => by cases h
  | u :: ts, h => by
    rw [T.flats, List.length_append]
    rcases List.mem_cons.1 h with rfl | h
    · omega
    · have := T.flats_mem h; omega
theorem T.kids_lt {t u : T} (h : u ∈ t.ks) : u.flat.length < t.flat.length := by
  rw [t.flat_eq, List.length_cons]; have := T.flats_mem h; omega
theorem T.flats_len_le : ∀ ts : List T, ts.length ≤ (T.flats ts).length
  | [] => by simp [T.flats]
  | t :: ts => by have h1 := T.flats_len_le ts; have h2 := t.flat_len_pos; simp [T.flats]; omega
theorem T.kids_len (t : T) : t.ks.length < t.flat.length := by
  rw [t.flat_eq, List.length_cons]; have := T.flats_len_le t.ks; omega
theorem kidsGo_flats : ∀ ts : List T, kidsGo ts.length (T.flats ts) = ts.map T.flat
  | [] => rfl
  | t :: ts => by
    have h1 := t.flat_eq
    have h3 : T.flats (t :: ts) = t.head :: (T.flats t.ks ++ T.flats ts) := by rw [T.flats, h1]; rfl
    have hs : t.head.size = t.flat.length := rfl
    have hp := t.flat_len_pos
    have hl : (T.flats (t :: ts)).length = t.flat.length + (T.flats ts).length := by rw [T.flats, List.length_append]
    rw [h3] at hl
    simp only [List.length_cons] at hl
    rw [List.length_cons, h3, kidsGo, if_neg (by rw [hs]; omega), ← h3, T.flats, hs]
    simp only [Int.toNat_natCast, List.take_left, List.drop_left, List.map_cons, kidsGo_flats ts]
/-- The children of a tree. -/
theorem kids_flat (t : T) : kids t.flat = t.ks.map T.flat := by
  rw [t.flat_eq, kids]
  have hs : t.head.size = t.flat.length := rfl
  have hl : t.flat.length = (T.flats t.ks).length + 1 := by rw [t.flat_eq]; rfl
  rw [hs, Int.toNat_natCast, hl, Nat.add_sub_cancel, List.take_length]
  exact kidsGo_flats t.ks
theorem kids_lt {l : List Node} {k : List Node} (h : k ∈ kids l) : k.length < l.length := by
  cases l with
  | nil => cases h
  | cons x l =>
    simp only [kids] at h
    have key : ∀ (n : Nat) (m : List Node), k ∈ kidsGo n m → k.length ≤ m.length := by
      intro n
      induction n with
      | zero => intro m hm; cases hm
      | succ n ih =>
        intro m hm
        cases m with
        | nil => cases hm
        | cons y r =>
          rw [kidsGo] at hm
          split at hm
          · cases hm
          · rcases List.mem_cons.1 hm with rfl | hm
            · exact List.length_take_le' _ _
            · exact Nat.le_trans (ih _ hm) (by simp)
    have := key _ _ h
    simp only [List.length_cons, List.length_take] at this ⊢
    omega

/-! What may be -/
def takesB (kind k cnt : Int) : Bool :=
  if kind ∈ [12, 23, 32, 24, 25, 26, 28, 27, 31] then false else if kind ∈ [29, 35, 33, 34] then decide (k = 0) else if kind = 30 then decide (k = 0) || decide (k.tmod 2 = 1) else if kind = 37 then decide (k < cnt - 1) else true
def childrenB (kind k : Int) : Bool :=
  if kind ∈ [1, 2, 20] then decide (k = 0) else if kind = 3 then decide (0 ≤ k) else if kind ∈ [4, 21, 37] then decide (1 ≤ k) else if kind ∈ [23, 32] then decide (2 ≤ k) else if kind = 24 then decide (k = 3)
  else if kind ∈ [25, 26, 28, 29, 35, 33, 34] then decide (k = 2) else if kind = 30 then decide (1 ≤ k) && decide (k.tmod 2 = 1) else decide (k = 1)
/-- The bytes of live text: it ends with a stroke that takes no life. -/
def openB : List UInt8 → Bool
  | [] => false
  | c :: r => if c = 92 then (match r with | [] => true | _ :: r => openB r) else openB r
structure Piece where
  c : UInt8
  dead : Bool
  at' : Nat
def piecesL : Nat → List UInt8 → List Piece × Bool
  | _, [] => ([], false)
  | i, c :: r => if c = 92 then (match r with | [] => ([⟨c, true, i⟩], true) | d :: r => (⟨d, true, i⟩ :: (piecesL (i + 2) r).1, (piecesL (i + 2) r).2)) else (⟨c, false, i⟩ :: (piecesL (i + 1) r).1, (piecesL (i + 1) r).2)
theorem piecesL_open : ∀ (i : Nat) (l : List UInt8), (piecesL i l).2 = openB l
  | _, [] => rfl
  | i, [c] => by
    by_cases h : c = 92 <;> simp [piecesL, openB, h]
  | i, c :: d :: r => by
    by_cases h : c = 92
    · simp only [piecesL, openB, h, if_true]; exact piecesL_open (i + 2) r
    · have := piecesL_open (i + 1) (d :: r)
      simp only [piecesL, openB, h, if_false] at this ⊢; exact this
theorem piecesL_live {c : UInt8} (h : c ≠ 92) (i : Nat) (r : List UInt8) : piecesL i (c :: r) = (⟨c, false, i⟩ :: (piecesL (i + 1) r).1, (piecesL (i + 1) r).2) := by cases r <;> simp [piecesL, h]
theorem openB_live {c : UInt8} (h : c ≠ 92) (r : List UInt8) : openB (c :: r) = openB r := by cases r <;> simp [openB, h]
def lowB (c : UInt8) : Bool := (97 ≤ c && c ≤ 122) || (65 ≤ c && c ≤ 90)
def beginsB (c : UInt8) : Bool := lowB c || c == 95
def goesOnB (c : UInt8) : Bool := beginsB c || (48 ≤ c && c ≤ 57)
def nameB (s : List UInt8) : Bool := decide (s.length ≤ 20) && (match s with | [] => false | c :: _ => beginsB c && s.all goesOnB)
def fieldsB (kind n : Int) (s : List UInt8) : Bool :=
  if kind = 1 then (decide (n = 0) || decide (n = 1) && !openB s) && decide (s.length ≤ 2000)
  else if kind = 11 then decide (1 ≤ n) && decide (n ≤ 99) && decide (s = [])
  else if kind = 33 then decide (1 ≤ n) && decide (n ≤ 3) && decide (s = [])
  else if n ≠ 0 then false
  else if kind = 2 then nameB s || decide (s = [42])
  else if kind ∈ [2, 22, 29, 31, 35] then nameB s
  else decide (s = [])
def kindB (word : Bool) (kind : Int) : Bool := if word then decide (1 ≤ kind ∧ kind ≤ 12) else decide (20 ≤ kind ∧ kind ≤ 37)
/-- Are there fewer children than are told? -/
def few : Nat → List Node → Bool
  | 0, _ => false
  | _ + 1, [] => true
  | n + 1, y :: r => if y.size < 1 ∨ (r.length + 1 : Int) < y.size then false else few n ((y :: r).drop y.size.toNat)
def kidsE (look : List Node → Int → Bool → Bool → Option (Int × Bool)) (kind cnt : Int) : Nat → Int → List Node → Int → Option (Int × Bool)
  | 0, _, _, _ => none
  | n + 1, k, rest, pos => match look rest pos (takesB kind k cnt) (decide (k = cnt - 1)) with
    | some e => some e
    | none => match rest with
      | [] => none
      | y :: r => kidsE look kind cnt n (k + 1) ((y :: r).drop y.size.toNat) (pos + y.size)
theorem kidsE_succ (look : List Node → Int → Bool → Bool → Option (Int × Bool)) (kind cnt : Int) (n : Nat) (k : Int) (rest : List Node) (pos : Int) : kidsE look kind cnt (n + 1) k rest pos = (match look rest pos (takesB kind k cnt) (decide (k = cnt - 1)) with
    | some e => some e
    | none => match rest with
      | [] => none
      | y :: r => kidsE look kind cnt n (k + 1) ((y :: r).drop y.size.toNat) (pos + y.size)) := rfl
/-- What is amiss: where; false: no node, true: nested too deep. -/
def lookE : Nat → List Node → Int → Bool → Bool → Option (Int × Bool)
  | _, [], _, _, _ => none
  | f, x :: r, pos, word, last =>
    if !kindB word x.kind || !fieldsB x.kind x.n x.str || !childrenB x.kind x.k || decide (x.size < 1) || decide ((r.length + 1 : Int) < x.size) || last && !decide (x.size = r.length + 1) then some (pos, false)
    else if x.k = 0 ∧ x.size ≠ 1 then some (pos, false)
    else if few x.k.toNat (r.take (x.size.toNat - 1)) then some (pos, false)
    else match f with
      | 0 => some (pos, true)
      | f + 1 => kidsE (lookE f) x.kind x.k x.k.toNat 0 (r.take (x.size.toNat - 1)) (pos + 1)

/-- A tree that may be. -/
def T.ok : Nat → Bool → T → Prop
  | 0, _, _ => False
  | f + 1, word, t => kindB word t.kind = true ∧ fieldsB t.kind t.n t.str = true ∧ childrenB t.kind t.ks.length = true ∧ ∀ (i : Nat) (u : T), t.ks[i]? = some u → T.ok f (takesB t.kind i t.ks.length) u

theorem few_flats : ∀ (ts : List T) (rest : List Node), few ts.length (T.flats ts ++ rest) = false
  | [], rest => rfl
  | t :: ts, rest => by
    have h1 := t.flat_eq
    have h3 : T.flats (t :: ts) ++ rest = t.head :: (T.flats t.ks ++ T.flats ts ++ rest) := by rw [T.flats, h1]; simp
    have hs : t.head.size = t.flat.length := rfl
    have hp := t.flat_len_pos
    have hl : (T.flats (t :: ts) ++ rest).length = t.flat.length + (T.flats ts).length + rest.length := by rw [T.flats]; simp; omega
    rw [h3] at hl
    simp only [List.length_cons] at hl
    rw [List.length_cons, h3, few, if_neg (by rw [hs]; omega), ← h3, T.flats, hs, List.append_assoc, Int.toNat_natCast, List.drop_left]
    exact few_flats ts rest
theorem T.flats_zero {ts : List T} (h : (T.flats ts).length = 0) : ts = [] := by
  cases ts with
  | nil => rfl
  | cons t ts =>
    have := t.flat_len_pos
    rw [T.flats, List.length_append] at h
    omega
/-- A tree that may be is looked at without a fault. -/
theorem T.ok_look : ∀ (f : Nat) (t : T) (word last : Bool) (pos : Int) (rest : List Node), T.ok f word t → (last = true → rest = []) → lookE f (t.flat ++ rest) pos word last = none
  | 0, t, word, last, pos, rest, h, _ => h.elim
  | f + 1, t, word, last, pos, rest, h, hl => by
    obtain ⟨h1, h2, h3, h4⟩ := h
    have hs : t.head.size = t.flat.length := rfl
    have hlen : t.flat.length = (T.flats t.ks).length + 1 := by rw [t.flat_eq]; rfl
    have e : t.flat ++ rest = t.head :: (T.flats t.ks ++ rest) := by rw [t.flat_eq]; rfl
    have e1 : t.head.kind = t.kind := rfl
    have e2 : t.head.n = t.n := rfl
    have e3 : t.head.str = t.str := rfl
    have e4 : t.head.k = t.ks.length := rfl
    have ht : (T.flats t.ks ++ rest).take (t.head.size.toNat - 1) = T.flats t.ks := by
      rw [hs, hlen, Int.toNat_natCast, Nat.add_sub_cancel, List.take_left]
    have hg : ∀ (i : Nat) (ts : List T) (p : Int), t.ks.drop i = ts → kidsE (lookE f) t.kind t.ks.length ts.length i (T.flats ts) p = none := by
      intro i ts
      induction ts generalizing i with
      | nil => intros; rfl
      | cons u ts ih =>
        intro p hd
        have hu : t.ks[i]? = some u := by
          have := congrArg (fun l => l[0]?) hd
          simpa using this
        have hi : i < t.ks.length := (List.getElem?_eq_some_iff.1 hu).1
        have hd' : t.ks.drop (i + 1) = ts := by
          have := congrArg List.tail hd
          simpa using this
        have hts : ts.length = t.ks.length - (i + 1) := by rw [← hd', List.length_drop]
        rw [List.length_cons, kidsE_succ]
        have hu1 := u.flat_eq
        have hu3 : T.flats (u :: ts) = u.head :: (T.flats u.ks ++ T.flats ts) := by rw [T.flats, hu1]; rfl
        have hok := T.ok_look f u (takesB t.kind i t.ks.length) (decide ((i : Int) = (t.ks.length : Int) - 1)) p (T.flats ts) (h4 i u hu) (fun hd => by
          have hd := of_decide_eq_true hd
          have : ts = [] := List.eq_nil_of_length_eq_zero (by omega)
          rw [this]; rfl)
        rw [show T.flats (u :: ts) = u.flat ++ T.flats ts from rfl, hok]
        have e : u.flat ++ T.flats ts = u.head :: (T.flats u.ks ++ T.flats ts) := by rw [u.flat_eq]; rfl
        have : (u.flat ++ T.flats ts).drop u.head.size.toNat = T.flats ts := by
          show (u.flat ++ T.flats ts).drop (u.flat.length : Int).toNat = T.flats ts
          rw [Int.toNat_natCast, List.drop_left]
        rw [e] at this ⊢
        simp only
        rw [this]
        exact ih (i + 1) _ hd'
    rw [e, lookE]
    have hc : (!kindB word t.head.kind || !fieldsB t.head.kind t.head.n t.head.str || !childrenB t.head.kind t.head.k || decide (t.head.size < 1) || decide (((T.flats t.ks ++ rest).length + 1 : Int) < t.head.size) || last && !decide (t.head.size = (T.flats t.ks ++ rest).length + 1)) = false := by
      rw [e1, e2, e3, e4, h1, h2, h3, hs, hlen]
      cases last with
      | false => simp; omega
      | true => rw [hl rfl]; simp; omega
    rw [hc, ht, e4, Int.toNat_natCast]
    simp only [Bool.false_eq_true, if_false]
    have hf := few_flats t.ks []
    rw [List.append_nil] at hf
    rw [if_neg, hf]
    · simp only [Bool.false_eq_true, if_false]
      exact hg 0 t.ks (pos + 1) (by simp)
    · intro ⟨h5, h6⟩
      have : t.ks = [] := List.eq_nil_of_length_eq_zero (by omega)
      rw [hs, hlen, this] at h6
      exact h6 rfl
/-- What is looked at without a fault is a tree. -/
theorem look_tree : ∀ (f : Nat) (seg : List Node) (pos : Int) (word last : Bool), seg ≠ [] → lookE f seg pos word last = none → ∃ (t : T) (rest : List Node), seg = t.flat ++ rest ∧ T.ok f word t ∧ (last = true → rest = []) := by
  intro f
  induction f with
  | zero =>
    intro seg pos word last hne h
    cases seg with
    | nil => exact absurd rfl hne
    | cons x r =>
      rw [lookE] at h
      split at h
      · cases h
      · split at h
        · cases h
        · split at h
          · cases h
          · cases h
  | succ f ih =>
    intro seg pos word last hne h
    cases seg with
    | nil => exact absurd rfl hne
    | cons x r =>
      rw [lookE] at h
      split at h
      · cases h
      rename_i hc
      split at h
      · cases h
      rename_i hz
      split at h
      · cases h
      rename_i hf
      simp only [Bool.or_eq_true, not_or, Bool.not_eq_true, Bool.not_eq_false', decide_eq_true_eq, decide_eq_false_iff_not, Bool.and_eq_false_iff, Bool.not_eq_true'] at hc
      obtain ⟨⟨⟨⟨⟨h1, h2⟩, h3⟩, h4⟩, h5⟩, h6⟩ := hc
      have key : ∀ (n : Nat) (k : Int) (rest : List Node) (p : Int), few n rest = false → (n : Int) = x.k - k → 0 ≤ k → kidsE (lookE f) x.kind x.k n k rest p = none → (0 < n ∨ rest = []) →
          ∃ ts : List T, rest = T.flats ts ∧ ts.length = n ∧ ∀ (i : Nat) (u : T), ts[i]? = some u → T.ok f (takesB x.kind (k + i) x.k) u := by
        intro n
        induction n with
        | zero =>
          intro k rest p _ _ _ _ hr
          rcases hr with hr | rfl
          · omega
          · exact ⟨[], rfl, rfl, fun i u hu => by simp at hu⟩
        | succ n ihn =>
          intro k rest p hfew hk hk0 hE _
          rw [kidsE_succ] at hE
          split at hE
          · cases hE
          rename_i hlook
          cases rest with
          | nil => rw [few] at hfew; cases hfew
          | cons y r' =>
            obtain ⟨t, rest', q1, q2, q3⟩ := ih (y :: r') p _ _ (by simp) hlook
            have hy : y = t.head := by
              have := congrArg List.head? q1
              rw [t.flat_eq] at this
              simpa using this
            have hys : y.size = t.flat.length := by rw [hy]; rfl
            have hd : (y :: r').drop y.size.toNat = rest' := by rw [hys, q1, Int.toNat_natCast, List.drop_left]
            simp only at hE
            rw [hd] at hE
            have hlen : (y :: r').length = t.flat.length + rest'.length := by rw [q1, List.length_append]
            have htp := t.flat_len_pos
            simp only [List.length_cons] at hlen
            rw [few, if_neg (by rw [hys]; omega), hd] at hfew
            obtain ⟨ts, r1, r2, r3⟩ := ihn (k + 1) rest' _ hfew (by omega) (by omega) hE (by
              rcases Nat.eq_zero_or_pos n with hn | hn
              · refine .inr (q3 ?_)
                simp only [decide_eq_true_eq]
                omega
              · exact .inl hn)
            refine ⟨t :: ts, by rw [q1, r1]; rfl, by simp [r2], fun i u hu => ?_⟩
            cases i with
            | zero =>
              simp at hu
              subst hu
              simpa using q2
            | succ i =>
              have := r3 i u (by simpa using hu)
              rw [show k + 1 + (i : Int) = k + (i + 1 : Nat) by omega] at this
              exact this
      have hxk : 0 ≤ x.k := by
        have h3 : childrenB x.kind x.k = true := by simpa using h3
        unfold childrenB at h3
        repeat' split at h3
        all_goals (simp only [Bool.and_eq_true, decide_eq_true_eq] at h3; omega)
      obtain ⟨ts, r1, r2, r3⟩ := key x.k.toNat 0 (r.take (x.size.toNat - 1)) (pos + 1) (by simpa using hf) (by omega) (by omega) h (by
        rcases Int.lt_or_le 0 x.k with hk | hk
        · exact .inl (by omega)
        · refine .inr ?_
          have : x.size = 1 := by
            have := fun e => hz ⟨(by omega : x.k = 0), e⟩
            exact Classical.byContradiction this
          rw [this]; rfl)
      have hlt : (T.flats ts).length = x.size.toNat - 1 := by
        rw [← r1, List.length_take]
        omega
      refine ⟨.mk x.kind x.n x.str ts, r.drop (x.size.toNat - 1), ?_, ⟨?_, ?_, ?_, ?_⟩, ?_⟩
      · rw [T.flat, List.cons_append, hlt, ← r1, List.take_append_drop]
        congr 1
        obtain ⟨a, b, c, d, e⟩ := x
        simp only [Node.mk.injEq, true_and, and_true] at r2 hlt h4 hxk ⊢
        constructor <;> omega
      · simpa [T.kind] using h1
      · simpa [T.kind, T.n, T.str] using h2
      · have : ((ts.length : Nat) : Int) = x.k := by omega
        simp only [T.kind, T.ks, this]
        simpa using h3
      · intro i u hu
        have hlen : ((ts.length : Nat) : Int) = x.k := by omega
        have := r3 i u hu
        simpa [T.kind, T.ks, hlen] using this
      · intro hl
        refine List.drop_of_length_le ?_
        rcases h6 with h6 | h6
        · rw [h6] at hl; cases hl
        · omega
end Go.Proofs.YthmcfphafofheaaDoor
