/- The abstract machine: the sentinels, out of what is laid. No statement of the seat is proved in this file. -/
import Derived.Test.YthmcfphafofheaaDoorPatV
import Derived.WideShapes
namespace Go.Proofs.YthmcfphafofheaaDoor
namespace Pat
set_option linter.unusedVariables false
set_option linter.unusedSimpArgs false

section
variable {P : Program} {W : World}
theorem mapM_cells {b : Nat} {a : Addr} {n : Nat} {cs : List Value} (h : W.cells? b a n = some cs) (hn : 0 < n) : ∃ v, W.cell? a = some v := by
  unfold World.cells? at h
  split at h
  · have := mapM_some_get h 0 0 (by rw [List.getElem?_range hn])
    have hl : cs.length = n := by simpa using mapM_some_length h
    rw [List.getElem?_eq_getElem (by omega)] at this
    simp only [Addr.add, if_true] at this
    exact ⟨_, this⟩
  · cases h
theorem spot_of_cell {a : Addr} {v : Value} (h : W.cell? a = some v) : a.spot = none ∧ ∃ c e f, W.heap[a.block]? = some (.cells c e f) ∧ a.off < c.size := by
  unfold World.cell? at h
  split at h
  · rename_i c e f hh
    cases hs : a.spot with
    | none =>
      rw [hs] at h
      simp only [Option.isSome_none, Bool.false_eq_true, if_false] at h
      exact ⟨rfl, c, e, f, hh, (Array.getElem?_eq_some_iff.1 h).1⟩
    | some k => rw [hs] at h; simp at h
  · cases h
/-- One listed sentinel. -/
theorem laid_one {nm : String} {xs : List (DataW Unit)} {u e t : TypeId} {ms : Array (String × TypeId)} (hu : ∀ u', P.typeName? 3 u' = some nm → u' = u) (hp : P.underlying u = some (.pointer e)) (hc : 0 < P.cellsOf e) (ht : P.underlying t = some (.interface ms))
    {fuel : Nat} {cs : List Value} {p : List MemPlace} (hok : ∀ u v, cs = [.iface u v] → Value.okWide P W .any 0 u v) (h : DataW.trod (fun _ => ()) P W 0 (fun _ => true) false fuel t cs = some (.iface nm (.ptr (.agg xs)), p)) :
    ∃ a, cs = [.iface u (.pointer (some a))] ∧ a.spot = none ∧ (∃ c e f, W.heap[a.block]? = some (.cells c e f) ∧ a.off < c.size) ∧ ∃ r, p = .cell a.block a.off :: r := by
  cases fuel with
  | zero => simp [DataW.trod] at h
  | succ n =>
    unfold DataW.trod at h
    rw [ht] at h
    split at h <;> try (simp_all; done)
    rename_i ms' u' v e2
    cases hn : P.typeName? 3 u' with
    | none => rw [hn] at h; simp at h
    | some name =>
      rw [hn] at h
      simp only [Option.map_eq_some_iff] at h
      obtain ⟨y, hy, hy2⟩ := h
      obtain ⟨y1, y2⟩ := y
      simp only [Prod.mk.injEq, DataW.iface.injEq] at hy2
      obtain ⟨⟨rfl, rfl⟩, rfl⟩ := hy2
      obtain rfl := hu u' hn
      obtain ⟨a0, rfl⟩ := WideShapes.okWide_pointer hp (hok _ _ rfl)
      rcases DataW.trod_pointer hp hy with ⟨_, hx⟩ | ⟨a, cs', z, m, _, h2, h3, h4, h5⟩
      · cases hx
      · simp only [Value.cells, List.cons.injEq, and_true, Value.pointer.injEq] at h2
        subst h2
        obtain ⟨v, hv⟩ := mapM_cells h4 hc
        obtain ⟨k1, k2⟩ := spot_of_cell hv
        refine ⟨a, rfl, k1, k2, ?_⟩
        simp only [Prod.mk.injEq] at h3
        obtain ⟨m', hm'⟩ : ∃ m', P.cellsOf e = m' + 1 := ⟨P.cellsOf e - 1, by omega⟩
        rw [h3.2, hm', MemPlace.row, List.range_succ_eq_map]
        simp only [List.map_cons, Nat.add_zero, List.cons_append]
        exact ⟨_, rfl⟩

/-- What is listed, one behind the other. -/
def Sents (P : Program) (W : World) (u : TypeId) : List (Nat × Addr) → Prop
  | [] => True
  | (g, a) :: r => W.cell? ⟨g, 0, none⟩ = some (.iface u (.pointer (some a))) ∧ a.spot = none ∧ (∃ c e f, W.heap[a.block]? = some (.cells c e f) ∧ a.off < c.size) ∧ Sents P W u r
theorem laid_all {nm : String} {u e : TypeId} (hu : ∀ u', P.typeName? 3 u' = some nm → u' = u) (hp : P.underlying u = some (.pointer e)) (hc : 0 < P.cellsOf e) : ∀ (laid : List (String × DataW Unit)) (gs : List Nat) (ps : List MemPlace),
    laid.map (fun x => P.globalNamed x.1) = gs.map some → (∀ g ∈ gs, ∃ t ms, (P.globals[g]?).map (·.type) = some t ∧ P.underlying t = some (.interface ms)) → (∀ x ∈ laid, ∃ xs, x.2 = .iface nm (.ptr (.agg xs))) →
    DataW.LaidVars P W laid ps → (∀ b off, MemPlace.cell b off ∈ ps → ∀ u v, W.cell? ⟨b, off, none⟩ = some (.iface u v) → Value.okWide P W .any 0 u v) →
    ∃ as : List (Nat × Addr), as.map (·.1) = gs ∧ Sents P W u as ∧ (as.map fun x => MemPlace.cell x.2.block x.2.off).Sublist ps
  | [], gs, ps, hg, _, _, h, _ => by
    cases gs with
    | nil => exact ⟨[], rfl, trivial, by simp⟩
    | cons => simp at hg
  | (n, d) :: laid, gs, ps, hg, hgt, hd, h, hok => by
    cases gs with
    | nil => simp at hg
    | cons g gs =>
      simp only [List.map_cons, List.cons.injEq] at hg
      obtain ⟨hg1, hg2⟩ := hg
      obtain ⟨g', t, cs, fuel, p, q, l1, l2, l3, l4, l5, rfl⟩ := h
      rw [hg1] at l1
      cases l1
      obtain ⟨t', ms, m1, m2⟩ := hgt g (by simp)
      rw [m1] at l2
      cases l2
      obtain ⟨xs, hxs⟩ := hd (n, d) (by simp)
      simp only at hxs
      subst hxs
      have hcell : ∀ x, cs.toList = [x] → W.cell? ⟨g, 0, none⟩ = some x ∧ MemPlace.cell g 0 ∈ MemPlace.row ⟨g, 0, none⟩ cs.size := by
        intro x hx
        have hsz : cs.size = 1 := by have := congrArg List.length hx; simpa using this
        simp only [World.var?, hg1, Option.bind_some] at l3
        split at l3
        · rename_i c _ _ hh
          cases l3
          refine ⟨?_, ?_⟩
          · simp only [World.cell?, hh]
            have := congrArg (fun l => l[0]?) hx
            simpa using this
          · rw [hsz]; simp [MemPlace.row]
        · cases l3
      obtain ⟨a, a1, a2, a3, r, a4⟩ := laid_one hu hp hc m2 (fun u v e => by
        obtain ⟨k1, k2⟩ := hcell _ e
        exact hok g 0 (by simp [k2]) u v k1) l4
      obtain ⟨as, b1, b2, b3⟩ := laid_all hu hp hc laid gs q hg2 (fun g h => hgt g (by simp [h])) (fun x h => hd x (by simp [h])) l5 (fun b off h => hok b off (by simp [h]))
      refine ⟨(g, a) :: as, by simp [b1], ⟨(hcell _ a1).1, a2, a3, b2⟩, ?_⟩
      rw [a4, List.append_assoc]
      refine List.Sublist.trans ?_ (List.sublist_append_right _ _)
      simp only [List.map_cons, List.cons_append]
      exact (b3.trans (List.sublist_append_right _ _)).cons_cons _

theorem Sents.get {u : TypeId} : ∀ {as : List (Nat × Addr)}, Sents P W u as → ∀ x ∈ as, W.cell? ⟨x.1, 0, none⟩ = some (.iface u (.pointer (some x.2))) ∧ x.2.spot = none ∧ ∃ c e f, W.heap[x.2.block]? = some (.cells c e f) ∧ x.2.off < c.size
  | [], _, x, hx => by cases hx
  | (g, a) :: as, h, x, hx => by
    rcases List.mem_cons.1 hx with rfl | hx
    · exact ⟨h.1, h.2.1, h.2.2.1⟩
    · exact Sents.get h.2.2.2 x hx
theorem mem_lookup : ∀ {as : List (Nat × Addr)} {g : Nat}, g ∈ as.map (·.1) → ∃ a, as.lookup g = some a ∧ (g, a) ∈ as
  | [], g, h => by cases h
  | (k, a) :: as, g, h => by
    by_cases hk : g = k
    · subst hk; exact ⟨a, by simp [List.lookup], by simp⟩
    · obtain ⟨b, h1, h2⟩ := mem_lookup (as := as) (g := g) (by simpa [hk] using h)
      exact ⟨b, by simp [List.lookup, beq_false_of_ne hk, h1], by simp [h2]⟩
/-- THE SENTINELS: where they lie, and that the empty heap fits the world. -/
theorem laid_rel {P : Program} {nm : String} {u e : TypeId} {gs : List Nat} {laid : List (String × DataW Unit)} {E : (Nat → Addr) → Env} (hE : ∀ A, (E A).P = P ∧ (E A).A = A ∧ ∀ g, (E A).G g = if g ∈ gs then some u else none)
    (hu : ∀ u', P.typeName? 3 u' = some nm → u' = u) (hp : P.underlying u = some (.pointer e)) (hc : 0 < P.cellsOf e) (hg : laid.map (fun x => P.globalNamed x.1) = gs.map some)
    (hgt : ∀ g ∈ gs, ∃ t ms, (P.globals[g]?).map (·.type) = some t ∧ P.underlying t = some (.interface ms)) (hd : ∀ x ∈ laid, ∃ xs, x.2 = .iface nm (.ptr (.agg xs))) (h : laidMet P laid W) : ∃ A, HRel (E A) noHp W := by
  obtain ⟨ps, h1, h2, h3⟩ := h
  obtain ⟨as, b1, b2, b3⟩ := laid_all hu hp hc laid gs ps hg hgt hd h1 fun b off hm => (h3 b off hm).2
  have hnd : (as.map fun x => MemPlace.cell x.2.block x.2.off).Nodup := b3.nodup h2
  refine ⟨fun g => (as.lookup g).getD ⟨0, 0, none⟩, ?_⟩
  obtain ⟨e1, e2, e3⟩ := hE fun g => (as.lookup g).getD ⟨0, 0, none⟩
  generalize E (fun g => (as.lookup g).getD ⟨0, 0, none⟩) = E0 at e1 e2 e3 ⊢
  have hin : ∀ g t, E0.G g = some t → t = u ∧ ∃ a, as.lookup g = some a ∧ (g, a) ∈ as := by
    intro g t hG
    rw [e3] at hG
    split at hG
    · rename_i hm
      cases hG
      exact ⟨rfl, mem_lookup (by rw [b1]; exact hm)⟩
    · cases hG
  constructor
  · intro b x hx; cases hx
  · intro g t hG
    obtain ⟨rfl, a, a1, a2⟩ := hin g t hG
    obtain ⟨k1, k2, c, e', f, k3, k4⟩ := b2.get _ a2
    have hA : E0.A g = a := by rw [e2]; simp [a1]
    rw [hA]
    refine ⟨rfl, k1, rfl, c, e', ?_, by omega⟩
    have hmem : MemPlace.cell a.block a.off ∈ ps := b3.subset (List.mem_map.2 ⟨(g, a), a2, rfl⟩)
    obtain ⟨⟨c', t', q⟩, _⟩ := h3 _ _ hmem
    rw [q] at k3
    cases k3
    exact q
  · intro g g' t t' hG hG' hne
    obtain ⟨_, a, a1, a2⟩ := hin g t hG
    obtain ⟨_, a', a1', a2'⟩ := hin g' t' hG'
    have hA : E0.A g = a := by rw [e2]; simp [a1]
    have hA' : E0.A g' = a' := by rw [e2]; simp [a1']
    rw [hA, hA']
    intro heq
    subst heq
    obtain ⟨i, hi⟩ := List.getElem?_of_mem a2
    obtain ⟨j, hj⟩ := List.getElem?_of_mem a2'
    have hij : i ≠ j := fun e => by
      subst e; rw [hi] at hj; cases hj; exact hne rfl
    have hi' := (List.getElem?_eq_some_iff.1 hi)
    have hj' := (List.getElem?_eq_some_iff.1 hj)
    have := (List.getElem?_inj (l := as.map fun x => MemPlace.cell x.2.block x.2.off) (i := i) (j := j) (by simpa using hi'.1) hnd).1 (by simp [List.getElem?_map, hi, hj])
    exact hij this
end
end Pat
end Go.Proofs.YthmcfphafofheaaDoor
