/- What a program that is handed in stands for. No statement of the seat is proved in this file. -/
import Derived.Test.YthmcfphafofheaaDoorFrame
import Derived.Test.YthmcfphafofheaaDoorCore1
open Go Go.Proofs
namespace Go.Proofs.YthmcfphafofheaaDoor
open Pat
set_option maxRecDepth 100000
/-- What a node that is handed in may hold. -/
def Node.fitL (x : Node) : Prop := (i64ok x.kind ∧ i64ok x.n ∧ i64ok x.k ∧ i64ok x.size) ∧ x.str.length ≤ 140737488355328
theorem elem_node {A : Nat → Addr} {W : World} : Elem Tryd.prog A W 40 5 Node.av Node.fitL := by
  intro H enc fuel cs d ps h hw hn
  obtain ⟨xs, m, rfl, hx, hl, hlen, hf⟩ := DataW.trod_struct Tryd.underlying40 h
  simp only [Prod.mk.injEq] at hx
  obtain ⟨rfl, rfl⟩ := hx
  have hi : Tryd.prog.cellsOf 3 = 1 := by kernel_rfl
  have hs : Tryd.prog.cellsOf 9 = 1 := by kernel_rfl
  have hwe : (DataW.weightsEach Tryd.prog [3, 3, 3, 3, 9] (xs.map (·.1))).all (· ≤ reachBytes) = true := by
    have := hw
    unfold DataW.weights at this
    rw [Tryd.underlying40] at this
    exact this
  have getI : ∀ (i : Nat) (f : Field), i < 4 → (#[{ name := "Kind", type := 3, offset := 0, embedded := false, tag := "", pkgPath := "", byteOffset := 0 }, { name := "N", type := 3, offset := 1, embedded := false, tag := "", pkgPath := "", byteOffset := 8 }, { name := "K", type := 3, offset := 2, embedded := false, tag := "", pkgPath := "", byteOffset := 16 }, { name := "Size", type := 3, offset := 3, embedded := false, tag := "", pkgPath := "", byteOffset := 24 }, { name := "S", type := 9, offset := 4, embedded := false, tag := "", pkgPath := "", byteOffset := 32 }] : Array Field)[i]? = some f → f.type = 3 → f.offset < 5 →
      ∃ n : Int, i64ok n ∧ ∃ v, cs[f.offset]? = some v ∧ Rep A noHp W v (.int .i64 n) := by
    intro i f hi4 hfi ht ho
    obtain ⟨v, x, h1, h2, h3⟩ := field_cell hn hlen hf i f hfi ho (by rw [ht]; exact hi)
    rw [ht] at h3
    obtain ⟨n, n1, _, n3⟩ := Elem.int (P := Tryd.prog) (A := A) (W := W) .i64 Tryd.underlying3 enc m [v] x.1 x.2 h3 (by
      refine weightsEach_get hwe i 3 x.1 ?_ (by rw [List.getElem?_map, h2]; rfl)
      match i, hi4 with | 0, _ => rfl | 1, _ => rfl | 2, _ => rfl | 3, _ => rfl) rfl
    exact ⟨n, bounds_i64 n1, v, h1, n3 0 v _ rfl rfl⟩
  obtain ⟨n0, a0, v0, b0, c0⟩ := getI 0 _ (by omega) rfl rfl (by decide)
  obtain ⟨n1, a1, v1, b1, c1⟩ := getI 1 _ (by omega) rfl rfl (by decide)
  obtain ⟨n2, a2, v2, b2, c2⟩ := getI 2 _ (by omega) rfl rfl (by decide)
  obtain ⟨n3, a3, v3, b3, c3⟩ := getI 3 _ (by omega) rfl rfl (by decide)
  obtain ⟨v4, x4, h1, h2, h3⟩ := field_cell hn hlen hf 4 _ rfl (by decide) hs
  obtain ⟨st, s1, _, s3⟩ := Elem.str (P := Tryd.prog) (A := A) (W := W) Tryd.underlying9 enc m [v4] x4.1 x4.2 h3 (weightsEach_get hwe 4 9 x4.1 rfl (by rw [List.getElem?_map, h2]; rfl)) rfl
  have b0 : cs[0]? = some v0 := b0
  have b1 : cs[1]? = some v1 := b1
  have b2 : cs[2]? = some v2 := b2
  have b3 : cs[3]? = some v3 := b3
  have h1 : cs[4]? = some v4 := h1
  refine ⟨⟨n0, n1, n2, n3, st⟩, ⟨⟨a0, a1, a2, a3⟩, ?_⟩, rfl, fun j v y hv hy => ?_⟩
  · have : reachBytes ≤ 140737488355328 := by decide
    exact Nat.le_trans s1 this
  · match j, hv, hy with
    | 0, hv, hy => cases hy; rw [b0] at hv; cases hv; exact c0
    | 1, hv, hy => cases hy; rw [b1] at hv; cases hv; exact c1
    | 2, hv, hy => cases hy; rw [b2] at hv; cases hv; exact c2
    | 3, hv, hy => cases hy; rw [b3] at hv; cases hv; exact c3
    | 4, hv, hy => cases hy; rw [h1] at hv; cases hv; exact s3 0 _ _ rfl rfl
    | j + 5, hv, hy => simp [Node.av, AV.cells] at hy
theorem arg_nodes {A : Nat → Addr} {W : World} {H : Type} {enc : TypeId × Value → H} {v : Value} {d : DataW H} {ps : List MemPlace} (hv : DataW.Trod enc Tryd.prog W 0 (fun _ => true) true 23 v d ps)
    (hw : (d.weights Tryd.prog 23).all (· ≤ reachBytes) = true) (h1 : v.cells = #[v]) : ∃ l : List Node, l.length ≤ maxLen ∧ (∀ x ∈ l, x.fitL) ∧ Rep A noHp W v (nodes l) := by
  have hE : Elem Tryd.prog A W 23 1 (fun xs : List Node => .rd 5 (xs.map Node.av)) _ := Elem.slice Tryd.underlying23 (by kernel_rfl) (by omega) elem_node
  obtain ⟨l, ⟨_, l2, l3⟩, l4⟩ := hE.arg (fun _ => rfl) hv hw h1
  exact ⟨l, l2, l3, l4⟩
end Go.Proofs.YthmcfphafofheaaDoor
