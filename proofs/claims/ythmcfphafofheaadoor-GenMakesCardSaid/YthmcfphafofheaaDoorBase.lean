/- The seat's own: its environment, its nodes. No statement of the seat is proved in this file. -/
import Derived.Test.YthmcfphafofheaaDoorPatW
import Derived.Test.YthmcfphafofheaaDoorProg
open Go Go.Proofs
namespace Go.Proofs.YthmcfphafofheaaDoor
open Pat
set_option maxRecDepth 10000
theorem sent_ok : ∃ i e j, Tryd.prog.info? 226 = some i ∧ i.comparable = true ∧ Tryd.prog.underlying 226 = some (.pointer e) ∧ Tryd.prog.info? e = some j ∧ j.size ≠ 0 := by
  have h1 : (Tryd.prog.info? 226).map (·.comparable) = some true := by kernel_rfl
  have h2 : (Tryd.prog.info? 240).map (·.size) = some 1 := by kernel_rfl
  obtain ⟨i, i1, i2⟩ := Option.map_eq_some_iff.1 h1
  obtain ⟨j, j1, j2⟩ := Option.map_eq_some_iff.1 h2
  exact ⟨i, 240, j, i1, i2, by kernel_rfl, j1, by omega⟩
theorem env_ok (gs : List Nat) (g : Nat) (t : TypeId) (h : (if g ∈ gs then some 226 else none) = some t) : ∃ i e j, Tryd.prog.info? t = some i ∧ i.comparable = true ∧ Tryd.prog.underlying t = some (.pointer e) ∧ Tryd.prog.info? e = some j ∧ j.size ≠ 0 := by
  have : t = 226 := by
    by_cases hg : g ∈ gs
    · rw [if_pos hg] at h; exact (Option.some.inj h).symm
    · rw [if_neg hg] at h; cases h
  subst this
  exact sent_ok
/-- The program, with sentinels in these variables. -/
noncomputable def env (gs : List Nat) (s : Nat → Addr) : Env := { P := Tryd.prog, G := fun g => if g ∈ gs then some 226 else none, A := s, ok := env_ok gs }
theorem env_mixed {gs : List Nat} {s : Nat → Addr} : (env gs s).P.follows .mixedOrders = true := by kernel_rfl
theorem env_sent {gs : List Nat} {s : Nat → Addr} {g : Nat} (h : g ∈ gs) : (env gs s).G g = some 226 := if_pos h
end Go.Proofs.YthmcfphafofheaaDoor
