/- The frame of the seat's laws: the sentinels, the witness's world. No statement of the seat is proved in this file. -/
import Derived.Test.YthmcfphafofheaaDoorBase
import Derived.Test.YthmcfphafofheaaDoorCards
import Derived.Test.YthmcfphafofheaaDoorTie
import Derived.WalkKit
import Derived.ProofKit
import Derived.OpenShut
import Derived.Deep.DeepHandedRow
import Derived.Deep.DeepWitnessRowRef
import Derived.Lib.LaidIn
import Derived.Stop.LaidErr
open Go Go.Proofs
namespace Go.Proofs.YthmcfphafofheaaDoor
open Pat
set_option maxRecDepth 100000
theorem own : ownKnob Tryd.prog.godebug = none := by kernel_rfl
theorem star : "*" ++ "errors.errorString" = "*errors.errorString" := by decide
theorem nm_only (u : TypeId) (h : Tryd.prog.typeName? 3 u = some "*errors.errorString") : u = 226 :=
  typeName_ptr_named (nm := "errors.errorString") (by rw [star]; kernel_rfl) (by kernel_rfl) (by decide) u (by rw [star]; exact h)
theorem rel_of (gs : List Nat) (laid : List (String × DataW Unit)) {W : World} (hg : laid.map (fun x => Tryd.prog.globalNamed x.1) = gs.map some)
    (hgt : gs.all (fun g => decide ((Tryd.prog.globals[g]?).map (·.type) = some 32)) = true) (hd : ∀ x ∈ laid, ∃ xs, x.2 = .iface "*errors.errorString" (.ptr (.agg xs))) (h : laidMet Tryd.prog laid W) : ∃ A, HRel (env gs A) noHp W := by
  have hu1 : Tryd.prog.underlying 226 = some (.pointer 240) := by kernel_rfl
  have hc : 0 < Tryd.prog.cellsOf 240 := by
    have : Tryd.prog.cellsOf 240 = 1 := by kernel_rfl
    omega
  have hi : (match Tryd.prog.underlying 32 with | some (.interface _) => true | _ => false) = true := by kernel_rfl
  refine laid_rel (P := Tryd.prog) (E := fun A => env gs A) (fun A => ⟨rfl, rfl, fun g => rfl⟩) nm_only hu1 hc hg (fun g hgm => ?_) hd h
  have := of_decide_eq_true (List.all_eq_true.1 hgt g hgm)
  split at hi
  · rename_i ms hms; exact ⟨_, ms, this, hms⟩
  · cases hi
/-- The witness's world: the variables hold errors of their own. -/
noncomputable def laidWorld (os : Os) (l : List (Nat × List UInt8)) : World :=
  let N := (World.settled Tryd.prog os).heap.size
  let w0 := World.holding Tryd.prog os ⟨(l.map fun x => Obj.cells #[.string ⟨x.2.toArray⟩] 240 (0, 0)).toArray, #[], []⟩
  let put (h : Array Obj) (g : Nat) (cs : Array Value) : Array Obj := h.modify g fun
    | .cells _ t frozen => .cells cs t frozen
    | o => o
  { w0 with heap := (l.zipIdx.foldl (fun h x => put h x.1.1 #[.iface 226 (.pointer (some ⟨N + x.2, 0, none⟩))]) w0.heap) }
end Go.Proofs.YthmcfphafofheaaDoor
