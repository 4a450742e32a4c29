/-
  The abstract machine: runs from an empty memory.
-/
import Derived.Test.YtkemccclhhnljaaAbs14
namespace Go.Abs
open Go.RowKit
set_option linter.unusedVariables false

def mem0 : Mem := ⟨1000, 1000, .e⟩

/-- a run ends with true -/
def runsTrue (P : Program) (n : Nat) (f : FuncId) : Bool := match run P 0 n f [] mem0 with
  | some (.bool true, _) => true
  | _ => false

theorem empty_ok (P : Program) (w : World) : HR P 0 w.heap.size (fun _ => none) mem0 w :=
  ⟨fun b o h => by simp [mem0, Mem.get, Tr.get] at h, fun b1 b2 o1 o2 l1 l2 h => by simp [mem0, Mem.get, Tr.get] at h, fun _ _ => rfl, fun _ _ h => by simp at h, fun _ _ _ h => by simp at h, fun g h => by omega, by simp [mem0], Nat.le_refl _⟩

/-- A function without arguments that touches no variable: it returns true in whatever world, and turns nothing that was there. -/
theorem calls_true {P : Program} (hP : progOk P = true) {n : Nat} {f : FuncId} (h : runsTrue P n f = true) (w : World) : Calls P f #[] w fun e w' => e = .returned (.bool true) ∧ Below w.heap.size w w' := by
  unfold runsTrue at h
  split at h
  · rename_i M1 hr
    refine (run_ok (pg_of hP) hr (args' := #[]) .nil (empty_ok P w)).mono ?_
    rintro e w' ⟨v', ρ', rfl, _, r, _, hb⟩
    cases r
    exact ⟨rfl, hb⟩
  · cases h
end Go.Abs
