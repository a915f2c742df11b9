/-
  Two small laws of conditions and texts (in the place of the longer text of that name: what follows needs no more of it).
-/
import Derived.Test.YtagdcclpibjfoaaDoorTx6
namespace Go.Proofs.YtagdcclpibjfoaaDoor
open Go.Vm
namespace Txt
theorem CRel_app {ρ : Env} {a b : Cs} : CRel ρ (a ++ b) ↔ CRel ρ a ∧ CRel ρ b :=
  ⟨fun h => ⟨fun p hp => h p (List.mem_append.2 (.inl hp)), fun p hp => h p (List.mem_append.2 (.inr hp))⟩, fun h p hp => (List.mem_append.1 hp).elim (h.1 p) (h.2 p)⟩
end Txt
end Go.Proofs.YtagdcclpibjfoaaDoor
