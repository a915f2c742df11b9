/-
  LinearTells (28): a round of the reference's replay that applies.
-/
import Derived.Test.YtpgonpjakllnjaaLt20
section
namespace Go.Proofs.Ytpgonpjakllnjaa
open Go.Vm Go.Vm.Md Lm
namespace Lt
theorem r_y1rtf : RHM sp15 15 Try.f15 0 e15 (t15 .row) (T15 .row (some .row)) (lt9 (.var 38) true ++ inL (oT at9) ++ yC (some .row) true false) [go15 (some (nk true (some .row))) (sY (some .row) (nYs false true (some .row)))] := by unfold RHM; kernel_rfl
end Lt
end Go.Proofs.Ytpgonpjakllnjaa
end

/-
  LinearTells (31): a round of the reference's replay that applies.
-/
section
namespace Go.Proofs.Ytpgonpjakllnjaa
open Go.Vm Go.Vm.Md Lm
namespace Lt
theorem r_y1rft : RHM sp15 15 Try.f15 0 e15 (t15 .row) (T15 .row (some .row)) (lt9 (.var 38) true ++ inL (oT at9) ++ yC (some .row) false true) [go15 (some (nk false (some .row))) (sY (some .row) (nYs true false (some .row)))] := by unfold RHM; kernel_rfl
end Lt
end Go.Proofs.Ytpgonpjakllnjaa
end

/-
  LinearTells (32): a round of the reference's replay that applies.
-/
section
namespace Go.Proofs.Ytpgonpjakllnjaa
open Go.Vm Go.Vm.Md Lm
namespace Lt
theorem r_y1rff : RHM sp15 15 Try.f15 0 e15 (t15 .row) (T15 .row (some .row)) (lt9 (.var 38) true ++ inL (oT at9) ++ yC (some .row) false false) [go15 (some (nk false (some .row))) (sY (some .row) (nYs false false (some .row)))] := by unfold RHM; kernel_rfl
end Lt
end Go.Proofs.Ytpgonpjakllnjaa
end
