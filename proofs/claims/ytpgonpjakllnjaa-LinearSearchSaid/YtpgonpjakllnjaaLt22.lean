/-
  LinearTells (21): a round of the reference's replay that applies.
-/
import Derived.Test.YtpgonpjakllnjaaLt20
section
namespace Go.Proofs.Ytpgonpjakllnjaa
open Go.Vm Go.Vm.Md Lm
namespace Lt
theorem r_y0t (s : Bool) : RHM sp15 15 Try.f15 0 e15 (t15 .row) (T15 .row (none)) (lt9 (.var 38) true ++ inL (oT at9) ++ yC (none) true s) [go15 (some (nk true (none))) (sY (none) (nYs s true (none)))] := by
  have h : RHM sp15 15 Try.f15 0 e15 (t15 .row) (T15 .row (none)) (lt9 (.var 38) true ++ inL (oT at9) ++ yC (none) true true) [go15 (some (nk true (none))) (sY (none) (nYs true true (none)))] := by unfold RHM; kernel_rfl
  cases s <;> exact h
end Lt
end Go.Proofs.Ytpgonpjakllnjaa
end

/-
  LinearTells (22): a round of the reference's replay that applies.
-/
section
namespace Go.Proofs.Ytpgonpjakllnjaa
open Go.Vm Go.Vm.Md Lm
namespace Lt
theorem r_y0f (s : Bool) : RHM sp15 15 Try.f15 0 e15 (t15 .row) (T15 .row (none)) (lt9 (.var 38) true ++ inL (oT at9) ++ yC (none) false s) [go15 (some (nk false (none))) (sY (none) (nYs s false (none)))] := by
  have h : RHM sp15 15 Try.f15 0 e15 (t15 .row) (T15 .row (none)) (lt9 (.var 38) true ++ inL (oT at9) ++ yC (none) false true) [go15 (some (nk false (none))) (sY (none) (nYs true false (none)))] := by unfold RHM; kernel_rfl
  cases s <;> exact h
end Lt
end Go.Proofs.Ytpgonpjakllnjaa
end
