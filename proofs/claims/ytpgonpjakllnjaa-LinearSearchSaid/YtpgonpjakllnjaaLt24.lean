/-
  LinearTells (23): a round of the reference's replay that applies.
-/
import Derived.Test.YtpgonpjakllnjaaLt20
section
namespace Go.Proofs.Ytpgonpjakllnjaa
open Go.Vm Go.Vm.Md Lm
namespace Lt
theorem r_y1nt (s : Bool) : RHM sp15 15 Try.f15 0 e15 (t15 .row) (T15 .row (some .nil)) (lt9 (.var 38) true ++ inL (oT at9) ++ yC (some .nil) true s) [go15 (some (nk true (some .nil))) (sY (some .nil) (nYs s true (some .nil)))] := by
  have h : RHM sp15 15 Try.f15 0 e15 (t15 .row) (T15 .row (some .nil)) (lt9 (.var 38) true ++ inL (oT at9) ++ yC (some .nil) true true) [go15 (some (nk true (some .nil))) (sY (some .nil) (nYs true true (some .nil)))] := by unfold RHM; kernel_rfl
  cases s <;> exact h
end Lt
end Go.Proofs.Ytpgonpjakllnjaa
end

/-
  LinearTells (24): a round of the reference's replay that applies.
-/
section
namespace Go.Proofs.Ytpgonpjakllnjaa
open Go.Vm Go.Vm.Md Lm
namespace Lt
theorem r_y1nf (s : Bool) : RHM sp15 15 Try.f15 0 e15 (t15 .row) (T15 .row (some .nil)) (lt9 (.var 38) true ++ inL (oT at9) ++ yC (some .nil) false s) [go15 (some (nk false (some .nil))) (sY (some .nil) (nYs s false (some .nil)))] := by
  have h : RHM sp15 15 Try.f15 0 e15 (t15 .row) (T15 .row (some .nil)) (lt9 (.var 38) true ++ inL (oT at9) ++ yC (some .nil) false true) [go15 (some (nk false (some .nil))) (sY (some .nil) (nYs true false (some .nil)))] := by unfold RHM; kernel_rfl
  cases s <;> exact h
end Lt
end Go.Proofs.Ytpgonpjakllnjaa
end
