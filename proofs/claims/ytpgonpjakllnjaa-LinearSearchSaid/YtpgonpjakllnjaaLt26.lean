/-
  LinearTells (25): a round of the reference's replay that applies.
-/
import Derived.Test.YtpgonpjakllnjaaLt20
section
namespace Go.Proofs.Ytpgonpjakllnjaa
open Go.Vm Go.Vm.Md Lm
namespace Lt
theorem r_y1zt (s : Bool) : RHM sp15 15 Try.f15 0 e15 (t15 .row) (T15 .row (some .zero)) (lt9 (.var 38) true ++ inL (oT at9) ++ yC (some .zero) true s) [go15 (some (nk true (some .zero))) (sY (some .zero) (nYs s true (some .zero)))] := by
  have h : RHM sp15 15 Try.f15 0 e15 (t15 .row) (T15 .row (some .zero)) (lt9 (.var 38) true ++ inL (oT at9) ++ yC (some .zero) true true) [go15 (some (nk true (some .zero))) (sY (some .zero) (nYs true true (some .zero)))] := by unfold RHM; kernel_rfl
  cases s <;> exact h
end Lt
end Go.Proofs.Ytpgonpjakllnjaa
end

/-
  LinearTells (26): a round of the reference's replay that applies.
-/
section
namespace Go.Proofs.Ytpgonpjakllnjaa
open Go.Vm Go.Vm.Md Lm
namespace Lt
theorem r_y1zf (s : Bool) : RHM sp15 15 Try.f15 0 e15 (t15 .row) (T15 .row (some .zero)) (lt9 (.var 38) true ++ inL (oT at9) ++ yC (some .zero) false s) [go15 (some (nk false (some .zero))) (sY (some .zero) (nYs s false (some .zero)))] := by
  have h : RHM sp15 15 Try.f15 0 e15 (t15 .row) (T15 .row (some .zero)) (lt9 (.var 38) true ++ inL (oT at9) ++ yC (some .zero) false true) [go15 (some (nk false (some .zero))) (sY (some .zero) (nYs true false (some .zero)))] := by unfold RHM; kernel_rfl
  cases s <;> exact h
end Lt
end Go.Proofs.Ytpgonpjakllnjaa
end
