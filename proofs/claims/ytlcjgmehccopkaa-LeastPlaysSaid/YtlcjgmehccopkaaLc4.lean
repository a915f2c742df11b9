/-
  LeastPlays: the law's end, run (Lc4), printed by genlc.py.
-/
import Derived.Test.YtlcjgmehccopkaaLc1
namespace Go.Proofs.Ytlcjgmehccopkaa
open Go.Vm
namespace La

theorem ntfff_1f : E1 [true, false, false, false] false := by unfold E1 runN; kernel_rfl
theorem ntfff_1t : E1 [true, false, false, false] true := by unfold E1 runN; kernel_rfl
theorem ntfff_20 : E2 [true, false, false, false] 0 := by unfold E2 runN; kernel_rfl
theorem ntfff_30f : E3 [true, false, false, false] 0 false := by unfold E3 runN; kernel_rfl
theorem ntfff_31f : E3 [true, false, false, false] 1 false := by unfold E3 runN; kernel_rfl
theorem ntfff_32f : E3 [true, false, false, false] 2 false := by unfold E3 runN; kernel_rfl
theorem ntfff_4 : E4 [true, false, false, false] 3 := by unfold E4 runN; kernel_rfl
theorem ntfff : Ends [true, false, false, false] := by
  refine ⟨fun b h => ?_, fun j h => ?_, fun j b hj h => ?_, fun j hj => ?_⟩
  · cases b
    · exact ntfff_1f
    · exact ntfff_1t
  · match j, h with
    | 0, _ => exact ntfff_20
    | 1, h => cases h
    | 2, h => cases h
    | 3, h => cases h
    | j + 4, h => cases h
  · match j, hj, b, h with
    | 0, _, false, _ => exact ntfff_30f
    | 0, _, true, h => cases h rfl
    | 1, _, false, _ => exact ntfff_31f
    | 1, _, true, h => cases h rfl
    | 2, _, false, _ => exact ntfff_32f
    | 2, _, true, h => cases h rfl
    | j + 3, hj, _, _ => exact absurd hj (by simp)
  · obtain rfl : j = 3 := by simpa using hj
    exact ntfff_4
theorem ntfft_1f : E1 [true, false, false, true] false := by unfold E1 runN; kernel_rfl
theorem ntfft_1t : E1 [true, false, false, true] true := by unfold E1 runN; kernel_rfl
theorem ntfft_20 : E2 [true, false, false, true] 0 := by unfold E2 runN; kernel_rfl
theorem ntfft_30f : E3 [true, false, false, true] 0 false := by unfold E3 runN; kernel_rfl
theorem ntfft_31f : E3 [true, false, false, true] 1 false := by unfold E3 runN; kernel_rfl
theorem ntfft_32f : E3 [true, false, false, true] 2 false := by unfold E3 runN; kernel_rfl
theorem ntfft_32t : E3 [true, false, false, true] 2 true := by unfold E3 runN; kernel_rfl
theorem ntfft_23 : E2 [true, false, false, true] 3 := by unfold E2 runN; kernel_rfl
theorem ntfft_4 : E4 [true, false, false, true] 3 := by unfold E4 runN; kernel_rfl
theorem ntfft : Ends [true, false, false, true] := by
  refine ⟨fun b h => ?_, fun j h => ?_, fun j b hj h => ?_, fun j hj => ?_⟩
  · cases b
    · exact ntfft_1f
    · exact ntfft_1t
  · match j, h with
    | 0, _ => exact ntfft_20
    | 1, h => cases h
    | 2, h => cases h
    | 3, _ => exact ntfft_23
    | j + 4, h => cases h
  · match j, hj, b, h with
    | 0, _, false, _ => exact ntfft_30f
    | 0, _, true, h => cases h rfl
    | 1, _, false, _ => exact ntfft_31f
    | 1, _, true, h => cases h rfl
    | 2, _, false, _ => exact ntfft_32f
    | 2, _, true, _ => exact ntfft_32t
    | j + 3, hj, _, _ => exact absurd hj (by simp)
  · obtain rfl : j = 3 := by simpa using hj
    exact ntfft_4
theorem ntftf_1f : E1 [true, false, true, false] false := by unfold E1 runN; kernel_rfl
theorem ntftf_1t : E1 [true, false, true, false] true := by unfold E1 runN; kernel_rfl
theorem ntftf_20 : E2 [true, false, true, false] 0 := by unfold E2 runN; kernel_rfl
theorem ntftf_30f : E3 [true, false, true, false] 0 false := by unfold E3 runN; kernel_rfl
theorem ntftf_31f : E3 [true, false, true, false] 1 false := by unfold E3 runN; kernel_rfl
theorem ntftf_31t : E3 [true, false, true, false] 1 true := by unfold E3 runN; kernel_rfl
theorem ntftf_22 : E2 [true, false, true, false] 2 := by unfold E2 runN; kernel_rfl
theorem ntftf_32f : E3 [true, false, true, false] 2 false := by unfold E3 runN; kernel_rfl
theorem ntftf_4 : E4 [true, false, true, false] 3 := by unfold E4 runN; kernel_rfl
theorem ntftf : Ends [true, false, true, false] := by
  refine ⟨fun b h => ?_, fun j h => ?_, fun j b hj h => ?_, fun j hj => ?_⟩
  · cases b
    · exact ntftf_1f
    · exact ntftf_1t
  · match j, h with
    | 0, _ => exact ntftf_20
    | 1, h => cases h
    | 2, _ => exact ntftf_22
    | 3, h => cases h
    | j + 4, h => cases h
  · match j, hj, b, h with
    | 0, _, false, _ => exact ntftf_30f
    | 0, _, true, h => cases h rfl
    | 1, _, false, _ => exact ntftf_31f
    | 1, _, true, _ => exact ntftf_31t
    | 2, _, false, _ => exact ntftf_32f
    | 2, _, true, h => cases h rfl
    | j + 3, hj, _, _ => exact absurd hj (by simp)
  · obtain rfl : j = 3 := by simpa using hj
    exact ntftf_4
theorem ntftt_1f : E1 [true, false, true, true] false := by unfold E1 runN; kernel_rfl
theorem ntftt_1t : E1 [true, false, true, true] true := by unfold E1 runN; kernel_rfl
theorem ntftt_20 : E2 [true, false, true, true] 0 := by unfold E2 runN; kernel_rfl
theorem ntftt_30f : E3 [true, false, true, true] 0 false := by unfold E3 runN; kernel_rfl
theorem ntftt_31f : E3 [true, false, true, true] 1 false := by unfold E3 runN; kernel_rfl
theorem ntftt_31t : E3 [true, false, true, true] 1 true := by unfold E3 runN; kernel_rfl
theorem ntftt_22 : E2 [true, false, true, true] 2 := by unfold E2 runN; kernel_rfl
theorem ntftt_32f : E3 [true, false, true, true] 2 false := by unfold E3 runN; kernel_rfl
theorem ntftt_32t : E3 [true, false, true, true] 2 true := by unfold E3 runN; kernel_rfl
theorem ntftt_23 : E2 [true, false, true, true] 3 := by unfold E2 runN; kernel_rfl
theorem ntftt_4 : E4 [true, false, true, true] 3 := by unfold E4 runN; kernel_rfl
theorem ntftt : Ends [true, false, true, true] := by
  refine ⟨fun b h => ?_, fun j h => ?_, fun j b hj h => ?_, fun j hj => ?_⟩
  · cases b
    · exact ntftt_1f
    · exact ntftt_1t
  · match j, h with
    | 0, _ => exact ntftt_20
    | 1, h => cases h
    | 2, _ => exact ntftt_22
    | 3, _ => exact ntftt_23
    | j + 4, h => cases h
  · match j, hj, b, h with
    | 0, _, false, _ => exact ntftt_30f
    | 0, _, true, h => cases h rfl
    | 1, _, false, _ => exact ntftt_31f
    | 1, _, true, _ => exact ntftt_31t
    | 2, _, false, _ => exact ntftt_32f
    | 2, _, true, _ => exact ntftt_32t
    | j + 3, hj, _, _ => exact absurd hj (by simp)
  · obtain rfl : j = 3 := by simpa using hj
    exact ntftt_4
theorem nttff_1f : E1 [true, true, false, false] false := by unfold E1 runN; kernel_rfl
theorem nttff_1t : E1 [true, true, false, false] true := by unfold E1 runN; kernel_rfl
theorem nttff_20 : E2 [true, true, false, false] 0 := by unfold E2 runN; kernel_rfl
theorem nttff_30f : E3 [true, true, false, false] 0 false := by unfold E3 runN; kernel_rfl
theorem nttff_30t : E3 [true, true, false, false] 0 true := by unfold E3 runN; kernel_rfl
theorem nttff_21 : E2 [true, true, false, false] 1 := by unfold E2 runN; kernel_rfl
theorem nttff_31f : E3 [true, true, false, false] 1 false := by unfold E3 runN; kernel_rfl
theorem nttff_32f : E3 [true, true, false, false] 2 false := by unfold E3 runN; kernel_rfl
theorem nttff_4 : E4 [true, true, false, false] 3 := by unfold E4 runN; kernel_rfl
theorem nttff : Ends [true, true, false, false] := by
  refine ⟨fun b h => ?_, fun j h => ?_, fun j b hj h => ?_, fun j hj => ?_⟩
  · cases b
    · exact nttff_1f
    · exact nttff_1t
  · match j, h with
    | 0, _ => exact nttff_20
    | 1, _ => exact nttff_21
    | 2, h => cases h
    | 3, h => cases h
    | j + 4, h => cases h
  · match j, hj, b, h with
    | 0, _, false, _ => exact nttff_30f
    | 0, _, true, _ => exact nttff_30t
    | 1, _, false, _ => exact nttff_31f
    | 1, _, true, h => cases h rfl
    | 2, _, false, _ => exact nttff_32f
    | 2, _, true, h => cases h rfl
    | j + 3, hj, _, _ => exact absurd hj (by simp)
  · obtain rfl : j = 3 := by simpa using hj
    exact nttff_4
theorem nttft_1f : E1 [true, true, false, true] false := by unfold E1 runN; kernel_rfl
theorem nttft_1t : E1 [true, true, false, true] true := by unfold E1 runN; kernel_rfl
theorem nttft_20 : E2 [true, true, false, true] 0 := by unfold E2 runN; kernel_rfl
theorem nttft_30f : E3 [true, true, false, true] 0 false := by unfold E3 runN; kernel_rfl
theorem nttft_30t : E3 [true, true, false, true] 0 true := by unfold E3 runN; kernel_rfl
theorem nttft_21 : E2 [true, true, false, true] 1 := by unfold E2 runN; kernel_rfl
theorem nttft_31f : E3 [true, true, false, true] 1 false := by unfold E3 runN; kernel_rfl
theorem nttft_32f : E3 [true, true, false, true] 2 false := by unfold E3 runN; kernel_rfl
theorem nttft_32t : E3 [true, true, false, true] 2 true := by unfold E3 runN; kernel_rfl
theorem nttft_23 : E2 [true, true, false, true] 3 := by unfold E2 runN; kernel_rfl
theorem nttft_4 : E4 [true, true, false, true] 3 := by unfold E4 runN; kernel_rfl
theorem nttft : Ends [true, true, false, true] := by
  refine ⟨fun b h => ?_, fun j h => ?_, fun j b hj h => ?_, fun j hj => ?_⟩
  · cases b
    · exact nttft_1f
    · exact nttft_1t
  · match j, h with
    | 0, _ => exact nttft_20
    | 1, _ => exact nttft_21
    | 2, h => cases h
    | 3, _ => exact nttft_23
    | j + 4, h => cases h
  · match j, hj, b, h with
    | 0, _, false, _ => exact nttft_30f
    | 0, _, true, _ => exact nttft_30t
    | 1, _, false, _ => exact nttft_31f
    | 1, _, true, h => cases h rfl
    | 2, _, false, _ => exact nttft_32f
    | 2, _, true, _ => exact nttft_32t
    | j + 3, hj, _, _ => exact absurd hj (by simp)
  · obtain rfl : j = 3 := by simpa using hj
    exact nttft_4
theorem ntttf_1f : E1 [true, true, true, false] false := by unfold E1 runN; kernel_rfl
theorem ntttf_1t : E1 [true, true, true, false] true := by unfold E1 runN; kernel_rfl
theorem ntttf_20 : E2 [true, true, true, false] 0 := by unfold E2 runN; kernel_rfl
theorem ntttf_30f : E3 [true, true, true, false] 0 false := by unfold E3 runN; kernel_rfl
theorem ntttf_30t : E3 [true, true, true, false] 0 true := by unfold E3 runN; kernel_rfl
theorem ntttf_21 : E2 [true, true, true, false] 1 := by unfold E2 runN; kernel_rfl
theorem ntttf_31f : E3 [true, true, true, false] 1 false := by unfold E3 runN; kernel_rfl
theorem ntttf_31t : E3 [true, true, true, false] 1 true := by unfold E3 runN; kernel_rfl
theorem ntttf_22 : E2 [true, true, true, false] 2 := by unfold E2 runN; kernel_rfl
theorem ntttf_32f : E3 [true, true, true, false] 2 false := by unfold E3 runN; kernel_rfl
theorem ntttf_4 : E4 [true, true, true, false] 3 := by unfold E4 runN; kernel_rfl
theorem ntttf : Ends [true, true, true, false] := by
  refine ⟨fun b h => ?_, fun j h => ?_, fun j b hj h => ?_, fun j hj => ?_⟩
  · cases b
    · exact ntttf_1f
    · exact ntttf_1t
  · match j, h with
    | 0, _ => exact ntttf_20
    | 1, _ => exact ntttf_21
    | 2, _ => exact ntttf_22
    | 3, h => cases h
    | j + 4, h => cases h
  · match j, hj, b, h with
    | 0, _, false, _ => exact ntttf_30f
    | 0, _, true, _ => exact ntttf_30t
    | 1, _, false, _ => exact ntttf_31f
    | 1, _, true, _ => exact ntttf_31t
    | 2, _, false, _ => exact ntttf_32f
    | 2, _, true, h => cases h rfl
    | j + 3, hj, _, _ => exact absurd hj (by simp)
  · obtain rfl : j = 3 := by simpa using hj
    exact ntttf_4
theorem ntttt_1f : E1 [true, true, true, true] false := by unfold E1 runN; kernel_rfl
theorem ntttt_1t : E1 [true, true, true, true] true := by unfold E1 runN; kernel_rfl
theorem ntttt_20 : E2 [true, true, true, true] 0 := by unfold E2 runN; kernel_rfl
theorem ntttt_30f : E3 [true, true, true, true] 0 false := by unfold E3 runN; kernel_rfl
theorem ntttt_30t : E3 [true, true, true, true] 0 true := by unfold E3 runN; kernel_rfl
theorem ntttt_21 : E2 [true, true, true, true] 1 := by unfold E2 runN; kernel_rfl
theorem ntttt_31f : E3 [true, true, true, true] 1 false := by unfold E3 runN; kernel_rfl
theorem ntttt_31t : E3 [true, true, true, true] 1 true := by unfold E3 runN; kernel_rfl
theorem ntttt_22 : E2 [true, true, true, true] 2 := by unfold E2 runN; kernel_rfl
theorem ntttt_32f : E3 [true, true, true, true] 2 false := by unfold E3 runN; kernel_rfl
theorem ntttt_32t : E3 [true, true, true, true] 2 true := by unfold E3 runN; kernel_rfl
theorem ntttt_23 : E2 [true, true, true, true] 3 := by unfold E2 runN; kernel_rfl
theorem ntttt_4 : E4 [true, true, true, true] 3 := by unfold E4 runN; kernel_rfl
theorem ntttt : Ends [true, true, true, true] := by
  refine ⟨fun b h => ?_, fun j h => ?_, fun j b hj h => ?_, fun j hj => ?_⟩
  · cases b
    · exact ntttt_1f
    · exact ntttt_1t
  · match j, h with
    | 0, _ => exact ntttt_20
    | 1, _ => exact ntttt_21
    | 2, _ => exact ntttt_22
    | 3, _ => exact ntttt_23
    | j + 4, h => cases h
  · match j, hj, b, h with
    | 0, _, false, _ => exact ntttt_30f
    | 0, _, true, _ => exact ntttt_30t
    | 1, _, false, _ => exact ntttt_31f
    | 1, _, true, _ => exact ntttt_31t
    | 2, _, false, _ => exact ntttt_32f
    | 2, _, true, _ => exact ntttt_32t
    | j + 3, hj, _, _ => exact absurd hj (by simp)
  · obtain rfl : j = 3 := by simpa using hj
    exact ntttt_4
end La
end Go.Proofs.Ytlcjgmehccopkaa
