/-
  LeastPlays: the law's end, run (Lc3), printed by genlc.py.
-/
import Derived.Test.YtlcjgmehccopkaaLc1
namespace Go.Proofs.Ytlcjgmehccopkaa
open Go.Vm
namespace La

theorem nffff_1f : E1 [false, false, false, false] false := by unfold E1 runN; kernel_rfl
theorem nffff_30f : E3 [false, false, false, false] 0 false := by unfold E3 runN; kernel_rfl
theorem nffff_31f : E3 [false, false, false, false] 1 false := by unfold E3 runN; kernel_rfl
theorem nffff_32f : E3 [false, false, false, false] 2 false := by unfold E3 runN; kernel_rfl
theorem nffff_4 : E4 [false, false, false, false] 3 := by unfold E4 runN; kernel_rfl
theorem nffff : Ends [false, false, false, false] := by
  refine ⟨fun b h => ?_, fun j h => ?_, fun j b hj h => ?_, fun j hj => ?_⟩
  · cases b
    · exact nffff_1f
    · cases h rfl
  · match j, h with
    | 0, h => cases h
    | 1, h => cases h
    | 2, h => cases h
    | 3, h => cases h
    | j + 4, h => cases h
  · match j, hj, b, h with
    | 0, _, false, _ => exact nffff_30f
    | 0, _, true, h => cases h rfl
    | 1, _, false, _ => exact nffff_31f
    | 1, _, true, h => cases h rfl
    | 2, _, false, _ => exact nffff_32f
    | 2, _, true, h => cases h rfl
    | j + 3, hj, _, _ => exact absurd hj (by simp)
  · obtain rfl : j = 3 := by simpa using hj
    exact nffff_4
theorem nffft_1f : E1 [false, false, false, true] false := by unfold E1 runN; kernel_rfl
theorem nffft_30f : E3 [false, false, false, true] 0 false := by unfold E3 runN; kernel_rfl
theorem nffft_31f : E3 [false, false, false, true] 1 false := by unfold E3 runN; kernel_rfl
theorem nffft_32f : E3 [false, false, false, true] 2 false := by unfold E3 runN; kernel_rfl
theorem nffft_32t : E3 [false, false, false, true] 2 true := by unfold E3 runN; kernel_rfl
theorem nffft_23 : E2 [false, false, false, true] 3 := by unfold E2 runN; kernel_rfl
theorem nffft_4 : E4 [false, false, false, true] 3 := by unfold E4 runN; kernel_rfl
theorem nffft : Ends [false, false, false, true] := by
  refine ⟨fun b h => ?_, fun j h => ?_, fun j b hj h => ?_, fun j hj => ?_⟩
  · cases b
    · exact nffft_1f
    · cases h rfl
  · match j, h with
    | 0, h => cases h
    | 1, h => cases h
    | 2, h => cases h
    | 3, _ => exact nffft_23
    | j + 4, h => cases h
  · match j, hj, b, h with
    | 0, _, false, _ => exact nffft_30f
    | 0, _, true, h => cases h rfl
    | 1, _, false, _ => exact nffft_31f
    | 1, _, true, h => cases h rfl
    | 2, _, false, _ => exact nffft_32f
    | 2, _, true, _ => exact nffft_32t
    | j + 3, hj, _, _ => exact absurd hj (by simp)
  · obtain rfl : j = 3 := by simpa using hj
    exact nffft_4
theorem nfftf_1f : E1 [false, false, true, false] false := by unfold E1 runN; kernel_rfl
theorem nfftf_30f : E3 [false, false, true, false] 0 false := by unfold E3 runN; kernel_rfl
theorem nfftf_31f : E3 [false, false, true, false] 1 false := by unfold E3 runN; kernel_rfl
theorem nfftf_31t : E3 [false, false, true, false] 1 true := by unfold E3 runN; kernel_rfl
theorem nfftf_22 : E2 [false, false, true, false] 2 := by unfold E2 runN; kernel_rfl
theorem nfftf_32f : E3 [false, false, true, false] 2 false := by unfold E3 runN; kernel_rfl
theorem nfftf_4 : E4 [false, false, true, false] 3 := by unfold E4 runN; kernel_rfl
theorem nfftf : Ends [false, false, true, false] := by
  refine ⟨fun b h => ?_, fun j h => ?_, fun j b hj h => ?_, fun j hj => ?_⟩
  · cases b
    · exact nfftf_1f
    · cases h rfl
  · match j, h with
    | 0, h => cases h
    | 1, h => cases h
    | 2, _ => exact nfftf_22
    | 3, h => cases h
    | j + 4, h => cases h
  · match j, hj, b, h with
    | 0, _, false, _ => exact nfftf_30f
    | 0, _, true, h => cases h rfl
    | 1, _, false, _ => exact nfftf_31f
    | 1, _, true, _ => exact nfftf_31t
    | 2, _, false, _ => exact nfftf_32f
    | 2, _, true, h => cases h rfl
    | j + 3, hj, _, _ => exact absurd hj (by simp)
  · obtain rfl : j = 3 := by simpa using hj
    exact nfftf_4
theorem nfftt_1f : E1 [false, false, true, true] false := by unfold E1 runN; kernel_rfl
theorem nfftt_30f : E3 [false, false, true, true] 0 false := by unfold E3 runN; kernel_rfl
theorem nfftt_31f : E3 [false, false, true, true] 1 false := by unfold E3 runN; kernel_rfl
theorem nfftt_31t : E3 [false, false, true, true] 1 true := by unfold E3 runN; kernel_rfl
theorem nfftt_22 : E2 [false, false, true, true] 2 := by unfold E2 runN; kernel_rfl
theorem nfftt_32f : E3 [false, false, true, true] 2 false := by unfold E3 runN; kernel_rfl
theorem nfftt_32t : E3 [false, false, true, true] 2 true := by unfold E3 runN; kernel_rfl
theorem nfftt_23 : E2 [false, false, true, true] 3 := by unfold E2 runN; kernel_rfl
theorem nfftt_4 : E4 [false, false, true, true] 3 := by unfold E4 runN; kernel_rfl
theorem nfftt : Ends [false, false, true, true] := by
  refine ⟨fun b h => ?_, fun j h => ?_, fun j b hj h => ?_, fun j hj => ?_⟩
  · cases b
    · exact nfftt_1f
    · cases h rfl
  · match j, h with
    | 0, h => cases h
    | 1, h => cases h
    | 2, _ => exact nfftt_22
    | 3, _ => exact nfftt_23
    | j + 4, h => cases h
  · match j, hj, b, h with
    | 0, _, false, _ => exact nfftt_30f
    | 0, _, true, h => cases h rfl
    | 1, _, false, _ => exact nfftt_31f
    | 1, _, true, _ => exact nfftt_31t
    | 2, _, false, _ => exact nfftt_32f
    | 2, _, true, _ => exact nfftt_32t
    | j + 3, hj, _, _ => exact absurd hj (by simp)
  · obtain rfl : j = 3 := by simpa using hj
    exact nfftt_4
theorem nftff_1f : E1 [false, true, false, false] false := by unfold E1 runN; kernel_rfl
theorem nftff_30f : E3 [false, true, false, false] 0 false := by unfold E3 runN; kernel_rfl
theorem nftff_30t : E3 [false, true, false, false] 0 true := by unfold E3 runN; kernel_rfl
theorem nftff_21 : E2 [false, true, false, false] 1 := by unfold E2 runN; kernel_rfl
theorem nftff_31f : E3 [false, true, false, false] 1 false := by unfold E3 runN; kernel_rfl
theorem nftff_32f : E3 [false, true, false, false] 2 false := by unfold E3 runN; kernel_rfl
theorem nftff_4 : E4 [false, true, false, false] 3 := by unfold E4 runN; kernel_rfl
theorem nftff : Ends [false, true, false, false] := by
  refine ⟨fun b h => ?_, fun j h => ?_, fun j b hj h => ?_, fun j hj => ?_⟩
  · cases b
    · exact nftff_1f
    · cases h rfl
  · match j, h with
    | 0, h => cases h
    | 1, _ => exact nftff_21
    | 2, h => cases h
    | 3, h => cases h
    | j + 4, h => cases h
  · match j, hj, b, h with
    | 0, _, false, _ => exact nftff_30f
    | 0, _, true, _ => exact nftff_30t
    | 1, _, false, _ => exact nftff_31f
    | 1, _, true, h => cases h rfl
    | 2, _, false, _ => exact nftff_32f
    | 2, _, true, h => cases h rfl
    | j + 3, hj, _, _ => exact absurd hj (by simp)
  · obtain rfl : j = 3 := by simpa using hj
    exact nftff_4
theorem nftft_1f : E1 [false, true, false, true] false := by unfold E1 runN; kernel_rfl
theorem nftft_30f : E3 [false, true, false, true] 0 false := by unfold E3 runN; kernel_rfl
theorem nftft_30t : E3 [false, true, false, true] 0 true := by unfold E3 runN; kernel_rfl
theorem nftft_21 : E2 [false, true, false, true] 1 := by unfold E2 runN; kernel_rfl
theorem nftft_31f : E3 [false, true, false, true] 1 false := by unfold E3 runN; kernel_rfl
theorem nftft_32f : E3 [false, true, false, true] 2 false := by unfold E3 runN; kernel_rfl
theorem nftft_32t : E3 [false, true, false, true] 2 true := by unfold E3 runN; kernel_rfl
theorem nftft_23 : E2 [false, true, false, true] 3 := by unfold E2 runN; kernel_rfl
theorem nftft_4 : E4 [false, true, false, true] 3 := by unfold E4 runN; kernel_rfl
theorem nftft : Ends [false, true, false, true] := by
  refine ⟨fun b h => ?_, fun j h => ?_, fun j b hj h => ?_, fun j hj => ?_⟩
  · cases b
    · exact nftft_1f
    · cases h rfl
  · match j, h with
    | 0, h => cases h
    | 1, _ => exact nftft_21
    | 2, h => cases h
    | 3, _ => exact nftft_23
    | j + 4, h => cases h
  · match j, hj, b, h with
    | 0, _, false, _ => exact nftft_30f
    | 0, _, true, _ => exact nftft_30t
    | 1, _, false, _ => exact nftft_31f
    | 1, _, true, h => cases h rfl
    | 2, _, false, _ => exact nftft_32f
    | 2, _, true, _ => exact nftft_32t
    | j + 3, hj, _, _ => exact absurd hj (by simp)
  · obtain rfl : j = 3 := by simpa using hj
    exact nftft_4
theorem nfttf_1f : E1 [false, true, true, false] false := by unfold E1 runN; kernel_rfl
theorem nfttf_30f : E3 [false, true, true, false] 0 false := by unfold E3 runN; kernel_rfl
theorem nfttf_30t : E3 [false, true, true, false] 0 true := by unfold E3 runN; kernel_rfl
theorem nfttf_21 : E2 [false, true, true, false] 1 := by unfold E2 runN; kernel_rfl
theorem nfttf_31f : E3 [false, true, true, false] 1 false := by unfold E3 runN; kernel_rfl
theorem nfttf_31t : E3 [false, true, true, false] 1 true := by unfold E3 runN; kernel_rfl
theorem nfttf_22 : E2 [false, true, true, false] 2 := by unfold E2 runN; kernel_rfl
theorem nfttf_32f : E3 [false, true, true, false] 2 false := by unfold E3 runN; kernel_rfl
theorem nfttf_4 : E4 [false, true, true, false] 3 := by unfold E4 runN; kernel_rfl
theorem nfttf : Ends [false, true, true, false] := by
  refine ⟨fun b h => ?_, fun j h => ?_, fun j b hj h => ?_, fun j hj => ?_⟩
  · cases b
    · exact nfttf_1f
    · cases h rfl
  · match j, h with
    | 0, h => cases h
    | 1, _ => exact nfttf_21
    | 2, _ => exact nfttf_22
    | 3, h => cases h
    | j + 4, h => cases h
  · match j, hj, b, h with
    | 0, _, false, _ => exact nfttf_30f
    | 0, _, true, _ => exact nfttf_30t
    | 1, _, false, _ => exact nfttf_31f
    | 1, _, true, _ => exact nfttf_31t
    | 2, _, false, _ => exact nfttf_32f
    | 2, _, true, h => cases h rfl
    | j + 3, hj, _, _ => exact absurd hj (by simp)
  · obtain rfl : j = 3 := by simpa using hj
    exact nfttf_4
theorem nfttt_1f : E1 [false, true, true, true] false := by unfold E1 runN; kernel_rfl
theorem nfttt_30f : E3 [false, true, true, true] 0 false := by unfold E3 runN; kernel_rfl
theorem nfttt_30t : E3 [false, true, true, true] 0 true := by unfold E3 runN; kernel_rfl
theorem nfttt_21 : E2 [false, true, true, true] 1 := by unfold E2 runN; kernel_rfl
theorem nfttt_31f : E3 [false, true, true, true] 1 false := by unfold E3 runN; kernel_rfl
theorem nfttt_31t : E3 [false, true, true, true] 1 true := by unfold E3 runN; kernel_rfl
theorem nfttt_22 : E2 [false, true, true, true] 2 := by unfold E2 runN; kernel_rfl
theorem nfttt_32f : E3 [false, true, true, true] 2 false := by unfold E3 runN; kernel_rfl
theorem nfttt_32t : E3 [false, true, true, true] 2 true := by unfold E3 runN; kernel_rfl
theorem nfttt_23 : E2 [false, true, true, true] 3 := by unfold E2 runN; kernel_rfl
theorem nfttt_4 : E4 [false, true, true, true] 3 := by unfold E4 runN; kernel_rfl
theorem nfttt : Ends [false, true, true, true] := by
  refine ⟨fun b h => ?_, fun j h => ?_, fun j b hj h => ?_, fun j hj => ?_⟩
  · cases b
    · exact nfttt_1f
    · cases h rfl
  · match j, h with
    | 0, h => cases h
    | 1, _ => exact nfttt_21
    | 2, _ => exact nfttt_22
    | 3, _ => exact nfttt_23
    | j + 4, h => cases h
  · match j, hj, b, h with
    | 0, _, false, _ => exact nfttt_30f
    | 0, _, true, _ => exact nfttt_30t
    | 1, _, false, _ => exact nfttt_31f
    | 1, _, true, _ => exact nfttt_31t
    | 2, _, false, _ => exact nfttt_32f
    | 2, _, true, _ => exact nfttt_32t
    | j + 3, hj, _, _ => exact absurd hj (by simp)
  · obtain rfl : j = 3 := by simpa using hj
    exact nfttt_4
end La
end Go.Proofs.Ytlcjgmehccopkaa
