/-
  LeastPlays: the law's end, run (Lc2), printed by genlc.py.
-/
import Derived.Test.YtlcjgmehccopkaaLc1
namespace Go.Proofs.Ytlcjgmehccopkaa
open Go.Vm
namespace La

theorem nf_1f : E1 [false] false := by unfold E1 runN; kernel_rfl
theorem nf_4 : E4 [false] 0 := by unfold E4 runN; kernel_rfl
theorem nf : Ends [false] := by
  refine ⟨fun b h => ?_, fun j h => ?_, fun j b hj h => ?_, fun j hj => ?_⟩
  · cases b
    · exact nf_1f
    · cases h rfl
  · match j, h with
    | 0, h => cases h
    | j + 1, h => cases h
  · match j, hj, b, h with
    | j + 0, hj, _, _ => exact absurd hj (by simp)
  · obtain rfl : j = 0 := by simpa using hj
    exact nf_4
theorem nt_1f : E1 [true] false := by unfold E1 runN; kernel_rfl
theorem nt_1t : E1 [true] true := by unfold E1 runN; kernel_rfl
theorem nt_20 : E2 [true] 0 := by unfold E2 runN; kernel_rfl
theorem nt_4 : E4 [true] 0 := by unfold E4 runN; kernel_rfl
theorem nt : Ends [true] := by
  refine ⟨fun b h => ?_, fun j h => ?_, fun j b hj h => ?_, fun j hj => ?_⟩
  · cases b
    · exact nt_1f
    · exact nt_1t
  · match j, h with
    | 0, _ => exact nt_20
    | j + 1, h => cases h
  · match j, hj, b, h with
    | j + 0, hj, _, _ => exact absurd hj (by simp)
  · obtain rfl : j = 0 := by simpa using hj
    exact nt_4
theorem nff_1f : E1 [false, false] false := by unfold E1 runN; kernel_rfl
theorem nff_30f : E3 [false, false] 0 false := by unfold E3 runN; kernel_rfl
theorem nff_4 : E4 [false, false] 1 := by unfold E4 runN; kernel_rfl
theorem nff : Ends [false, false] := by
  refine ⟨fun b h => ?_, fun j h => ?_, fun j b hj h => ?_, fun j hj => ?_⟩
  · cases b
    · exact nff_1f
    · cases h rfl
  · match j, h with
    | 0, h => cases h
    | 1, h => cases h
    | j + 2, h => cases h
  · match j, hj, b, h with
    | 0, _, false, _ => exact nff_30f
    | 0, _, true, h => cases h rfl
    | j + 1, hj, _, _ => exact absurd hj (by simp)
  · obtain rfl : j = 1 := by simpa using hj
    exact nff_4
theorem nft_1f : E1 [false, true] false := by unfold E1 runN; kernel_rfl
theorem nft_30f : E3 [false, true] 0 false := by unfold E3 runN; kernel_rfl
theorem nft_30t : E3 [false, true] 0 true := by unfold E3 runN; kernel_rfl
theorem nft_21 : E2 [false, true] 1 := by unfold E2 runN; kernel_rfl
theorem nft_4 : E4 [false, true] 1 := by unfold E4 runN; kernel_rfl
theorem nft : Ends [false, true] := by
  refine ⟨fun b h => ?_, fun j h => ?_, fun j b hj h => ?_, fun j hj => ?_⟩
  · cases b
    · exact nft_1f
    · cases h rfl
  · match j, h with
    | 0, h => cases h
    | 1, _ => exact nft_21
    | j + 2, h => cases h
  · match j, hj, b, h with
    | 0, _, false, _ => exact nft_30f
    | 0, _, true, _ => exact nft_30t
    | j + 1, hj, _, _ => exact absurd hj (by simp)
  · obtain rfl : j = 1 := by simpa using hj
    exact nft_4
theorem ntf_1f : E1 [true, false] false := by unfold E1 runN; kernel_rfl
theorem ntf_1t : E1 [true, false] true := by unfold E1 runN; kernel_rfl
theorem ntf_20 : E2 [true, false] 0 := by unfold E2 runN; kernel_rfl
theorem ntf_30f : E3 [true, false] 0 false := by unfold E3 runN; kernel_rfl
theorem ntf_4 : E4 [true, false] 1 := by unfold E4 runN; kernel_rfl
theorem ntf : Ends [true, false] := by
  refine ⟨fun b h => ?_, fun j h => ?_, fun j b hj h => ?_, fun j hj => ?_⟩
  · cases b
    · exact ntf_1f
    · exact ntf_1t
  · match j, h with
    | 0, _ => exact ntf_20
    | 1, h => cases h
    | j + 2, h => cases h
  · match j, hj, b, h with
    | 0, _, false, _ => exact ntf_30f
    | 0, _, true, h => cases h rfl
    | j + 1, hj, _, _ => exact absurd hj (by simp)
  · obtain rfl : j = 1 := by simpa using hj
    exact ntf_4
theorem ntt_1f : E1 [true, true] false := by unfold E1 runN; kernel_rfl
theorem ntt_1t : E1 [true, true] true := by unfold E1 runN; kernel_rfl
theorem ntt_20 : E2 [true, true] 0 := by unfold E2 runN; kernel_rfl
theorem ntt_30f : E3 [true, true] 0 false := by unfold E3 runN; kernel_rfl
theorem ntt_30t : E3 [true, true] 0 true := by unfold E3 runN; kernel_rfl
theorem ntt_21 : E2 [true, true] 1 := by unfold E2 runN; kernel_rfl
theorem ntt_4 : E4 [true, true] 1 := by unfold E4 runN; kernel_rfl
theorem ntt : Ends [true, true] := by
  refine ⟨fun b h => ?_, fun j h => ?_, fun j b hj h => ?_, fun j hj => ?_⟩
  · cases b
    · exact ntt_1f
    · exact ntt_1t
  · match j, h with
    | 0, _ => exact ntt_20
    | 1, _ => exact ntt_21
    | j + 2, h => cases h
  · match j, hj, b, h with
    | 0, _, false, _ => exact ntt_30f
    | 0, _, true, _ => exact ntt_30t
    | j + 1, hj, _, _ => exact absurd hj (by simp)
  · obtain rfl : j = 1 := by simpa using hj
    exact ntt_4
theorem nfff_1f : E1 [false, false, false] false := by unfold E1 runN; kernel_rfl
theorem nfff_30f : E3 [false, false, false] 0 false := by unfold E3 runN; kernel_rfl
theorem nfff_31f : E3 [false, false, false] 1 false := by unfold E3 runN; kernel_rfl
theorem nfff_4 : E4 [false, false, false] 2 := by unfold E4 runN; kernel_rfl
theorem nfff : Ends [false, false, false] := by
  refine ⟨fun b h => ?_, fun j h => ?_, fun j b hj h => ?_, fun j hj => ?_⟩
  · cases b
    · exact nfff_1f
    · cases h rfl
  · match j, h with
    | 0, h => cases h
    | 1, h => cases h
    | 2, h => cases h
    | j + 3, h => cases h
  · match j, hj, b, h with
    | 0, _, false, _ => exact nfff_30f
    | 0, _, true, h => cases h rfl
    | 1, _, false, _ => exact nfff_31f
    | 1, _, true, h => cases h rfl
    | j + 2, hj, _, _ => exact absurd hj (by simp)
  · obtain rfl : j = 2 := by simpa using hj
    exact nfff_4
theorem nfft_1f : E1 [false, false, true] false := by unfold E1 runN; kernel_rfl
theorem nfft_30f : E3 [false, false, true] 0 false := by unfold E3 runN; kernel_rfl
theorem nfft_31f : E3 [false, false, true] 1 false := by unfold E3 runN; kernel_rfl
theorem nfft_31t : E3 [false, false, true] 1 true := by unfold E3 runN; kernel_rfl
theorem nfft_22 : E2 [false, false, true] 2 := by unfold E2 runN; kernel_rfl
theorem nfft_4 : E4 [false, false, true] 2 := by unfold E4 runN; kernel_rfl
theorem nfft : Ends [false, false, true] := by
  refine ⟨fun b h => ?_, fun j h => ?_, fun j b hj h => ?_, fun j hj => ?_⟩
  · cases b
    · exact nfft_1f
    · cases h rfl
  · match j, h with
    | 0, h => cases h
    | 1, h => cases h
    | 2, _ => exact nfft_22
    | j + 3, h => cases h
  · match j, hj, b, h with
    | 0, _, false, _ => exact nfft_30f
    | 0, _, true, h => cases h rfl
    | 1, _, false, _ => exact nfft_31f
    | 1, _, true, _ => exact nfft_31t
    | j + 2, hj, _, _ => exact absurd hj (by simp)
  · obtain rfl : j = 2 := by simpa using hj
    exact nfft_4
theorem nftf_1f : E1 [false, true, false] false := by unfold E1 runN; kernel_rfl
theorem nftf_30f : E3 [false, true, false] 0 false := by unfold E3 runN; kernel_rfl
theorem nftf_30t : E3 [false, true, false] 0 true := by unfold E3 runN; kernel_rfl
theorem nftf_21 : E2 [false, true, false] 1 := by unfold E2 runN; kernel_rfl
theorem nftf_31f : E3 [false, true, false] 1 false := by unfold E3 runN; kernel_rfl
theorem nftf_4 : E4 [false, true, false] 2 := by unfold E4 runN; kernel_rfl
theorem nftf : Ends [false, true, false] := by
  refine ⟨fun b h => ?_, fun j h => ?_, fun j b hj h => ?_, fun j hj => ?_⟩
  · cases b
    · exact nftf_1f
    · cases h rfl
  · match j, h with
    | 0, h => cases h
    | 1, _ => exact nftf_21
    | 2, h => cases h
    | j + 3, h => cases h
  · match j, hj, b, h with
    | 0, _, false, _ => exact nftf_30f
    | 0, _, true, _ => exact nftf_30t
    | 1, _, false, _ => exact nftf_31f
    | 1, _, true, h => cases h rfl
    | j + 2, hj, _, _ => exact absurd hj (by simp)
  · obtain rfl : j = 2 := by simpa using hj
    exact nftf_4
theorem nftt_1f : E1 [false, true, true] false := by unfold E1 runN; kernel_rfl
theorem nftt_30f : E3 [false, true, true] 0 false := by unfold E3 runN; kernel_rfl
theorem nftt_30t : E3 [false, true, true] 0 true := by unfold E3 runN; kernel_rfl
theorem nftt_21 : E2 [false, true, true] 1 := by unfold E2 runN; kernel_rfl
theorem nftt_31f : E3 [false, true, true] 1 false := by unfold E3 runN; kernel_rfl
theorem nftt_31t : E3 [false, true, true] 1 true := by unfold E3 runN; kernel_rfl
theorem nftt_22 : E2 [false, true, true] 2 := by unfold E2 runN; kernel_rfl
theorem nftt_4 : E4 [false, true, true] 2 := by unfold E4 runN; kernel_rfl
theorem nftt : Ends [false, true, true] := by
  refine ⟨fun b h => ?_, fun j h => ?_, fun j b hj h => ?_, fun j hj => ?_⟩
  · cases b
    · exact nftt_1f
    · cases h rfl
  · match j, h with
    | 0, h => cases h
    | 1, _ => exact nftt_21
    | 2, _ => exact nftt_22
    | j + 3, h => cases h
  · match j, hj, b, h with
    | 0, _, false, _ => exact nftt_30f
    | 0, _, true, _ => exact nftt_30t
    | 1, _, false, _ => exact nftt_31f
    | 1, _, true, _ => exact nftt_31t
    | j + 2, hj, _, _ => exact absurd hj (by simp)
  · obtain rfl : j = 2 := by simpa using hj
    exact nftt_4
theorem ntff_1f : E1 [true, false, false] false := by unfold E1 runN; kernel_rfl
theorem ntff_1t : E1 [true, false, false] true := by unfold E1 runN; kernel_rfl
theorem ntff_20 : E2 [true, false, false] 0 := by unfold E2 runN; kernel_rfl
theorem ntff_30f : E3 [true, false, false] 0 false := by unfold E3 runN; kernel_rfl
theorem ntff_31f : E3 [true, false, false] 1 false := by unfold E3 runN; kernel_rfl
theorem ntff_4 : E4 [true, false, false] 2 := by unfold E4 runN; kernel_rfl
theorem ntff : Ends [true, false, false] := by
  refine ⟨fun b h => ?_, fun j h => ?_, fun j b hj h => ?_, fun j hj => ?_⟩
  · cases b
    · exact ntff_1f
    · exact ntff_1t
  · match j, h with
    | 0, _ => exact ntff_20
    | 1, h => cases h
    | 2, h => cases h
    | j + 3, h => cases h
  · match j, hj, b, h with
    | 0, _, false, _ => exact ntff_30f
    | 0, _, true, h => cases h rfl
    | 1, _, false, _ => exact ntff_31f
    | 1, _, true, h => cases h rfl
    | j + 2, hj, _, _ => exact absurd hj (by simp)
  · obtain rfl : j = 2 := by simpa using hj
    exact ntff_4
theorem ntft_1f : E1 [true, false, true] false := by unfold E1 runN; kernel_rfl
theorem ntft_1t : E1 [true, false, true] true := by unfold E1 runN; kernel_rfl
theorem ntft_20 : E2 [true, false, true] 0 := by unfold E2 runN; kernel_rfl
theorem ntft_30f : E3 [true, false, true] 0 false := by unfold E3 runN; kernel_rfl
theorem ntft_31f : E3 [true, false, true] 1 false := by unfold E3 runN; kernel_rfl
theorem ntft_31t : E3 [true, false, true] 1 true := by unfold E3 runN; kernel_rfl
theorem ntft_22 : E2 [true, false, true] 2 := by unfold E2 runN; kernel_rfl
theorem ntft_4 : E4 [true, false, true] 2 := by unfold E4 runN; kernel_rfl
theorem ntft : Ends [true, false, true] := by
  refine ⟨fun b h => ?_, fun j h => ?_, fun j b hj h => ?_, fun j hj => ?_⟩
  · cases b
    · exact ntft_1f
    · exact ntft_1t
  · match j, h with
    | 0, _ => exact ntft_20
    | 1, h => cases h
    | 2, _ => exact ntft_22
    | j + 3, h => cases h
  · match j, hj, b, h with
    | 0, _, false, _ => exact ntft_30f
    | 0, _, true, h => cases h rfl
    | 1, _, false, _ => exact ntft_31f
    | 1, _, true, _ => exact ntft_31t
    | j + 2, hj, _, _ => exact absurd hj (by simp)
  · obtain rfl : j = 2 := by simpa using hj
    exact ntft_4
theorem nttf_1f : E1 [true, true, false] false := by unfold E1 runN; kernel_rfl
theorem nttf_1t : E1 [true, true, false] true := by unfold E1 runN; kernel_rfl
theorem nttf_20 : E2 [true, true, false] 0 := by unfold E2 runN; kernel_rfl
theorem nttf_30f : E3 [true, true, false] 0 false := by unfold E3 runN; kernel_rfl
theorem nttf_30t : E3 [true, true, false] 0 true := by unfold E3 runN; kernel_rfl
theorem nttf_21 : E2 [true, true, false] 1 := by unfold E2 runN; kernel_rfl
theorem nttf_31f : E3 [true, true, false] 1 false := by unfold E3 runN; kernel_rfl
theorem nttf_4 : E4 [true, true, false] 2 := by unfold E4 runN; kernel_rfl
theorem nttf : Ends [true, true, false] := by
  refine ⟨fun b h => ?_, fun j h => ?_, fun j b hj h => ?_, fun j hj => ?_⟩
  · cases b
    · exact nttf_1f
    · exact nttf_1t
  · match j, h with
    | 0, _ => exact nttf_20
    | 1, _ => exact nttf_21
    | 2, h => cases h
    | j + 3, h => cases h
  · match j, hj, b, h with
    | 0, _, false, _ => exact nttf_30f
    | 0, _, true, _ => exact nttf_30t
    | 1, _, false, _ => exact nttf_31f
    | 1, _, true, h => cases h rfl
    | j + 2, hj, _, _ => exact absurd hj (by simp)
  · obtain rfl : j = 2 := by simpa using hj
    exact nttf_4
theorem nttt_1f : E1 [true, true, true] false := by unfold E1 runN; kernel_rfl
theorem nttt_1t : E1 [true, true, true] true := by unfold E1 runN; kernel_rfl
theorem nttt_20 : E2 [true, true, true] 0 := by unfold E2 runN; kernel_rfl
theorem nttt_30f : E3 [true, true, true] 0 false := by unfold E3 runN; kernel_rfl
theorem nttt_30t : E3 [true, true, true] 0 true := by unfold E3 runN; kernel_rfl
theorem nttt_21 : E2 [true, true, true] 1 := by unfold E2 runN; kernel_rfl
theorem nttt_31f : E3 [true, true, true] 1 false := by unfold E3 runN; kernel_rfl
theorem nttt_31t : E3 [true, true, true] 1 true := by unfold E3 runN; kernel_rfl
theorem nttt_22 : E2 [true, true, true] 2 := by unfold E2 runN; kernel_rfl
theorem nttt_4 : E4 [true, true, true] 2 := by unfold E4 runN; kernel_rfl
theorem nttt : Ends [true, true, true] := by
  refine ⟨fun b h => ?_, fun j h => ?_, fun j b hj h => ?_, fun j hj => ?_⟩
  · cases b
    · exact nttt_1f
    · exact nttt_1t
  · match j, h with
    | 0, _ => exact nttt_20
    | 1, _ => exact nttt_21
    | 2, _ => exact nttt_22
    | j + 3, h => cases h
  · match j, hj, b, h with
    | 0, _, false, _ => exact nttt_30f
    | 0, _, true, _ => exact nttt_30t
    | 1, _, false, _ => exact nttt_31f
    | 1, _, true, _ => exact nttt_31t
    | j + 2, hj, _, _ => exact absurd hj (by simp)
  · obtain rfl : j = 2 := by simpa using hj
    exact nttt_4
end La
end Go.Proofs.Ytlcjgmehccopkaa
