/-
  Trace lines (4): a text with its blanks turned, by its words: the loop.
-/
import Derived.Test.YtjjijagclgambaaGreatDoorTl3
namespace Go.Proofs.YtjjijagclgambaaGreatDoor
open Go.Vm Go.TraceP
namespace Txt

/-- Words, joined by what stands for blanks. -/
def joinT : List (List UInt8) → Nat → List UInt8
  | _, 0 => []
  | ws, i + 1 => (if 0 < i then joinT ws i ++ [95] else joinT ws i) ++ ws.getD i []
theorem turn_no {a b : UInt8} : ∀ {w : List UInt8}, a ∉ w → turn a b w = w
  | [], _ => rfl
  | c :: r, h => by
    have h1 : c ≠ a := fun e => h (by rw [e]; exact List.mem_cons_self)
    have ih := turn_no (b := b) (w := r) fun h2 => h (List.mem_cons_of_mem _ h2)
    show (if c = a then b else c) :: turn a b r = _
    rw [if_neg h1, ih]
theorem joinT_take (ws : List (List UInt8)) : ∀ i, i ≤ ws.length → (∀ x ∈ ws, (32 : UInt8) ∉ x) → joinT ws i = turn 32 95 (joinW (ws.take i))
  | 0, _, _ => rfl
  | i + 1, h, hn => by
    have ih := joinT_take ws i (by omega) hn
    have hi : i < ws.length := by omega
    have e : ws.take (i + 1) = ws.take i ++ [ws.getD i []] := by
      rw [List.take_add_one, List.getD_eq_getElem?_getD, List.getElem?_eq_getElem hi]; rfl
    have hw : (32 : UInt8) ∉ ws.getD i [] := hn _ (getD_mem hi)
    rw [joinT, e]
    by_cases h0 : 0 < i
    · rw [if_pos h0, joinW_snoc _ (by
        intro e
        have := congrArg List.length e
        rw [List.length_take, List.length_nil] at this
        omega), ih, turn_append]
      show _ = turn 32 95 _ ++ ((if (32 : UInt8) = 32 then 95 else 32) :: turn 32 95 _)
      rw [turn_no hw]
      simp
    · obtain rfl : i = 0 := by omega
      rw [if_neg h0]
      show [] ++ ws.getD 0 [] = turn 32 95 (ws.getD 0 [])
      rw [turn_no hw]; rfl
theorem turn_len (a b : UInt8) (s : List UInt8) : (turn a b s).length = s.length := by simp [turn]
theorem joinT_all (s : List UInt8) : joinT (wordsOf s) (wordsOf s).length = turn 32 95 s := by
  have h := words_in s
  rw [joinT_take _ _ (Nat.le_refl _) h.no, List.take_length, h.join]
theorem joinT_mono (ws : List (List UInt8)) (i : Nat) : (joinT ws i).length ≤ (joinT ws (i + 1)).length := by
  rw [joinT, List.length_append]
  split
  · rw [List.length_append]; omega
  · omega
theorem joinT_le (s : List UInt8) : ∀ k i, i + k = (wordsOf s).length → (joinT (wordsOf s) i).length ≤ s.length
  | 0, i, h => by
    obtain rfl : i = (wordsOf s).length := by omega
    rw [joinT_all, turn_len]; exact Nat.le_refl _
  | k + 1, i, h => Nat.le_trans (joinT_mono _ i) (joinT_le s k (i + 1) (by omega))
-- THE LOOP
theorem e20 : RCt sp20 20 Tryz.f20 [TU] [s0] .leaf [] [.next 0 (.code (.loop (lb Tryz.f20 0)) :: lq Tryz.f20 0) [] ⟨[(9, (.lit 0))], [], [(7, (.lit []))], [], [(13, 481), (12, 480)]⟩] := by unfold RCt; kernel_rfl
def sUf : Sub := ⟨[(9, up9)], [], [(7, (.cat (.var 7) uW))], [], [(13, 13), (12, 12)]⟩
def sUt : Sub := ⟨[(9, up9)], [], [(7, (.cat uX uW))], [], [(13, 13), (12, 12)]⟩
theorem r20f : RHt sp20 20 Tryz.f20 0 [TU] TU (lt9 (.var 41) true ++ (gt0 false ++ fSz (.cat (.var 7) uW))) [.next 0 (.inLoop (lb Tryz.f20 0) :: lq Tryz.f20 0) [] sUf] := by unfold RHt; kernel_rfl
theorem r20t : RHt sp20 20 Tryz.f20 0 [TU] TU (lt9 (.var 41) true ++ (gt0 true ++ (fSz uX ++ fSz (.cat uX uW)))) [.next 0 (.inLoop (lb Tryz.f20 0) :: lq Tryz.f20 0) [] sUt] := by unfold RHt; kernel_rfl
theorem r20e : RHt sp20 20 Tryz.f20 0 [TU] TU (lt9 (.var 41) false) [.ret (.str (.var 7)) []] := by unfold RHt; kernel_rfl
structure JU (s : List UInt8) (i : Nat) (ρ : Env) : Prop where
  i9 : ρ.I 9 = (i : Int)
  le : i ≤ (wordsOf s).length
  s7 : ρ.S 7 = bytes (joinT (wordsOf s) i)
theorem JU.of_le {s : List UInt8} {i : Nat} {ρ ρ' : Env} (h : JU s i ρ) (hle : ρ.Le ρ') : JU s i ρ' := ⟨by rw [hle.i]; exact h.i9, h.le, by rw [hle.s]; exact h.s7⟩
section
variable {s : List UInt8} {ρ : Env}
theorem uKeep {σ : Sub} (h1 : lk σ.I 40 = none) (h2 : lk σ.I 41 = none) (h3 : lk σ.S 0 = none) (h4 : lk σ.S 1 = none) (h : (G2 s).at ρ) : (G2 s).at (σ.app ρ) :=
  ⟨⟨(app_S h3).trans h.1.1, (app_S h4).trans h.1.2⟩, by
    show (σ.app ρ).I 40 = _
    simp only [Sub.app, h1]; exact h.2.1, by
    show (σ.app ρ).I 41 = _
    simp only [Sub.app, h2]; exact h.2.2⟩
theorem words_le (hs : s.length ≤ 1000) : (wordsOf s).length ≤ 1001 := by
  have := (words_in s).len; omega
theorem JU.cs {i : Nat} (h : JU s i ρ) (hG : (G2 s).at ρ) : CRel ρ TU.cs := cs9_ok h.i9 (varD hG.2.2) h.le
theorem uW_den {i : Nat} (h : JU s i ρ) (hG : (G2 s).at ρ) (hi : i < (wordsOf s).length) : uW.den ρ = bytes ((wordsOf s).getD i []) := by
  have h40 : ρ.I 40 = encW (wordsOf s) := hG.2.1
  simp only [uW, ST.den, PT.den, h40, h.i9]
  rw [un0_enc hi, decS_encS]
def QU (s : List UInt8) (v : Value) : Prop := v = .string (bytes (turn 32 95 s))
theorem loop20 (hs : s.length ≤ 1000) {w : World} : ∀ (_ : Unit) ρ, (∃ i, JU s i ρ) → ∀ todo a w1, todo = .inLoop (lb Tryz.f20 0) :: lq Tryz.f20 0 ∨ todo = .code (.loop (lb Tryz.f20 0)) :: lq Tryz.f20 0 → SRel ⟨w, [], G2 s⟩ ρ (TU.st todo) a w1 → Goes Tryz.prog 20 (fun v w' => QU s v ∧ Framed w w') todo a w1 :=
  scanT (β := ⟨w, [], G2 s⟩) (sp := sp20) (f := 20) (fn := Tryz.f20) (j := 0) (Ts := [TU]) (T := fun (_ : Unit) => TU) (spL_ok fun p hp => by
      rw [List.mem_singleton.1 hp]
      exact spWd_ok hs) rfl (Q := QU s) (fun _ ρ => ∃ i, JU s i ρ) (fun _ ρ => (((wordsOf s).length : Int) - ρ.I 9).toNat) fun _ ρ ⟨i, j⟩ hG hcs ih => by
    have hi := j.le
    have hwl := words_le hs
    have e9 : at9.den ρ = some (i : Int) := varD j.i9
    have e41 : (IT.var 41).den ρ = some (((wordsOf s).length : Nat) : Int) := varD hG.2.2
    by_cases hlt : i < (wordsOf s).length
    · have hlen := joinT_le s ((wordsOf s).length - (i + 1)) (i + 1) (by omega)
      have s7 : (ST.var 7).den ρ = bytes (joinT (wordsOf s) i) := j.s7
      by_cases h0 : 0 < i
      · have e : joinT (wordsOf s) (i + 1) = (joinT (wordsOf s) i ++ [95]) ++ (wordsOf s).getD i [] := by rw [joinT, if_pos h0]
        have dX : uX.den ρ = bytes (joinT (wordsOf s) i ++ [95]) := catD s7 (slitD _)
        have dC := catD dX (uW_den j hG hlt)
        rw [← e] at dC
        have hl2 : (joinT (wordsOf s) i ++ [95]).length ≤ 1000000 := by
          have := joinT_mono (wordsOf s) i
          rw [e, List.length_append] at hlen
          omega
        refine ⟨_, _, CRel_app.2 ⟨lt9_ok j.i9 e41 (decide_eq_true hlt), CRel_app.2 ⟨qD e9 (litD 0) (by simp [intCmp]; omega) c0, CRel_app.2 ⟨fSz_ok dX hl2, fSz_ok dC (by omega)⟩⟩⟩, r20t, Go.Vm.one (nextS rfl fun ρ' hle hG' => ?_)⟩
        have j' := j.of_le hle
        have dC' := catD (catD (show (ST.var 7).den ρ' = _ from j'.s7) (slitD [95])) (uW_den j' hG' hlt)
        have jn : JU s (i + 1) (sUt.app ρ') := ⟨sbI (t := up9) rfl (upD (varD j'.i9) (by omega)), hlt, by
          rw [e]; exact dC'⟩
        have hGn : (G2 s).at (sUt.app ρ') := uKeep rfl rfl rfl rfl hG'
        exact ⟨hGn, jn.cs hGn, fun a w' r => ih () _ (by rw [jn.i9, j.i9]; omega) ⟨_, jn⟩ _ a w' (.inl rfl) r⟩
      · have e : joinT (wordsOf s) (i + 1) = joinT (wordsOf s) i ++ (wordsOf s).getD i [] := by rw [joinT, if_neg h0]
        have dC := catD s7 (uW_den j hG hlt)
        rw [← e] at dC
        refine ⟨_, _, CRel_app.2 ⟨lt9_ok j.i9 e41 (decide_eq_true hlt), CRel_app.2 ⟨qD e9 (litD 0) (by simp [intCmp]; omega) c0, fSz_ok dC (by omega)⟩⟩, r20f, Go.Vm.one (nextS rfl fun ρ' hle hG' => ?_)⟩
        have j' := j.of_le hle
        have dC' := catD (show (ST.var 7).den ρ' = _ from j'.s7) (uW_den j' hG' hlt)
        have jn : JU s (i + 1) (sUf.app ρ') := ⟨sbI (t := up9) rfl (upD (varD j'.i9) (by omega)), hlt, by
          rw [e]; exact dC'⟩
        have hGn : (G2 s).at (sUf.app ρ') := uKeep rfl rfl rfl rfl hG'
        exact ⟨hGn, jn.cs hGn, fun a w' r => ih () _ (by rw [jn.i9, j.i9]; omega) ⟨_, jn⟩ _ a w' (.inl rfl) r⟩
    · obtain rfl : i = (wordsOf s).length := by omega
      refine ⟨_, _, lt9_ok j.i9 e41 (decide_eq_false hlt), r20e, Go.Vm.one (retS (z := .string (bytes (turn 32 95 s))) (fun ρ' hle => ?_) rfl)⟩
      have := (j.of_le hle).s7
      rw [joinT_all] at this
      simp only [AVal.den, ST.den, this]
theorem under20 {w : World} (s : List UInt8) (hs : s.length ≤ 1000) : Calls Tryz.prog 20 #[.string (bytes s)] w (fun e w' => e = .returned (.string (bytes (turn 32 95 s))) ∧ Framed w w') := by
  refine (callT (β := ⟨w, [], G2 s⟩) (ρ := env2 s) (Q := QU s) (spL_ok fun p hp => by
      rw [List.mem_singleton.1 hp]
      exact spWd_ok hs) rfl Tryz.func20 rfl e20 (xs := [.string (bytes s)]) rfl (HRel.ro [] (fun p hp => by cases hp) (fun _ _ => rfl) (env2_G s)) c0 (Go.Vm.one (nextS rfl fun ρ' hle hG' => ?_))).mono fun e w' ⟨v, he, hv, hf⟩ => ⟨by rw [he, hv], hf⟩
  have hGn : (G2 s).at (Sub.app ⟨[(9, (.lit 0))], [], [(7, (.lit []))], [], [(13, 481), (12, 480)]⟩ ρ') := uKeep rfl rfl rfl rfl hG'
  have jn : JU s 0 (Sub.app ⟨[(9, (.lit 0))], [], [(7, (.lit []))], [], [(13, 481), (12, 480)]⟩ ρ') := ⟨rfl, Nat.zero_le _, rfl⟩
  exact ⟨hGn, jn.cs hGn, fun a w' r => loop20 hs () _ ⟨0, jn⟩ _ a w' (.inr rfl) r⟩
end
end Txt
end Go.Proofs.YtjjijagclgambaaGreatDoor
